/-
  SEVERAL TEXTS IN ONE (joined by tools/assemble.py of this repository): Sk, Ad, Ae, Af, Ag, Ah, Sj, Ai, Rx, Ba, Bb, Bc, Be, Bf.
-/
import Derived.Test.YtjlmeikcfdanmaaGreatDoorQu3
import Derived.KernelRfl
set_option linter.unusedVariables false
set_option linter.unusedSimpArgs false
namespace Go.Proofs.YtjlmeikcfdanmaaGreatDoor.DE
open Go
variable (cf:CallF) (a0 a1:D) (S:Store) (Q:QT) (Post:PT)
set_option maxRecDepth 100000
def s99 (cf:CallF) (a0 a1:D) (S:Store) (Post:PT):Prop:=
 bxx 10 true a0 S fun x1 S2=>bxx 10 true a1 S2 fun x3 S4=>OX (faD 0 x1) fun x5=>OX (ldD S4 1 false x5) fun x6=>OX (faD 0 x3) fun x7=>OX (ldD S4 1 false x7) fun x8=>OX (isoCall cf 144 [x6,x8]) fun x9=>OX (faD 1 x1) fun x10=>OX (faD 0 x10) fun x11=>OX (ldD S4 1 false x11) fun x12=>OX (faD 1 x3) fun x13=>OX (faD 0 x13) fun x14=>OX (ldD S4 1 false x14) fun x15=>OX (isoCall cf 144 [x12,x15]) fun x16=>OX (faD 1 x1) fun x17=>OX (faD 1 x17) fun x18=>OX (ldD S4 1 false x18) fun x19=>OX (faD 1 x3) fun x20=>OX (faD 1 x20) fun x21=>OX (ldD S4 1 false x21) fun x22=>OX (isoCall cf 144 [x19,x22]) fun x23=>OX (faD 3 x1) fun x24=>OX (ldD S4 1 false x24) fun x25=>OX (faD 3 x3) fun x26=>OX (ldD S4 1 false x26) fun x27=>OX (isoCall cf 145 [x25,x27,(.fn 146 [])]) fun x28=>OX (faD 4 x1) fun x29=>OX (ldD S4 1 false x29) fun x30=>OX (faD 4 x3) fun x31=>OX (ldD S4 1 false x31) fun x32=>OX (isoCall cf 144 [x30,x32]) fun x33=>OX (faD 5 x1) fun x34=>OX (ldD S4 1 false x34) fun x35=>OX (faD 5 x3) fun x36=>OX (ldD S4 1 false x36) fun x37=>OX (isoCall cf 147 [x35,x37,(.fn 148 [])]) fun x38=>OX (faD 6 x1) fun x39=>OX (ldD S4 1 false x39) fun x40=>OX (faD 6 x3) fun x41=>OX (ldD S4 1 false x41) fun x42=>OX (isoCall cf 144 [x40,x42]) fun x43=>OX (faD 7 x1) fun x44=>OX (ldD S4 3 true x44) fun x45=>OX (faD 7 x3) fun x46=>OX (ldD S4 3 true x46) fun x47=>OX (isoCall cf 149 [x45,x47]) fun x48=>OX (cellsV 1 false [x9,x16,x23,x28,x33,x38,x43,x48]) fun x49=>OX (isoCall cf 143 [(.sl 1 false x49 .ro)]) fun x50=>Post x50 S4
theorem wpIS_of {cf:CallF} {l:List I} {fr:List D} {S:Store} {Q:List D→Store→Prop} {X:Prop} (h:(frc fr fun fr'=>wpI cf l fr' S Q)=X):wpI cf l fr S Q=X:=(frc_eq fr _).symm.trans h
def o99_1:List I:=[.o 5 (.fa 0 (.t 2)),.o 6 (.ld 1 false (.t 5)),.o 7 (.fa 0 (.t 3)),.o 8 (.ld 1 false (.t 7)),.o 9 (.call 144 true [.t 6,.t 8]),.o 10 (.fa 1 (.t 2)),.o 11 (.fa 0 (.t 10)),.o 12 (.ld 1 false (.t 11)),.o 13 (.fa 1 (.t 3)),.o 14 (.fa 0 (.t 13)),.o 15 (.ld 1 false (.t 14)),.o 16 (.call 144 true [.t 12,.t 15]),.o 17 (.fa 1 (.t 2)),.o 18 (.fa 1 (.t 17)),.o 19 (.ld 1 false (.t 18)),.o 20 (.fa 1 (.t 3))]
def o99_2:List I:=[.o 21 (.fa 1 (.t 20)),.o 22 (.ld 1 false (.t 21)),.o 23 (.call 144 true [.t 19,.t 22]),.o 24 (.fa 3 (.t 2)),.o 25 (.ld 1 false (.t 24)),.o 26 (.fa 3 (.t 3)),.o 27 (.ld 1 false (.t 26)),.o 28 (.call 145 true [.t 25,.t 27,.c (.fn 146 [])]),.o 29 (.fa 4 (.t 2)),.o 30 (.ld 1 false (.t 29)),.o 31 (.fa 4 (.t 3)),.o 32 (.ld 1 false (.t 31)),.o 33 (.call 144 true [.t 30,.t 32]),.o 34 (.fa 5 (.t 2)),.o 35 (.ld 1 false (.t 34)),.o 36 (.fa 5 (.t 3))]
def o99_3:List I:=[.o 37 (.ld 1 false (.t 36)),.o 38 (.call 147 true [.t 35,.t 37,.c (.fn 148 [])]),.o 39 (.fa 6 (.t 2)),.o 40 (.ld 1 false (.t 39)),.o 41 (.fa 6 (.t 3)),.o 42 (.ld 1 false (.t 41)),.o 43 (.call 144 true [.t 40,.t 42]),.o 44 (.fa 7 (.t 2)),.o 45 (.ld 3 true (.t 44)),.o 46 (.fa 7 (.t 3)),.o 47 (.ld 3 true (.t 46)),.o 48 (.call 149 true [.t 45,.t 47]),.o 49 (.bsl 1 false false [.t 9,.t 16,.t 23,.t 28,.t 33,.t 38,.t 43,.t 48]),.o 50 (.call 143 true [.t 49]),.o 4 (.mv (.t 50))]
theorem e99_1 (cf:CallF) (x1 x3:D) (S:Store) (Q:List D→Store→Prop):wpI cf o99_1 (mkf 51 [(2,x1),(3,x3)]) S Q=(
 OX (faD 0 x1) fun x5=>OX (ldD S 1 false x5) fun x6=>OX (faD 0 x3) fun x7=>OX (ldD S 1 false x7) fun x8=>OX (isoCall cf 144 [x6,x8]) fun x9=>OX (faD 1 x1) fun x10=>OX (faD 0 x10) fun x11=>OX (ldD S 1 false x11) fun x12=>OX (faD 1 x3) fun x13=>OX (faD 0 x13) fun x14=>OX (ldD S 1 false x14) fun x15=>OX (isoCall cf 144 [x12,x15]) fun x16=>OX (faD 1 x1) fun x17=>OX (faD 1 x17) fun x18=>OX (ldD S 1 false x18) fun x19=>OX (faD 1 x3) fun x20=>Q (mkf 51 [(2,x1),(3,x3),(5,x5),(6,x6),(7,x7),(8,x8),(9,x9),(10,x10),(11,x11),(12,x12),(13,x13),(14,x14),(15,x15),(16,x16),(17,x17),(18,x18),(19,x19),(20,x20)]) S):=wpIS_of (by kernel_rfl)
theorem e99_2 (cf:CallF) (x1 x3 x5 x6 x7 x8 x9 x10 x11 x12 x13 x14 x15 x16 x17 x18 x19 x20:D) (S:Store) (Q:List D→Store→Prop):wpI cf o99_2 (mkf 51 [(2,x1),(3,x3),(5,x5),(6,x6),(7,x7),(8,x8),(9,x9),(10,x10),(11,x11),(12,x12),(13,x13),(14,x14),(15,x15),(16,x16),(17,x17),(18,x18),(19,x19),(20,x20)]) S Q=(
 OX (faD 1 x20) fun x21=>OX (ldD S 1 false x21) fun x22=>OX (isoCall cf 144 [x19,x22]) fun x23=>OX (faD 3 x1) fun x24=>OX (ldD S 1 false x24) fun x25=>OX (faD 3 x3) fun x26=>OX (ldD S 1 false x26) fun x27=>OX (isoCall cf 145 [x25,x27,(.fn 146 [])]) fun x28=>OX (faD 4 x1) fun x29=>OX (ldD S 1 false x29) fun x30=>OX (faD 4 x3) fun x31=>OX (ldD S 1 false x31) fun x32=>OX (isoCall cf 144 [x30,x32]) fun x33=>OX (faD 5 x1) fun x34=>OX (ldD S 1 false x34) fun x35=>OX (faD 5 x3) fun x36=>Q (mkf 51 [(2,x1),(3,x3),(5,x5),(6,x6),(7,x7),(8,x8),(9,x9),(10,x10),(11,x11),(12,x12),(13,x13),(14,x14),(15,x15),(16,x16),(17,x17),(18,x18),(19,x19),(20,x20),(21,x21),(22,x22),(23,x23),(24,x24),(25,x25),(26,x26),(27,x27),(28,x28),(29,x29),(30,x30),(31,x31),(32,x32),(33,x33),(34,x34),(35,x35),(36,x36)]) S):=wpIS_of (by kernel_rfl)
theorem e99_3 (cf:CallF) (x1 x3 x5 x6 x7 x8 x9 x10 x11 x12 x13 x14 x15 x16 x17 x18 x19 x20 x21 x22 x23 x24 x25 x26 x27 x28 x29 x30 x31 x32 x33 x34 x35 x36:D) (S:Store) (Q:List D→Store→Prop):wpI cf o99_3 (mkf 51 [(2,x1),(3,x3),(5,x5),(6,x6),(7,x7),(8,x8),(9,x9),(10,x10),(11,x11),(12,x12),(13,x13),(14,x14),(15,x15),(16,x16),(17,x17),(18,x18),(19,x19),(20,x20),(21,x21),(22,x22),(23,x23),(24,x24),(25,x25),(26,x26),(27,x27),(28,x28),(29,x29),(30,x30),(31,x31),(32,x32),(33,x33),(34,x34),(35,x35),(36,x36)]) S Q=(
 OX (ldD S 1 false x36) fun x37=>OX (isoCall cf 147 [x35,x37,(.fn 148 [])]) fun x38=>OX (faD 6 x1) fun x39=>OX (ldD S 1 false x39) fun x40=>OX (faD 6 x3) fun x41=>OX (ldD S 1 false x41) fun x42=>OX (isoCall cf 144 [x40,x42]) fun x43=>OX (faD 7 x1) fun x44=>OX (ldD S 3 true x44) fun x45=>OX (faD 7 x3) fun x46=>OX (ldD S 3 true x46) fun x47=>OX (isoCall cf 149 [x45,x47]) fun x48=>OX (cellsV 1 false [x9,x16,x23,x28,x33,x38,x43,x48]) fun x49=>OX (isoCall cf 143 [(.sl 1 false x49 .ro)]) fun x50=>Q (mkf 51 [(2,x1),(3,x3),(4,x50),(5,x5),(6,x6),(7,x7),(8,x8),(9,x9),(10,x10),(11,x11),(12,x12),(13,x13),(14,x14),(15,x15),(16,x16),(17,x17),(18,x18),(19,x19),(20,x20),(21,x21),(22,x22),(23,x23),(24,x24),(25,x25),(26,x26),(27,x27),(28,x28),(29,x29),(30,x30),(31,x31),(32,x32),(33,x33),(34,x34),(35,x35),(36,x36),(37,x37),(38,x38),(39,x39),(40,x40),(41,x41),(42,x42),(43,x43),(44,x44),(45,x45),(46,x46),(47,x47),(48,x48),(49,.sl 1 false x49 .ro),(50,x50)]) S):=wpIS_of (by kernel_rfl)
theorem k99 (x1 x3 x5 x6 x7 x8 x9 x10 x11 x12 x13 x14 x15 x16 x17 x18 x19 x20 x21 x22 x23 x24 x25 x26 x27 x28 x29 x30 x31 x32 x33 x34 x35 x36 x37 x38 x39 x40 x41 x42 x43 x44 x45 x46 x47 x48 x49 x50:D):fkill (mkf 51 [(2,x1),(3,x3),(4,x50),(5,x5),(6,x6),(7,x7),(8,x8),(9,x9),(10,x10),(11,x11),(12,x12),(13,x13),(14,x14),(15,x15),(16,x16),(17,x17),(18,x18),(19,x19),(20,x20),(21,x21),(22,x22),(23,x23),(24,x24),(25,x25),(26,x26),(27,x27),(28,x28),(29,x29),(30,x30),(31,x31),(32,x32),(33,x33),(34,x34),(35,x35),(36,x36),(37,x37),(38,x38),(39,x39),(40,x40),(41,x41),(42,x42),(43,x43),(44,x44),(45,x45),(46,x46),(47,x47),(48,x48),(49,x49),(50,x50)]) [2,3,5,6,7,8,9,10,11,12,13,14,15,16,17,18,19,20,21,22,23,24,25,26,27,28,29,30,31,32,33,34,35,36,37,38,39,40,41,42,43,44,45,46,47,48,49,50]=mkf 51 [(4,x50)]:=by kernel_rfl
theorem wpI_app (cf:CallF) (Q:List D→Store→Prop):∀ (a b:List I) (fr:List D) (S:Store),wpI cf (a++b) fr S Q=wpI cf a fr S fun fr' S'=>wpI cf b fr' S' Q
 | [],b,fr,S=>rfl
 | i::a,b,fr,S=>by
  simp only [wpI_eq,List.cons_append,WI]
  cases evI cf fr S i with
  | none=>rfl
  | some p=>have:=wpI_app cf Q a b p.1 p.2;simpa only [wpI_eq] using this
theorem h99 (cf:CallF) (a0 a1:D) (c2:C) (S:Store) (Q:QT) :
  wp cf (.seq (.reg [.o 2 (.box 10 true (.t 0)),.o 3 (.box 10 true (.t 1)),.o 4 (.mv (.c (.i .i64 0)))] [0,1,4]) c2) (frame0 d99 [a0,a1]) S Q =
  bxx 10 true a0 S fun x1 S2=>bxx 10 true a1 S2 fun x3 S4=>wp cf c2 (mkf 51 [(2,x1),(3,x3)]) S4 Q:=wpS_of (by kernel_rfl)
theorem d99_eq (cf:CallF) (B:List (Nat × I)) (kl:List Nat) (fr:List D) (S:Store) (Q:QT) :
  wp cf (.seq (.dreg B kl) .ret) fr S Q=wpI cf (snds B) fr S fun fr' S'=>Q .ret (fkill fr' kl) S':=by
 have:(fun fr' S'=>Q .ret (fkill fr' kl) S')=fun fr' S'=>killF fr' kl fun fr2=>Qseq (fun fr' S'=>wp cf .ret fr' S' Q) Q .normal fr2 S':=by
  funext fr' S';rw [killF_eq];rfl
 rw [this];rfl
theorem b99:c99 = .seq (.reg [.o 2 (.box 10 true (.t 0)),.o 3 (.box 10 true (.t 1)),.o 4 (.mv (.c (.i .i64 0)))] [0,1,4]) (.seq (.dreg [(0,.o 5 (.fa 0 (.t 2))),(1,.o 6 (.ld 1 false (.t 5))),(2,.o 7 (.fa 0 (.t 3))),(3,.o 8 (.ld 1 false (.t 7))),(4,.o 9 (.call 144 true [.t 6,.t 8])),(5,.o 10 (.fa 1 (.t 2))),(6,.o 11 (.fa 0 (.t 10))),(7,.o 12 (.ld 1 false (.t 11))),(8,.o 13 (.fa 1 (.t 3))),(9,.o 14 (.fa 0 (.t 13))),(10,.o 15 (.ld 1 false (.t 14))),(11,.o 16 (.call 144 true [.t 12,.t 15])),(12,.o 17 (.fa 1 (.t 2))),(13,.o 18 (.fa 1 (.t 17))),(14,.o 19 (.ld 1 false (.t 18))),(15,.o 20 (.fa 1 (.t 3))),(16,.o 21 (.fa 1 (.t 20))),(17,.o 22 (.ld 1 false (.t 21))),(18,.o 23 (.call 144 true [.t 19,.t 22])),(19,.o 24 (.fa 3 (.t 2))),(20,.o 25 (.ld 1 false (.t 24))),(21,.o 26 (.fa 3 (.t 3))),(22,.o 27 (.ld 1 false (.t 26))),(23,.o 28 (.call 145 true [.t 25,.t 27,.c (.fn 146 [])])),(24,.o 29 (.fa 4 (.t 2))),(25,.o 30 (.ld 1 false (.t 29))),(26,.o 31 (.fa 4 (.t 3))),(27,.o 32 (.ld 1 false (.t 31))),(28,.o 33 (.call 144 true [.t 30,.t 32])),(29,.o 34 (.fa 5 (.t 2))),(30,.o 35 (.ld 1 false (.t 34))),(31,.o 36 (.fa 5 (.t 3))),(32,.o 37 (.ld 1 false (.t 36))),(33,.o 38 (.call 147 true [.t 35,.t 37,.c (.fn 148 [])])),(34,.o 39 (.fa 6 (.t 2))),(35,.o 40 (.ld 1 false (.t 39))),(36,.o 41 (.fa 6 (.t 3))),(37,.o 42 (.ld 1 false (.t 41))),(38,.o 43 (.call 144 true [.t 40,.t 42])),(39,.o 44 (.fa 7 (.t 2))),(40,.o 45 (.ld 3 true (.t 44))),(41,.o 46 (.fa 7 (.t 3))),(42,.o 47 (.ld 3 true (.t 46))),(43,.o 48 (.call 149 true [.t 45,.t 47])),(44,.o 49 (.bsl 1 false false [.t 9,.t 16,.t 23,.t 28,.t 33,.t 38,.t 43,.t 48])),(45,.o 50 (.call 143 true [.t 49])),(46,.o 4 (.mv (.t 50)))] [2,3,5,6,7,8,9,10,11,12,13,14,15,16,17,18,19,20,21,22,23,24,25,26,27,28,29,30,31,32,33,34,35,36,37,38,39,40,41,42,43,44,45,46,47,48,49,50]) .ret):=rfl
theorem n99:snds [(0,.o 5 (.fa 0 (.t 2))),(1,.o 6 (.ld 1 false (.t 5))),(2,.o 7 (.fa 0 (.t 3))),(3,.o 8 (.ld 1 false (.t 7))),(4,.o 9 (.call 144 true [.t 6,.t 8])),(5,.o 10 (.fa 1 (.t 2))),(6,.o 11 (.fa 0 (.t 10))),(7,.o 12 (.ld 1 false (.t 11))),(8,.o 13 (.fa 1 (.t 3))),(9,.o 14 (.fa 0 (.t 13))),(10,.o 15 (.ld 1 false (.t 14))),(11,.o 16 (.call 144 true [.t 12,.t 15])),(12,.o 17 (.fa 1 (.t 2))),(13,.o 18 (.fa 1 (.t 17))),(14,.o 19 (.ld 1 false (.t 18))),(15,.o 20 (.fa 1 (.t 3))),(16,.o 21 (.fa 1 (.t 20))),(17,.o 22 (.ld 1 false (.t 21))),(18,.o 23 (.call 144 true [.t 19,.t 22])),(19,.o 24 (.fa 3 (.t 2))),(20,.o 25 (.ld 1 false (.t 24))),(21,.o 26 (.fa 3 (.t 3))),(22,.o 27 (.ld 1 false (.t 26))),(23,.o 28 (.call 145 true [.t 25,.t 27,.c (.fn 146 [])])),(24,.o 29 (.fa 4 (.t 2))),(25,.o 30 (.ld 1 false (.t 29))),(26,.o 31 (.fa 4 (.t 3))),(27,.o 32 (.ld 1 false (.t 31))),(28,.o 33 (.call 144 true [.t 30,.t 32])),(29,.o 34 (.fa 5 (.t 2))),(30,.o 35 (.ld 1 false (.t 34))),(31,.o 36 (.fa 5 (.t 3))),(32,.o 37 (.ld 1 false (.t 36))),(33,.o 38 (.call 147 true [.t 35,.t 37,.c (.fn 148 [])])),(34,.o 39 (.fa 6 (.t 2))),(35,.o 40 (.ld 1 false (.t 39))),(36,.o 41 (.fa 6 (.t 3))),(37,.o 42 (.ld 1 false (.t 41))),(38,.o 43 (.call 144 true [.t 40,.t 42])),(39,.o 44 (.fa 7 (.t 2))),(40,.o 45 (.ld 3 true (.t 44))),(41,.o 46 (.fa 7 (.t 3))),(42,.o 47 (.ld 3 true (.t 46))),(43,.o 48 (.call 149 true [.t 45,.t 47])),(44,.o 49 (.bsl 1 false false [.t 9,.t 16,.t 23,.t 28,.t 33,.t 38,.t 43,.t 48])),(45,.o 50 (.call 143 true [.t 49])),(46,.o 4 (.mv (.t 50)))]=o99_1++(o99_2++o99_3):=rfl
theorem e99:wp cf c99 (frame0 d99 [a0,a1]) S (FinK d99.res Post)=s99 cf a0 a1 S Post:=by
 rw [b99,h99]
 simp only [d99_eq,n99,wpI_app,e99_1,e99_2,e99_3,k99]
 rfl
theorem i99 (a0 a1:D) (r:D) (ha:noRefL (stripL [a0,a1])=true) (hr:noRef r=true) (h:s99 (call dp) (strip a0) (strip a1) [] fun d _=>stripT d=r):isoCall (call dp) 99 [a0,a1]=some r:=iso_s (f:=d99) rfl ⟨rfl,by decide⟩ ha hr (by rw [←e99] at h;exact h)
end Go.Proofs.YtjlmeikcfdanmaaGreatDoor.DE

namespace Go.Proofs.YtjlmeikcfdanmaaGreatDoor.DE.V
open Go BT
set_option linter.unusedSimpArgs false
def Cmps {α:Type} (e:α→D) (ok:α→Prop) (c:α→α→Int):Prop:=∀ a b,ok a→isoCall (call dp) 146 [e a,e b]=some (.i .i64 (c a b))
section
variable {α:Type} {e:α→D} {ok:α→Prop} {c:α→α→Int}
theorem noRef_agAt (h:GE e) (f:Fc α):noRef (.agg (eAt e f))=true:=noRefL_eAt h f
theorem noRef_agFc (h:GE e) (f:Fc α):noRef (.agg (eFc e f))=true:=noRefL_eFc h f
theorem noRef_agTm (h:GE e) (f:Tm α):noRef (.agg (eTm e f))=true:=noRefL_eTm h f
theorem noRef_agIt (h:GE e) (f:Vl × α):noRef (.agg (eIt e f))=true:=noRefL_eIt h f
theorem v148 (he:GE e) (H:Cmps e ok c) (p q:Vl × α) (h:ok p.2):isoCall (call dp) 148 [.agg (eIt e p),.agg (eIt e q)]=some (.i .i64 (cmpIt c p q)):=by
 apply i148 _ _ _ (by simp [noRefL,noRef_agIt he,strip_agIt e he]) rfl
 have h1:=v143g [cmpVl p.1 q.1,c p.2 q.2] (by simp [Bd])
 simp only [List.map_cons,List.map_nil] at h1
 simp [s148,strip_agIt e he,cellsK_it e he,v149,H _ _ h,cellsV,h1,cmpIt]
theorem v99 (he:GE e) (H:Cmps e ok c) (f g:Fc α) (h:OkFc ok f):isoCall (call dp) 99 [.agg (eAt e f),.agg (eAt e g)]=some (.i .i64 (cmpAt c f g)):=by
 apply i99 _ _ _ (by simp [noRefL,noRef_agAt he]) rfl
 have h1:=v143g [cmpI f.kind g.kind,cmpI f.row.1 g.row.1,cmpI f.row.2 g.row.2,cmpL c f.args g.args,cmpI f.fn g.fn,cmpL (cmpIt c) f.items g.items,cmpI f.op g.op,cmpVl f.bound g.bound] (by simp [Bd])
 simp only [List.map_cons,List.map_nil] at h1
 have h2:=v145 he c f.anl g.anl f.args g.args h.alen fun x hx y _=>H x y (h.args x hx)
 have h3:=v147 he (cmpIt c) f.inl g.inl f.items g.items h.ilen fun x hx y _=>v148 he H x y (h.items x hx).2
 simp [s99,v144,v149,h2,h3,cellsV,h1,cmpAt]
theorem v142 (he:GE e) (H:Cmps e ok c) (f g:Fc α) (h:OkFc ok f):isoCall (call dp) 142 [.agg (eFc e f),.agg (eFc e g)]=some (.i .i64 (cmpFc c f g)):=by
 apply i142 _ _ _ (by simp [noRefL,noRef_agFc he]) rfl
 have h1:=v143g [cmpAt c f g,cmpI f.exp g.exp] (by simp [Bd])
 simp only [List.map_cons,List.map_nil] at h1
 simp [s142,v144,v99 he H f g h,cellsV,h1,cmpFc]
theorem v97 (he:GE e) (H:Cmps e ok c) (s t:Tm α) (h:OkTm ok s):isoCall (call dp) 97 [.agg (eTm e s),.agg (eTm e t)]=some (.i .i64 (cmpTl c s t)):=by
 apply i97 _ _ _ (by simp [noRefL,noRef_agTm he]) rfl
 have h2:=v141 he (cmpFc c) s.nl t.nl s.fs t.fs h.len fun x hx y _=>v142 he H x y (h.fs x hx)
 simp [s97,h2,cmpTl]
theorem v189 (he:GE e) (H:Cmps e ok c) (s t:Tm α) (h:OkTm ok s):isoCall (call dp) 189 [.agg (eTm e s),.agg (eTm e t)]=some (.i .i64 (cmpTm c s t)):=by
 apply i189 _ _ _ (by simp [noRefL,noRef_agTm he]) rfl
 have h1:=v143g [cmpTl c s t,cmpI s.c t.c] (by simp [Bd])
 simp only [List.map_cons,List.map_nil] at h1
 simp [s189,v190,v97 he H s t h,cellsV,h1,cmpTm]
theorem v146s (he:GE e) (H:Cmps e ok c):Cmps (eAn e) (OkAn ok) (cmpAn c):=by
 intro x y h
 apply i146 _ _ _ (by simp [noRefL,noRef_eAn he]) rfl
 have h2:=v188 he (cmpTm c) x.nl y.nl x.ts y.ts h.len fun s hs t _=>v189 he H s t (h.ts s hs)
 simp only [s146,strip_eAn]
 simp only [eAn,h2,OX_some,stripT_i,cmpAn]
end
theorem v146:∀ n,Cmps (eAnn n) (OkAnn n) (cmpAnn n)
 | 0=>fun x=>nomatch x
 | n+1=>v146s (GE_eAnn n) (v146 n)
theorem v151 (n:Nat) (x y:Ann n) (h:OkAnn n x):isoCall (call dp) 151 [eAnn n x,eAnn n y]=some (.b (decide (cmpAnn n x y=0))):=by
 apply i151 _ _ _ (by simp [noRefL,(GE_eAnn n).noRef,(GE_eAnn n).strip]) rfl
 simp [-OX_b,s151,(GE_eAnn n).strip,v146 n x y h]
end Go.Proofs.YtjlmeikcfdanmaaGreatDoor.DE.V

namespace Go.Proofs.YtjlmeikcfdanmaaGreatDoor.DE.V
open Go BT
set_option linter.unusedSimpArgs false
set_option linter.unusedVariables false
def maxL {α:Type} (f:α→Nat):List α→Nat
 | []=>0
 | x::l=>max (f x) (maxL f l)
theorem maxL_snoc {α:Type} (f:α→Nat) (x:α):∀ l:List α,maxL f (l++[x])=max (maxL f l) (f x)
 | []=>by simp [maxL]
 | y::l=>by simp only [List.cons_append,maxL,maxL_snoc f x l];omega
theorem maxL_take {α:Type} (f:α→Nat) {l:List α} {k:Nat} {x:α} (h:l[k]? = some x):maxL f (l.take (k+1))=max (maxL f (l.take k)) (f x):=by
 rw [take_snoc h,maxL_snoc]
theorem maxL_le {α:Type} (f:α→Nat) {b:Nat}:∀ {l:List α},(∀ x,x∈l→f x≤b)→maxL f l≤b
 | [],_=>Nat.zero_le _
 | x::l,h=>by have:=maxL_le f (l:=l) fun y hy=>h y (by simp [hy]);have:=h x (by simp);simp only [maxL];omega
def sumT {α:Type} (f:α→Nat) (l:List α) (k:Nat):Nat:=(List.map f (l.take k)).sum
def maxT {α:Type} (f:α→Nat) (l:List α) (k:Nat):Nat:=maxL f (l.take k)
theorem sumT_succ {α:Type} (f:α→Nat) {l:List α} {k:Nat} {x:α} (h:l[k]? = some x):sumT f l (k+1)=sumT f l k+f x:=sum_take f h
theorem sumT_le {α:Type} (f:α→Nat) (l:List α) (k:Nat):sumT f l k≤(l.map f).sum:=sum_take_le f l k
theorem sumT_all {α:Type} (f:α→Nat) {l:List α} {k:Nat} (h:l.length≤k):sumT f l k=(l.map f).sum:=by rw [sumT,List.take_of_length_le h]
theorem maxT_succ {α:Type} (f:α→Nat) {l:List α} {k:Nat} {x:α} (h:l[k]? = some x):maxT f l (k+1)=max (maxT f l k) (f x):=maxL_take f h
theorem maxT_all {α:Type} (f:α→Nat) {l:List α} {k:Nat} (h:l.length≤k):maxT f l k=maxL f l:=by rw [maxT,List.take_of_length_le h]
section
variable {α:Type} (s d:α→Nat)
def szIt (p:Vl × α):Nat:=1+s p.2
def szFc (f:Fc α):Nat:=(f.args.map s).sum+(f.items.map (szIt s)).sum
def szTm (t:Tm α):Nat:=1+t.fs.length+(t.fs.map (szFc s)).sum
def szAn (x:An α):Nat:=(x.ts.map (szTm s)).sum
def neIt (p:Vl × α):Nat:=d p.2
def neFc (f:Fc α):Nat:=if f.kind=0 then 0 else 1+max (maxL d f.args) (maxL (neIt d) f.items)
def neTm (t:Tm α):Nat:=maxL (neFc d) t.fs
def neAn (x:An α):Nat:=maxL (neTm d) x.ts
end
def szAnn:(n:Nat)→Ann n→Nat
 | 0,x=>nomatch x
 | n+1,x=>szAn (szAnn n) x
def neAnn:(n:Nat)→Ann n→Nat
 | 0,x=>nomatch x
 | n+1,x=>neAn (neAnn n) x
theorem sum_le {α:Type} {f g:α→Nat}:∀ {l:List α},(∀ x,x∈l→f x≤g x)→(l.map f).sum≤(l.map g).sum
 | [],_=>Nat.le_refl _
 | x::l,h=>by have:=sum_le (l:=l) fun y hy=>h y (by simp [hy]);have:=h x (by simp);simp only [List.map_cons,List.sum_cons];omega
theorem sum_one {α:Type} (f:α→Nat):∀ l:List α,(l.map fun x=>1+f x).sum=l.length+(l.map f).sum
 | []=>rfl
 | x::l=>by have:=sum_one f l;simp only [List.map_cons,List.sum_cons,List.length_cons];omega
section
variable {α:Type} {s w d:α→Nat}
theorem szFc_le (h:∀ a,s a≤w a) (f:Fc α):szFc s f≤wFc w f:=by
 have h1:=sum_le (l:=f.args) fun x _=>h x
 have h2:(f.items.map (szIt s)).sum=f.items.length+(f.items.map fun p=>s p.2).sum:=sum_one (fun p:Vl × α=>s p.2) f.items
 have h3:(f.items.map fun p=>s p.2).sum≤(f.items.map (wIt w)).sum:=sum_le fun x _=>by have:=h x.2;simp only [wIt];omega
 simp only [szFc,wFc];omega
theorem szTm_le (h:∀ a,s a≤w a) (t:Tm α):szTm s t≤wTm w t:=by
 have h1:=sum_le (l:=t.fs) fun x _=>szFc_le h x
 simp only [szTm,wTm];omega
theorem szAn_le (h:∀ a,s a≤w a) (x:An α):szAn s x≤wAn w x:=sum_le fun t _=>szTm_le h t
end
theorem szAnn_le:∀ n x,szAnn n x≤wAnn n x
 | 0,x=>nomatch x
 | n+1,x=>szAn_le (szAnn_le n) x
section
variable {α:Type} {w:α→Nat} {b:Nat}
theorem wLe_tm {x:An α} (h:wAn w x≤b) {t:Tm α} (ht:t∈x.ts):wTm w t≤b:=Nat.le_trans (sum_mem_le _ ht) h
theorem wLe_fc {t:Tm α} (h:wTm w t≤b) {f:Fc α} (hf:f∈t.fs):wFc w f≤b:=by have:=sum_mem_le (wFc w) hf;simp only [wTm] at h;omega
theorem wLe_arg {f:Fc α} (h:wFc w f≤b) {a:α} (ha:a∈f.args):w a≤b:=by have:=sum_mem_le w ha;simp only [wFc] at h;omega
theorem wLe_item {f:Fc α} (h:wFc w f≤b) {p:Vl × α} (hp:p∈f.items):w p.2≤b:=by have:=sum_mem_le (wIt w) hp;simp only [wFc,wIt] at h this;omega
theorem wLe_ts {x:An α} (h:wAn w x≤b):x.ts.length≤b:=Nat.le_trans (len_le_sum (wTm w) (fun t=>by simp only [wTm];omega) x.ts) h
theorem wLe_fs {t:Tm α} (h:wTm w t≤b):t.fs.length≤b:=by simp only [wTm] at h;omega
theorem wLe_args {f:Fc α} (h:wFc w f≤b):f.args.length≤b:=by simp only [wFc] at h;omega
theorem wLe_items {f:Fc α} (h:wFc w f≤b):f.items.length≤b:=by simp only [wFc] at h;omega
end
theorem wrapN {n:Nat} (h:Bd n):IntKind.wrap .i64 (n:Int)=n:=wrap64 ⟨by omega,by unfold Bd at h;omega⟩
theorem wrap1 {k:Nat} (h:Bd k):IntKind.wrap .i64 (1+(k:Int))=((1+k:Nat):Int):=by
 rw [wrap64 ⟨by omega,by unfold Bd at h;omega⟩];omega
theorem wrapA {a b:Nat} (h:Bd (a+b)):IntKind.wrap .i64 ((a:Int)+b)=((a+b:Nat):Int):=by
 rw [wrap64 ⟨by omega,by unfold Bd at h;omega⟩];omega
def Sizes {α:Type} (e:α→D) (ok:α→Prop) (w s:α→Nat):Prop:=∀ a,ok a→w a≤40→isoCall (call dp) 136 [e a]=some (.i .i64 (s a))
set_option maxHeartbeats 1000000 in
theorem v136s {α:Type} {e:α→D} {ok:α→Prop} {w s:α→Nat} (he:GE e) (hsw:∀ a,s a≤w a) (H:Sizes e ok w s):Sizes (eAn e) (OkAn ok) (wAn w) (szAn s):=by
 intro x hx hw
 have hsz:=szAn_le hsw x
 have hlen:=wLe_ts hw
 apply i136 _ _ (by simp [noRefL,noRef_eAn he]) rfl
 simp [s136]
 let J:Nat→List D→Store→Prop:=fun q fr S=>∃ k m b2 b7 b15 b25 b26 b27 b28 b33 b34 b35 b36 b46 b47 b48 b49,fr=mkf 62 [(2,b2),(3,.i .i64 (m:Nat)),(7,b7),(12,eAn e x),(13,.i .i64 x.ts.length),(14,.i .i64 (k:Nat)),(15,b15),(25,b25),(26,b26),(27,b27),(28,b28),(33,b33),(34,b34),(35,b35),(36,b36),(46,b46),(47,b47),(48,b48),(49,b49)]∧k+q=x.ts.length∧m=sumT (szTm s) x.ts k
 refine W_loop J ?_ x.ts.length _ _ ⟨0,0,_,_,_,_,_,_,_,_,_,_,_,_,_,_,_,rfl,by simp,by simp [sumT]⟩
 intro q fr S hJ;obtain ⟨k,m,b2,b7,b15,b25,b26,b27,b28,b33,b34,b35,b36,b46,b47,b48,b49,hfr,hk,hm⟩:=hJ;rw [hfr]
 rw [←wp_W,e136_3]
 simp [s136_3]
 split
 ·rename_i h
  obtain ⟨t,ht⟩:=get_lt (l:=x.ts) (k:=k) (by omega)
  have htm:=List.mem_of_getElem? ht
  have hwt:=wLe_tm hw htm
  have hfl:=wLe_fs hwt
  have htot:m+szTm s t≤40:=by
   have:=sumT_le (szTm s) x.ts (k+1)
   rw [sumT_succ _ ht] at this
   unfold szAn at hsz;omega
  have hst:szTm s t=1+t.fs.length+(t.fs.map (szFc s)).sum:=rfl
  simp [iaD_eAn e _ ht]
  rw [wrap1 (by unfold Bd;omega),wrapA (by unfold Bd;omega)]
  obtain ⟨B,hB⟩:∃ B,B=m+(1+t.fs.length):=⟨_,rfl⟩
  rw [←hB]
  let J2:Nat→List D→Store→Prop:=fun q fr S=>∃ i m2 b2 b7 b15 b28 b33 b34 b35 b36 b46 b47 b48 b49,fr=mkf 62 [(2,b2),(3,.i .i64 (m2:Nat)),(7,b7),(12,eAn e x),(13,.i .i64 x.ts.length),(14,.i .i64 (k:Nat)),(15,b15),(25,eFcs e t.nl t.fs),(26,.i .i64 t.fs.length),(27,.i .i64 (i:Nat)),(28,b28),(33,b33),(34,b34),(35,b35),(36,b36),(46,b46),(47,b47),(48,b48),(49,b49)]∧i+q=t.fs.length∧m2=B+sumT (szFc s) t.fs i
  refine W_loop J2 ?_ t.fs.length _ _ ⟨0,_,_,_,_,_,_,_,_,_,_,_,_,_,rfl,by simp,by simp [sumT]⟩
  intro q2 fr S hJ;obtain ⟨i,m2,b2,b7,b15,b28,b33,b34,b35,b36,b46,b47,b48,b49,hfr,hi,hm2⟩:=hJ;rw [hfr]
  rw [←wp_W,e136_2]
  simp [s136_2]
  split
  ·rename_i h2
   obtain ⟨f,hf⟩:=get_lt (l:=t.fs) (k:=i) (by omega)
   have hfm:=List.mem_of_getElem? hf
   have hwf:=wLe_fc hwt hfm
   have hal:=wLe_args hwf
   have hil:=wLe_items hwf
   have hof:=(hx.ts t htm).fs f hfm
   have htot2:m2+szFc s f≤40:=by
    have:=sumT_le (szFc s) t.fs (i+1)
    rw [sumT_succ _ hf] at this
    omega
   have hsf:szFc s f=(f.args.map s).sum+(f.items.map (szIt s)).sum:=rfl
   simp [iaD_eFcs e _ hf]
   obtain ⟨B2,hB2⟩:∃ B2,B2=m2:=⟨_,rfl⟩
   rw [←hB2] at htot2 ⊢
   obtain ⟨id,hid⟩:∃ id,id=S.length:=⟨_,rfl⟩
   rw [←hid]
   let J3:Nat→List D→Store→Prop:=fun q fr S=>∃ j m3 b2 b15 b28 b36 b46 b47 b48 b49,fr=mkf 62 [(2,b2),(3,.i .i64 (m3:Nat)),(7,.bx id 0),(12,eAn e x),(13,.i .i64 x.ts.length),(14,.i .i64 (k:Nat)),(15,b15),(25,eFcs e t.nl t.fs),(26,.i .i64 t.fs.length),(27,.i .i64 (i:Nat)),(28,b28),(33,eArgs e f.anl f.args),(34,.i .i64 f.args.length),(35,.i .i64 (j:Nat)),(36,b36),(46,b46),(47,b47),(48,b48),(49,b49)]∧j+q=f.args.length∧m3=B2+sumT s f.args j∧sget S id=some (.box (eFc e f))
   refine W_loop J3 ?_ f.args.length _ _ ⟨0,_,_,_,_,_,_,_,_,_,rfl,by simp,by simp [sumT],by simp [hid]⟩
   intro q3 fr S hJ;obtain ⟨j,m3,b2,b15,b28,b36,b46,b47,b48,b49,hfr,hj,hm3,hS⟩:=hJ;rw [hfr]
   rw [←wp_W,e136_1]
   simp [s136_1]
   split
   ·rename_i h3
    obtain ⟨a,ha⟩:=get_lt (l:=f.args) (k:=j) (by omega)
    have ham:=List.mem_of_getElem? ha
    have hc:=H a (hof.args a ham) (wLe_arg hwf ham)
    have htot3:sumT s f.args (j+1)≤(f.args.map s).sum:=sumT_le s f.args (j+1)
    rw [sumT_succ _ ha] at htot3
    simp [iaD_eArgs e _ ha,hc]
    rw [wrapS (k:=j) (by unfold Bd;omega),wrapA (by unfold Bd;omega)]
    exact ⟨q3-1,by omega,⟨j+1,_,_,_,_,_,_,_,_,_,rfl,by omega,by rw [sumT_succ _ ha];omega,hS⟩⟩
   ·have hje:=sumT_all s (show f.args.length≤j by omega)
    rw [hje] at hm3
    simp [e136_r0,s136_r0,hS]
    obtain ⟨B3,hB3⟩:∃ B3,B3=m3:=⟨_,rfl⟩
    rw [←hB3]
    let J4:Nat→List D→Store→Prop:=fun q fr S=>∃ j m4 b2 b7 b15 b28 b33 b34 b35 b36 b49,fr=mkf 62 [(2,b2),(3,.i .i64 (m4:Nat)),(7,b7),(12,eAn e x),(13,.i .i64 x.ts.length),(14,.i .i64 (k:Nat)),(15,b15),(25,eFcs e t.nl t.fs),(26,.i .i64 t.fs.length),(27,.i .i64 (i:Nat)),(28,b28),(33,b33),(34,b34),(35,b35),(36,b36),(46,eItems e f.inl f.items),(47,.i .i64 f.items.length),(48,.i .i64 (j:Nat)),(49,b49)]∧j+q=f.items.length∧m4=B3+sumT (szIt s) f.items j
    refine W_loop J4 ?_ f.items.length _ _ ⟨0,_,_,_,_,_,_,_,_,_,_,rfl,by simp,by simp [sumT]⟩
    intro q4 fr S hJ;obtain ⟨j,m4,b2,b7,b15,b28,b33,b34,b35,b36,b49,hfr,hj,hm4⟩:=hJ;rw [hfr]
    rw [←wp_W,e136_0]
    simp [s136_0]
    split
    ·rename_i h4
     obtain ⟨p,hp⟩:=get_lt (l:=f.items) (k:=j) (by omega)
     have hpm:=List.mem_of_getElem? hp
     have hc:=H p.2 (hof.items p hpm).2 (wLe_item hwf hpm)
     have htot3:sumT (szIt s) f.items (j+1)≤(f.items.map (szIt s)).sum:=sumT_le (szIt s) f.items (j+1)
     rw [sumT_succ _ hp] at htot3
     have hsi:szIt s p=1+s p.2:=rfl
     simp [iaD_eItems e _ hp,cellsK_it e he,hc]
     rw [wrapS (k:=j) (by unfold Bd;omega),wrap1 (by unfold Bd;omega),wrapA (by unfold Bd;omega)]
     exact ⟨q4-1,by omega,⟨j+1,_,_,_,_,_,_,_,_,_,_,rfl,by omega,by rw [sumT_succ _ hp];omega⟩⟩
    ·have hje:=sumT_all (szIt s) (show f.items.length≤j by omega)
     rw [hje] at hm4
     simp [e136_r1,s136_r1]
     rw [wrapS (k:=i) (by unfold Bd;omega)]
     exact ⟨q2-1,by omega,⟨i+1,_,_,_,_,_,_,_,_,_,_,_,_,_,rfl,by omega,by rw [sumT_succ _ hf];omega⟩⟩
  ·have hje:=sumT_all (szFc s) (show t.fs.length≤i by omega)
   rw [hje] at hm2
   simp [e136_r2,s136_r2]
   rw [wrapS (k:=k) (by unfold Bd;omega)]
   exact ⟨q-1,by omega,⟨k+1,_,_,_,_,_,_,_,_,_,_,_,_,_,_,_,_,rfl,by omega,by rw [sumT_succ _ ht];omega⟩⟩
 ·have hje:=sumT_all (szTm s) (show x.ts.length≤k by omega)
  rw [hje] at hm
  simp [e136_r3,s136_r3,szAn,hm]
theorem v136:∀ n,Sizes (eAnn n) (OkAnn n) (wAnn n) (szAnn n)
 | 0=>fun x=>nomatch x
 | n+1=>v136s (GE_eAnn n) (szAnn_le n) (v136 n)
theorem mx_nat (k:IntKind) (a b:Nat):mxD (.i k a) (.i k b)=some (.i k ((max a b:Nat):Int)):=by
 simp only [mxD,if_true]
 have:(if (b:Int) > a then (b:Int) else a)=((max a b:Nat):Int):=by split <;> omega
 rw [this]
def Nests {α:Type} (e:α→D) (ok:α→Prop) (w d:α→Nat):Prop:=∀ a,ok a→w a≤40→isoCall (call dp) 135 [e a]=some (.i .i64 (d a))
section
variable {α:Type} {w d:α→Nat}
theorem neFc_le (h:∀ a,d a≤w a) (f:Fc α):neFc d f≤1+wFc w f:=by
 unfold neFc
 split
 ·omega
 ·have h1:maxL d f.args≤wFc w f:=maxL_le d fun a ha=>by have:=h a;have:=sum_mem_le w ha;simp only [wFc];omega
  have h2:maxL (neIt d) f.items≤wFc w f:=maxL_le _ fun a ha=>by have:=h a.2;have:=sum_mem_le (wIt w) ha;simp only [wFc,neIt,wIt] at *;omega
  omega
theorem neTm_le (h:∀ a,d a≤w a) (t:Tm α):neTm d t≤wTm w t:=maxL_le _ fun f hf=>by
 have:=neFc_le h f;have:=sum_mem_le (wFc w) hf;simp only [wTm];omega
theorem neAn_le (h:∀ a,d a≤w a) (x:An α):neAn d x≤wAn w x:=maxL_le _ fun t ht=>by
 have:=neTm_le h t;have:=sum_mem_le (wTm w) ht;simp only [wAn];omega
end
theorem neAnn_le:∀ n x,neAnn n x≤wAnn n x
 | 0,x=>nomatch x
 | n+1,x=>neAn_le (neAnn_le n) x
set_option maxHeartbeats 1000000 in
theorem v135s {α:Type} {e:α→D} {ok:α→Prop} {w d:α→Nat} (he:GE e) (hdw:∀ a,d a≤w a) (H:Nests e ok w d):Nests (eAn e) (OkAn ok) (wAn w) (neAn d):=by
 intro x hx hw
 have hlen:=wLe_ts hw
 apply i135 _ _ (by simp [noRefL,noRef_eAn he]) rfl
 simp [s135]
 let J:Nat→List D→Store→Prop:=fun q fr S=>∃ k m b2 b7 b8 b16 b20 b21 b22 b23 b29 b32 b33 b34 b35 b45 b46 b47 b48,fr=mkf 64 [(2,b2),(3,.i .i64 (m:Nat)),(7,b7),(8,b8),(13,eAn e x),(14,.i .i64 x.ts.length),(15,.i .i64 (k:Nat)),(16,b16),(20,b20),(21,b21),(22,b22),(23,b23),(29,b29),(32,b32),(33,b33),(34,b34),(35,b35),(45,b45),(46,b46),(47,b47),(48,b48)]∧k+q=x.ts.length∧m=maxT (neTm d) x.ts k
 refine W_loop J ?_ x.ts.length _ _ ⟨0,0,_,_,_,_,_,_,_,_,_,_,_,_,_,_,_,_,_,rfl,by simp,by simp [maxT,maxL]⟩
 intro q fr S hJ;obtain ⟨k,m,b2,b7,b8,b16,b20,b21,b22,b23,b29,b32,b33,b34,b35,b45,b46,b47,b48,hfr,hk,hm⟩:=hJ;rw [hfr]
 rw [←wp_W,e135_3]
 simp [s135_3]
 split
 ·rename_i h
  obtain ⟨t,ht⟩:=get_lt (l:=x.ts) (k:=k) (by omega)
  have htm:=List.mem_of_getElem? ht
  have hwt:=wLe_tm hw htm
  have hfl:=wLe_fs hwt
  have hst:neTm d t=maxL (neFc d) t.fs:=rfl
  simp [iaD_eAn e _ ht]
  let J2:Nat→List D→Store→Prop:=fun q fr S=>∃ i m2 b2 b7 b8 b16 b23 b29 b32 b33 b34 b35 b45 b46 b47 b48,fr=mkf 64 [(2,b2),(3,.i .i64 (m2:Nat)),(7,b7),(8,b8),(13,eAn e x),(14,.i .i64 x.ts.length),(15,.i .i64 (k:Nat)),(16,b16),(20,eFcs e t.nl t.fs),(21,.i .i64 t.fs.length),(22,.i .i64 (i:Nat)),(23,b23),(29,b29),(32,b32),(33,b33),(34,b34),(35,b35),(45,b45),(46,b46),(47,b47),(48,b48)]∧i+q=t.fs.length∧m2=max m (maxT (neFc d) t.fs i)
  refine W_loop J2 ?_ t.fs.length _ _ ⟨0,_,_,_,_,_,_,_,_,_,_,_,_,_,_,_,rfl,by simp,by simp [maxT,maxL]⟩
  intro q2 fr S hJ;obtain ⟨i,m2,b2,b7,b8,b16,b23,b29,b32,b33,b34,b35,b45,b46,b47,b48,hfr,hi,hm2⟩:=hJ;rw [hfr]
  rw [←wp_W,e135_2]
  simp [s135_2]
  split
  ·rename_i h2
   obtain ⟨f,hf⟩:=get_lt (l:=t.fs) (k:=i) (by omega)
   have hfm:=List.mem_of_getElem? hf
   have hwf:=wLe_fc hwt hfm
   have hal:=wLe_args hwf
   have hil:=wLe_items hwf
   have hof:=(hx.ts t htm).fs f hfm
   simp [iaD_eFcs e _ hf]
   obtain ⟨id,hid⟩:∃ id,id=S.length:=⟨_,rfl⟩
   rw [←hid]
   split
   ·rename_i h0
    simp [s135_r2]
    rw [wrapS (k:=i) (by unfold Bd;omega)]
    exact ⟨q2-1,by omega,⟨i+1,_,_,_,_,_,_,_,_,_,_,_,_,_,_,_,rfl,by omega,by rw [maxT_succ _ hf,neFc,if_pos h0];omega⟩⟩
   ·rename_i h0
    have hsf:neFc d f=1+max (maxL d f.args) (maxL (neIt d) f.items):=by rw [neFc,if_neg h0]
    let J3:Nat→List D→Store→Prop:=fun q fr S=>∃ j m3 b2 b16 b23 b29 b35 b45 b46 b47 b48,fr=mkf 64 [(2,b2),(3,.i .i64 (m2:Nat)),(7,.bx id 0),(8,.i .i64 (m3:Nat)),(13,eAn e x),(14,.i .i64 x.ts.length),(15,.i .i64 (k:Nat)),(16,b16),(20,eFcs e t.nl t.fs),(21,.i .i64 t.fs.length),(22,.i .i64 (i:Nat)),(23,b23),(29,b29),(32,eArgs e f.anl f.args),(33,.i .i64 f.args.length),(34,.i .i64 (j:Nat)),(35,b35),(45,b45),(46,b46),(47,b47),(48,b48)]∧j+q=f.args.length∧m3=maxT d f.args j∧sget S id=some (.box (eFc e f))
    refine W_loop J3 ?_ f.args.length _ _ ⟨0,0,_,_,_,_,_,_,_,_,_,rfl,by simp,by simp [maxT,maxL],by simp [hid]⟩
    intro q3 fr S hJ;obtain ⟨j,m3,b2,b16,b23,b29,b35,b45,b46,b47,b48,hfr,hj,hm3,hS⟩:=hJ;rw [hfr]
    rw [←wp_W,e135_1]
    simp [s135_1]
    split
    ·rename_i h3
     obtain ⟨a,ha⟩:=get_lt (l:=f.args) (k:=j) (by omega)
     have ham:=List.mem_of_getElem? ha
     have hc:=H a (hof.args a ham) (wLe_arg hwf ham)
     simp [iaD_eArgs e _ ha,hc,mx_nat]
     rw [wrapS (k:=j) (by unfold Bd;omega)]
     exact ⟨q3-1,by omega,⟨j+1,_,_,_,_,_,_,_,_,_,_,rfl,by omega,by rw [maxT_succ _ ha];omega,hS⟩⟩
    ·have hje:=maxT_all d (show f.args.length≤j by omega)
     rw [hje] at hm3
     simp [e135_r1,s135_r1,hS]
     let J4:Nat→List D→Store→Prop:=fun q fr S=>∃ j m4 b2 b7 b16 b23 b29 b32 b33 b34 b35 b48,fr=mkf 64 [(2,b2),(3,.i .i64 (m2:Nat)),(7,b7),(8,.i .i64 (m4:Nat)),(13,eAn e x),(14,.i .i64 x.ts.length),(15,.i .i64 (k:Nat)),(16,b16),(20,eFcs e t.nl t.fs),(21,.i .i64 t.fs.length),(22,.i .i64 (i:Nat)),(23,b23),(29,b29),(32,b32),(33,b33),(34,b34),(35,b35),(45,eItems e f.inl f.items),(46,.i .i64 f.items.length),(47,.i .i64 (j:Nat)),(48,b48)]∧j+q=f.items.length∧m4=max m3 (maxT (neIt d) f.items j)
     refine W_loop J4 ?_ f.items.length _ _ ⟨0,_,_,_,_,_,_,_,_,_,_,_,rfl,by simp,by simp [maxT,maxL]⟩
     intro q4 fr S hJ;obtain ⟨j,m4,b2,b7,b16,b23,b29,b32,b33,b34,b35,b48,hfr,hj,hm4⟩:=hJ;rw [hfr]
     rw [←wp_W,e135_0]
     simp [s135_0]
     split
     ·rename_i h4
      obtain ⟨p,hp⟩:=get_lt (l:=f.items) (k:=j) (by omega)
      have hpm:=List.mem_of_getElem? hp
      have hc:=H p.2 (hof.items p hpm).2 (wLe_item hwf hpm)
      have hsi:neIt d p=d p.2:=rfl
      simp [iaD_eItems e _ hp,cellsK_it e he,hc,mx_nat]
      rw [wrapS (k:=j) (by unfold Bd;omega)]
      exact ⟨q4-1,by omega,⟨j+1,_,_,_,_,_,_,_,_,_,_,_,rfl,by omega,by rw [maxT_succ _ hp];omega⟩⟩
     ·have hje:=maxT_all (neIt d) (show f.items.length≤j by omega)
      rw [hje] at hm4
      have hb4:m4≤40:=by
       have h1:maxL d f.args≤40:=maxL_le d fun a ha=>by have:=hdw a;have:=wLe_arg hwf ha;omega
       have h2:maxL (neIt d) f.items≤40:=maxL_le _ fun a ha=>by have:=hdw a.2;have:=wLe_item hwf ha;unfold neIt;omega
       omega
      simp [e135_r0,s135_r0]
      rw [wrap1 (by unfold Bd;omega),mx_nat]
      simp [e135_r2,s135_r2]
      rw [wrapS (k:=i) (by unfold Bd;omega)]
      exact ⟨q2-1,by omega,⟨i+1,_,_,_,_,_,_,_,_,_,_,_,_,_,_,_,rfl,by omega,by rw [maxT_succ _ hf,hsf];omega⟩⟩
  ·have hje:=maxT_all (neFc d) (show t.fs.length≤i by omega)
   rw [hje] at hm2
   simp [e135_r3,s135_r3]
   rw [wrapS (k:=k) (by unfold Bd;omega)]
   exact ⟨q-1,by omega,⟨k+1,_,_,_,_,_,_,_,_,_,_,_,_,_,_,_,_,_,_,rfl,by omega,by rw [maxT_succ _ ht];omega⟩⟩
 ·have hje:=maxT_all (neTm d) (show x.ts.length≤k by omega)
  rw [hje] at hm
  simp [e135_r4,s135_r4,neAn,hm]
theorem v135:∀ n,Nests (eAnn n) (OkAnn n) (wAnn n) (neAnn n)
 | 0=>fun x=>nomatch x
 | n+1=>v135s (GE_eAnn n) (neAnn_le n) (v135 n)
def EndI {α:Type} (g:Nat) (e:α→D) (ok:α→Prop):Prop:=∀ a,ok a→∃ z:Int,isoCall (call dp) g [e a]=some (.i .i64 z)
theorem mx_int (k:IntKind) (a b:Int):mxD (.i k a) (.i k b)=some (.i k (if b > a then b else a)):=by simp [mxD]
set_option maxHeartbeats 1000000 in
theorem v136t_s {α:Type} {e:α→D} {ok:α→Prop} (he:GE e) (H:EndI 136 e ok):EndI 136 (eAn e) (OkAn ok):=by
 intro x hx
 suffices hh:∃ d,isoCall (call dp) 136 [eAn e x]=some d∧∃ z:Int,d = .i .i64 z by
  obtain ⟨d,h1,z,rfl⟩:=hh
  exact ⟨z,h1⟩
 apply j136 _ _ (by simp [noRefL,noRef_eAn he]) (by rintro d ⟨z,rfl⟩;rfl)
 simp [s136]
 let J:Nat→List D→Store→Prop:=fun q fr S=>∃ k m b2 b7 b15 b25 b26 b27 b28 b33 b34 b35 b36 b46 b47 b48 b49,fr=mkf 62 [(2,b2),(3,.i .i64 (m:Int)),(7,b7),(12,eAn e x),(13,.i .i64 x.ts.length),(14,.i .i64 (k:Nat)),(15,b15),(25,b25),(26,b26),(27,b27),(28,b28),(33,b33),(34,b34),(35,b35),(36,b36),(46,b46),(47,b47),(48,b48),(49,b49)]∧k+q=x.ts.length
 refine W_loop J ?_ x.ts.length _ _ ⟨0,_,_,_,_,_,_,_,_,_,_,_,_,_,_,_,_,rfl,by simp⟩
 intro q fr S hJ;obtain ⟨k,m,b2,b7,b15,b25,b26,b27,b28,b33,b34,b35,b36,b46,b47,b48,b49,hfr,hk⟩:=hJ;rw [hfr]
 rw [←wp_W,e136_3]
 simp [s136_3]
 split
 ·rename_i h
  obtain ⟨t,ht⟩:=get_lt (l:=x.ts) (k:=k) (by omega)
  have hot:=hx.ts t (List.mem_of_getElem? ht)
  simp [iaD_eAn e _ ht]
  let J2:Nat→List D→Store→Prop:=fun q fr S=>∃ i m2 b2 b7 b15 b28 b33 b34 b35 b36 b46 b47 b48 b49,fr=mkf 62 [(2,b2),(3,.i .i64 (m2:Int)),(7,b7),(12,eAn e x),(13,.i .i64 x.ts.length),(14,.i .i64 (k:Nat)),(15,b15),(25,eFcs e t.nl t.fs),(26,.i .i64 t.fs.length),(27,.i .i64 (i:Nat)),(28,b28),(33,b33),(34,b34),(35,b35),(36,b36),(46,b46),(47,b47),(48,b48),(49,b49)]∧i+q=t.fs.length
  refine W_loop J2 ?_ t.fs.length _ _ ⟨0,_,_,_,_,_,_,_,_,_,_,_,_,_,rfl,by simp⟩
  intro q2 fr S hJ;obtain ⟨i,m2,b2,b7,b15,b28,b33,b34,b35,b36,b46,b47,b48,b49,hfr,hi⟩:=hJ;rw [hfr]
  rw [←wp_W,e136_2]
  simp [s136_2]
  split
  ·rename_i h2
   obtain ⟨f,hf⟩:=get_lt (l:=t.fs) (k:=i) (by omega)
   have hof:=hot.fs f (List.mem_of_getElem? hf)
   simp [iaD_eFcs e _ hf]
   obtain ⟨id,hid⟩:∃ id,id=S.length:=⟨_,rfl⟩
   rw [←hid]
   let J3:Nat→List D→Store→Prop:=fun q fr S=>∃ j m3 b2 b15 b28 b36 b46 b47 b48 b49,fr=mkf 62 [(2,b2),(3,.i .i64 (m3:Int)),(7,.bx id 0),(12,eAn e x),(13,.i .i64 x.ts.length),(14,.i .i64 (k:Nat)),(15,b15),(25,eFcs e t.nl t.fs),(26,.i .i64 t.fs.length),(27,.i .i64 (i:Nat)),(28,b28),(33,eArgs e f.anl f.args),(34,.i .i64 f.args.length),(35,.i .i64 (j:Nat)),(36,b36),(46,b46),(47,b47),(48,b48),(49,b49)]∧j+q=f.args.length∧sget S id=some (.box (eFc e f))
   refine W_loop J3 ?_ f.args.length _ _ ⟨0,_,_,_,_,_,_,_,_,_,rfl,by simp,by simp [hid]⟩
   intro q3 fr S hJ;obtain ⟨j,m3,b2,b15,b28,b36,b46,b47,b48,b49,hfr,hj,hS⟩:=hJ;rw [hfr]
   rw [←wp_W,e136_1]
   simp [s136_1]
   split
   ·rename_i h3
    obtain ⟨a,ha⟩:=get_lt (l:=f.args) (k:=j) (by omega)
    obtain ⟨z,hc⟩:=H a (hof.args a (List.mem_of_getElem? ha))
    simp [iaD_eArgs e _ ha,hc]
    rw [wrapL (k:=j) h3 hof.alen]
    exact ⟨q3-1,by omega,⟨j+1,_,_,_,_,_,_,_,_,_,rfl,by omega,hS⟩⟩
   ·simp [e136_r0,s136_r0,hS]
    let J4:Nat→List D→Store→Prop:=fun q fr S=>∃ j m4 b2 b7 b15 b28 b33 b34 b35 b36 b49,fr=mkf 62 [(2,b2),(3,.i .i64 (m4:Int)),(7,b7),(12,eAn e x),(13,.i .i64 x.ts.length),(14,.i .i64 (k:Nat)),(15,b15),(25,eFcs e t.nl t.fs),(26,.i .i64 t.fs.length),(27,.i .i64 (i:Nat)),(28,b28),(33,b33),(34,b34),(35,b35),(36,b36),(46,eItems e f.inl f.items),(47,.i .i64 f.items.length),(48,.i .i64 (j:Nat)),(49,b49)]∧j+q=f.items.length
    refine W_loop J4 ?_ f.items.length _ _ ⟨0,_,_,_,_,_,_,_,_,_,_,rfl,by simp⟩
    intro q4 fr S hJ;obtain ⟨j,m4,b2,b7,b15,b28,b33,b34,b35,b36,b49,hfr,hj⟩:=hJ;rw [hfr]
    rw [←wp_W,e136_0]
    simp [s136_0]
    split
    ·rename_i h4
     obtain ⟨p,hp⟩:=get_lt (l:=f.items) (k:=j) (by omega)
     obtain ⟨z,hc⟩:=H p.2 (hof.items p (List.mem_of_getElem? hp)).2
     simp [iaD_eItems e _ hp,cellsK_it e he,hc]
     rw [wrapL (k:=j) h4 hof.ilen]
     exact ⟨q4-1,by omega,⟨j+1,_,_,_,_,_,_,_,_,_,_,rfl,by omega⟩⟩
    ·simp [e136_r1,s136_r1]
     rw [wrapL (k:=i) h2 hot.len]
     exact ⟨q2-1,by omega,⟨i+1,_,_,_,_,_,_,_,_,_,_,_,_,_,rfl,by omega⟩⟩
  ·simp [e136_r2,s136_r2]
   rw [wrapL (k:=k) h hx.len]
   exact ⟨q-1,by omega,⟨k+1,_,_,_,_,_,_,_,_,_,_,_,_,_,_,_,_,rfl,by omega⟩⟩
 ·simp [e136_r3,s136_r3]
theorem v136t:∀ n,EndI 136 (eAnn n) (OkAnn n)
 | 0=>fun x=>nomatch x
 | n+1=>v136t_s (GE_eAnn n) (v136t n)
set_option maxHeartbeats 1000000 in
theorem v135t_s {α:Type} {e:α→D} {ok:α→Prop} (he:GE e) (H:EndI 135 e ok):EndI 135 (eAn e) (OkAn ok):=by
 intro x hx
 suffices hh:∃ d,isoCall (call dp) 135 [eAn e x]=some d∧∃ z:Int,d = .i .i64 z by
  obtain ⟨d,h1,z,rfl⟩:=hh
  exact ⟨z,h1⟩
 apply j135 _ _ (by simp [noRefL,noRef_eAn he]) (by rintro d ⟨z,rfl⟩;rfl)
 simp [s135]
 let J:Nat→List D→Store→Prop:=fun q fr S=>∃ k m b2 b7 b8 b16 b20 b21 b22 b23 b29 b32 b33 b34 b35 b45 b46 b47 b48,fr=mkf 64 [(2,b2),(3,.i .i64 (m:Int)),(7,b7),(8,b8),(13,eAn e x),(14,.i .i64 x.ts.length),(15,.i .i64 (k:Nat)),(16,b16),(20,b20),(21,b21),(22,b22),(23,b23),(29,b29),(32,b32),(33,b33),(34,b34),(35,b35),(45,b45),(46,b46),(47,b47),(48,b48)]∧k+q=x.ts.length
 refine W_loop J ?_ x.ts.length _ _ ⟨0,_,_,_,_,_,_,_,_,_,_,_,_,_,_,_,_,_,_,rfl,by simp⟩
 intro q fr S hJ;obtain ⟨k,m,b2,b7,b8,b16,b20,b21,b22,b23,b29,b32,b33,b34,b35,b45,b46,b47,b48,hfr,hk⟩:=hJ;rw [hfr]
 rw [←wp_W,e135_3]
 simp [s135_3]
 split
 ·rename_i h
  obtain ⟨t,ht⟩:=get_lt (l:=x.ts) (k:=k) (by omega)
  have hot:=hx.ts t (List.mem_of_getElem? ht)
  simp [iaD_eAn e _ ht]
  let J2:Nat→List D→Store→Prop:=fun q fr S=>∃ i m2 b2 b7 b8 b16 b23 b29 b32 b33 b34 b35 b45 b46 b47 b48,fr=mkf 64 [(2,b2),(3,.i .i64 (m2:Int)),(7,b7),(8,b8),(13,eAn e x),(14,.i .i64 x.ts.length),(15,.i .i64 (k:Nat)),(16,b16),(20,eFcs e t.nl t.fs),(21,.i .i64 t.fs.length),(22,.i .i64 (i:Nat)),(23,b23),(29,b29),(32,b32),(33,b33),(34,b34),(35,b35),(45,b45),(46,b46),(47,b47),(48,b48)]∧i+q=t.fs.length
  refine W_loop J2 ?_ t.fs.length _ _ ⟨0,_,_,_,_,_,_,_,_,_,_,_,_,_,_,_,rfl,by simp⟩
  intro q2 fr S hJ;obtain ⟨i,m2,b2,b7,b8,b16,b23,b29,b32,b33,b34,b35,b45,b46,b47,b48,hfr,hi⟩:=hJ;rw [hfr]
  rw [←wp_W,e135_2]
  simp [s135_2]
  split
  ·rename_i h2
   obtain ⟨f,hf⟩:=get_lt (l:=t.fs) (k:=i) (by omega)
   have hof:=hot.fs f (List.mem_of_getElem? hf)
   simp [iaD_eFcs e _ hf]
   obtain ⟨id,hid⟩:∃ id,id=S.length:=⟨_,rfl⟩
   rw [←hid]
   split
   ·simp [s135_r2]
    rw [wrapL (k:=i) h2 hot.len]
    exact ⟨q2-1,by omega,⟨i+1,_,_,_,_,_,_,_,_,_,_,_,_,_,_,_,rfl,by omega⟩⟩
   ·let J3:Nat→List D→Store→Prop:=fun q fr S=>∃ j m3 b2 b16 b23 b29 b35 b45 b46 b47 b48,fr=mkf 64 [(2,b2),(3,.i .i64 (m2:Int)),(7,.bx id 0),(8,.i .i64 (m3:Int)),(13,eAn e x),(14,.i .i64 x.ts.length),(15,.i .i64 (k:Nat)),(16,b16),(20,eFcs e t.nl t.fs),(21,.i .i64 t.fs.length),(22,.i .i64 (i:Nat)),(23,b23),(29,b29),(32,eArgs e f.anl f.args),(33,.i .i64 f.args.length),(34,.i .i64 (j:Nat)),(35,b35),(45,b45),(46,b46),(47,b47),(48,b48)]∧j+q=f.args.length∧sget S id=some (.box (eFc e f))
    refine W_loop J3 ?_ f.args.length _ _ ⟨0,_,_,_,_,_,_,_,_,_,_,rfl,by simp,by simp [hid]⟩
    intro q3 fr S hJ;obtain ⟨j,m3,b2,b16,b23,b29,b35,b45,b46,b47,b48,hfr,hj,hS⟩:=hJ;rw [hfr]
    rw [←wp_W,e135_1]
    simp [s135_1]
    split
    ·rename_i h3
     obtain ⟨a,ha⟩:=get_lt (l:=f.args) (k:=j) (by omega)
     obtain ⟨z,hc⟩:=H a (hof.args a (List.mem_of_getElem? ha))
     simp [iaD_eArgs e _ ha,hc,mx_int]
     rw [wrapL (k:=j) h3 hof.alen]
     exact ⟨q3-1,by omega,⟨j+1,_,_,_,_,_,_,_,_,_,_,rfl,by omega,hS⟩⟩
    ·simp [e135_r1,s135_r1,hS]
     let J4:Nat→List D→Store→Prop:=fun q fr S=>∃ j m4 b2 b7 b16 b23 b29 b32 b33 b34 b35 b48,fr=mkf 64 [(2,b2),(3,.i .i64 (m2:Int)),(7,b7),(8,.i .i64 (m4:Int)),(13,eAn e x),(14,.i .i64 x.ts.length),(15,.i .i64 (k:Nat)),(16,b16),(20,eFcs e t.nl t.fs),(21,.i .i64 t.fs.length),(22,.i .i64 (i:Nat)),(23,b23),(29,b29),(32,b32),(33,b33),(34,b34),(35,b35),(45,eItems e f.inl f.items),(46,.i .i64 f.items.length),(47,.i .i64 (j:Nat)),(48,b48)]∧j+q=f.items.length
     refine W_loop J4 ?_ f.items.length _ _ ⟨0,_,_,_,_,_,_,_,_,_,_,_,rfl,by simp⟩
     intro q4 fr S hJ;obtain ⟨j,m4,b2,b7,b16,b23,b29,b32,b33,b34,b35,b48,hfr,hj⟩:=hJ;rw [hfr]
     rw [←wp_W,e135_0]
     simp [s135_0]
     split
     ·rename_i h4
      obtain ⟨p,hp⟩:=get_lt (l:=f.items) (k:=j) (by omega)
      obtain ⟨z,hc⟩:=H p.2 (hof.items p (List.mem_of_getElem? hp)).2
      simp [iaD_eItems e _ hp,cellsK_it e he,hc,mx_int]
      rw [wrapL (k:=j) h4 hof.ilen]
      exact ⟨q4-1,by omega,⟨j+1,_,_,_,_,_,_,_,_,_,_,_,rfl,by omega⟩⟩
     ·simp [e135_r0,s135_r0,mx_int,e135_r2,s135_r2]
      rw [wrapL (k:=i) h2 hot.len]
      exact ⟨q2-1,by omega,⟨i+1,_,_,_,_,_,_,_,_,_,_,_,_,_,_,_,rfl,by omega⟩⟩
  ·simp [e135_r3,s135_r3]
   rw [wrapL (k:=k) h hx.len]
   exact ⟨q-1,by omega,⟨k+1,_,_,_,_,_,_,_,_,_,_,_,_,_,_,_,_,_,_,rfl,by omega⟩⟩
 ·simp [e135_r4,s135_r4]
theorem v135t:∀ n,EndI 135 (eAnn n) (OkAnn n)
 | 0=>fun x=>nomatch x
 | n+1=>v135t_s (GE_eAnn n) (v135t n)
end Go.Proofs.YtjlmeikcfdanmaaGreatDoor.DE.V

namespace Go.Proofs.YtjlmeikcfdanmaaGreatDoor.DE.V
open Go BT
set_option linter.unusedSimpArgs false
set_option linter.unusedVariables false
def Wts {α:Type} (e:α→D) (sm:α→Prop) (w:α→Nat):Prop:=∀ a L dd,sm a→L≤40→dd≤12→∃ r:Nat,isoCall (call dp) 59 [e a,.i .i64 (L:Nat),.i .i64 (dd:Nat)]=some (.i .i64 (r:Nat))∧(r≤L→r=w a)∧r≤L+(dd+1) * 8388608
theorem wrapE {z:Int} (n:Nat) (h:z=n) (hb:Bd n):IntKind.wrap .i64 z=(n:Int):=by rw [h];exact wrapN hb
theorem wrapD {a b:Nat} (h:b≤a) (h':Bd a):IntKind.wrap .i64 ((a:Int)-b)=((a-b:Nat):Int):=by
 rw [wrap64 ⟨by unfold Bd at h';omega,by unfold Bd at h';omega⟩];omega
theorem wrapP {a:Nat} (h:1≤a) (h':Bd a):IntKind.wrap .i64 ((a:Int)-1)=((a-1:Nat):Int):=wrapD (b:=1) h h'
theorem wt_bound {m t r L dd:Nat} (h1:m≤L) (h2:t≤1048576) (h3:r≤L-m+(dd-1+1) * 8388608) (h4:1≤dd):m+t+r≤L+(dd+1) * 8388608:=by omega
theorem wt_le {m t r L x:Nat} (h1:m+t+r≤L) (h:r≤L-m→r=x):r=x:=h (by omega)
set_option maxHeartbeats 1000000 in
theorem v59s {α:Type} {e:α→D} {sm:α→Prop} {w:α→Nat} (he:GE e) (H:Wts e sm w):Wts (eAn e) (SmAn sm) (wAn w):=by
 intro x L dd hx hL hdd
 have hxl:=hx.len
 suffices hh:∃ d,isoCall (call dp) 59 [eAn e x,.i .i64 (L:Nat),.i .i64 (dd:Nat)]=some d∧∃ r:Nat,d = .i .i64 (r:Nat)∧(r≤L→r=wAn w x)∧r≤L+(dd+1) * 8388608 by
  obtain ⟨d,h1,r,rfl,h2⟩:=hh
  exact ⟨r,h1,h2⟩
 apply j59 _ _ _ _ (by simp [noRefL,noRef_eAn he]) (by rintro d ⟨r,rfl,_⟩;rfl)
 simp [s59]
 split
 ·rename_i h0
  subst h0
  refine ⟨L+1,?_,by omega,by omega⟩
  rw [wrapS (by unfold Bd;omega)]
 ·rename_i h0
  have hd1:1≤dd:=by omega
  let J:Nat→List D→Store→Prop:=fun q fr S=>∃ k m b6 b9 b10 b11 b12 b25 b49 b84 b109,fr=mkf 136 [(0,eAn e x),(1,.i .i64 (L:Nat)),(2,.i .i64 (dd:Nat)),(6,b6),(7,.i .i64 (m:Nat)),(8,.i .i64 (k:Nat)),(9,b9),(10,b10),(11,b11),(12,b12),(25,b25),(49,b49),(84,b84),(109,b109)]∧k+q=x.ts.length∧(m≤L→m=sumT (wTm w) x.ts k)∧m≤L+(dd+1) * 8388608
  refine W_loop J ?_ x.ts.length _ _ ⟨0,0,_,_,_,_,_,_,_,_,_,rfl,by simp,by simp [sumT],by omega⟩
  intro q fr S hJ;obtain ⟨k,m,b6,b9,b10,b11,b12,b25,b49,b84,b109,hfr,hk,hm,hb⟩:=hJ;rw [hfr]
  rw [←wp_W,e59_3]
  simp [s59_3]
  split
  ·rename_i h
   obtain ⟨t,ht⟩:=get_lt (l:=x.ts) (k:=k) (by omega)
   have htm:=List.mem_of_getElem? ht
   have hfl:=(hx.ts t htm).len
   try simp
   split
   ·rename_i hmL
    have hm:=hm (by omega)
    have hst:wTm w t=1+t.fs.length+(t.fs.map (wFc w)).sum:=rfl
    rw [wrapS (k:=m) (by unfold Bd;omega)]
    simp [iaD_eAn e _ ht]
    rw [wrapE (z:=(m:Int)+1+t.fs.length) (m+1+t.fs.length) (by omega) (by unfold Bd;omega)]
    obtain ⟨C2,hC2⟩:∃ C2,C2=m+1+t.fs.length:=⟨_,rfl⟩
    rw [←hC2]
    let J2:Nat→List D→Store→Prop:=fun q fr S=>∃ i m2 b6 b10 b11 b12 b25 b49 b84 b109,fr=mkf 136 [(0,eAn e x),(1,.i .i64 (L:Nat)),(2,.i .i64 (dd:Nat)),(6,b6),(7,.i .i64 (m2:Nat)),(8,.i .i64 (k:Nat)),(9,.i .i64 (i:Nat)),(10,b10),(11,b11),(12,b12),(25,b25),(49,b49),(84,b84),(109,b109)]∧i+q=t.fs.length∧(m2≤L→m2=C2+sumT (wFc w) t.fs i)∧m2≤L+(dd+1) * 8388608
    refine W_loop J2 ?_ t.fs.length _ _ ⟨0,_,_,_,_,_,_,_,_,_,rfl,by simp,by simp [sumT],by omega⟩
    intro q2 fr S hJ;obtain ⟨i,m2,b6,b10,b11,b12,b25,b49,b84,b109,hfr,hi,hm2,hb2⟩:=hJ;rw [hfr]
    rw [←wp_W,e59_2]
    simp [s59_2,iaD_eAn e _ ht]
    have stop:∀ b25:D,(t.fs.length≤i∨L<m2)→∃ m'<q,J m' (mkf 136 [(0,eAn e x),(1,.i .i64 (L:Nat)),(2,.i .i64 (dd:Nat)),(6,b6),(7,.i .i64 (m2:Nat)),(8,.i .i64 (k+1:Nat)),(9,.top),(10,b10),(11,b11),(12,b12),(25,b25),(49,.top),(84,b84),(109,b109)]) S:=by
     intro b25 hor
     refine ⟨q-1,by omega,⟨k+1,m2,_,_,_,_,_,_,_,_,_,rfl,by omega,fun hle=>?_,hb2⟩⟩
     rw [sumT_succ _ ht,hm2 hle,sumT_all _ (show t.fs.length≤i by omega)]
     omega
    split
    ·rename_i h2
     obtain ⟨f,hf⟩:=get_lt (l:=t.fs) (k:=i) (by omega)
     have hfm:=List.mem_of_getElem? hf
     have hof:=(hx.ts t htm).fs f hfm
     have hal:=hof.alen
     have hil:=hof.ilen
     have htl:=hof.bound
     try simp
     split
     ·rename_i hmL2
      have hm2:=hm2 (by omega)
      have hsf:wFc w f=f.items.length+f.args.length+f.bound.text.length+(f.args.map w).sum+(f.items.map (wIt w)).sum:=rfl
      simp [iaD_eFcs e _ hf]
      rw [wrapA (by unfold Bd;omega)]
      try simp
      rw [wrapE (z:=(m2:Int)+f.items.length+f.args.length) (m2+f.items.length+f.args.length) (by omega) (by unfold Bd;omega)]
      try simp
      rw [wrapE (z:=(m2:Int)+f.items.length+f.args.length+f.bound.text.length) (m2+f.items.length+f.args.length+f.bound.text.length) (by omega) (by unfold Bd;omega)]
      obtain ⟨id,hid⟩:∃ id,id=S.length:=⟨_,rfl⟩
      rw [←hid]
      obtain ⟨C3,hC3⟩:∃ C3,C3=m2+f.items.length+f.args.length+f.bound.text.length:=⟨_,rfl⟩
      rw [←hC3]
      let J3:Nat→List D→Store→Prop:=fun q fr S=>∃ j m3 b6 b12 b25 b49 b84 b109,fr=mkf 136 [(0,eAn e x),(1,.i .i64 (L:Nat)),(2,.i .i64 (dd:Nat)),(6,b6),(7,.i .i64 (m3:Nat)),(8,.i .i64 (k:Nat)),(9,.i .i64 (i:Nat)),(10,.bx id 0),(11,.i .i64 (j:Nat)),(12,b12),(25,b25),(49,b49),(84,b84),(109,b109)]∧j+q=f.args.length∧(m3≤L→m3=C3+sumT w f.args j)∧m3≤L+(dd+1) * 8388608∧sget S id=some (.box (eAt e f))
      refine W_loop J3 ?_ f.args.length _ _ ⟨0,_,_,_,_,_,_,_,rfl,by simp,by simp [sumT],by omega,by simp [hid]⟩
      intro q3 fr S hJ;obtain ⟨j,m3,b6,b12,b25,b49,b84,b109,hfr,hj,hm3,hb3,hS⟩:=hJ;rw [hfr]
      rw [←wp_W,e59_1]
      simp [s59_1,hS]
      have next:∀ b84:D,(f.args.length≤j∨L<m3)→wp (call dp) c59_r0 (mkf 136 [(0,eAn e x),(1,.i .i64 (L:Nat)),(2,.i .i64 (dd:Nat)),(6,b6),(7,.i .i64 (m3:Nat)),(8,.i .i64 (k:Nat)),(9,.i .i64 (i:Nat)),(10,.bx id 0),(11,.i .i64 (j:Nat)),(12,b12),(25,b25),(49,b49),(84,b84),(109,b109)]) S
        (Qblk 3 (QS (call dp) c59_r1 (Qseq (fun fr' S'=>∃ m',m'<q2∧J2 m' fr' S') (Qblk 2 (Qblk 1 (QS (call dp) c59_r2 (Qseq (fun fr' S'=>∃ m',m'<q∧J m' fr' S') (Qblk 0 (QS (call dp) c59_r3 (FinK [.t 6] fun d _=>∃ r:Nat,stripT d = .i .i64 (r:Nat)∧(r≤L→r=wAn w x)∧r≤L+(dd+1) * 8388608)))))))))):=by
       intro b84 hor
       simp [e59_r0,s59_r0]
       obtain ⟨C4,hC4⟩:∃ C4,C4=C3+(f.args.map w).sum:=⟨_,rfl⟩
       let J4:Nat→List D→Store→Prop:=fun q fr S=>∃ j4 m4 b6 b11 b25 b49 b84 b109,fr=mkf 136 [(0,eAn e x),(1,.i .i64 (L:Nat)),(2,.i .i64 (dd:Nat)),(6,b6),(7,.i .i64 (m4:Nat)),(8,.i .i64 (k:Nat)),(9,.i .i64 (i:Nat)),(10,.bx id 0),(11,b11),(12,.i .i64 (j4:Nat)),(25,b25),(49,b49),(84,b84),(109,b109)]∧j4+q=f.items.length∧(m4≤L→m4=C4+sumT (wIt w) f.items j4)∧m4≤L+(dd+1) * 8388608∧sget S id=some (.box (eAt e f))
       refine W_loop J4 ?_ f.items.length _ _ ⟨0,_,_,_,_,_,_,_,rfl,by simp,fun hle=>?_,hb3,hS⟩
       ·intro q4 fr S hJ;obtain ⟨j4,m4,b6,b11,b25,b49,b84,b109,hfr,hj4,hm4,hb4,hS4⟩:=hJ;rw [hfr]
        rw [←wp_W,e59_0]
        simp [s59_0,hS4]
        have last:(f.items.length≤j4∨L<m4)→∃ m'<q2,J2 m' (mkf 136 [(0,eAn e x),(1,.i .i64 (L:Nat)),(2,.i .i64 (dd:Nat)),(6,b6),(7,.i .i64 (m4:Nat)),(8,.i .i64 (k:Nat)),(9,.i .i64 (i+1:Nat)),(10,.top),(11,b11),(12,.top),(25,b25),(49,b49),(84,b84),(109,.top)]) S:=by
         intro hor
         refine ⟨q2-1,by omega,⟨i+1,m4,_,_,_,_,_,_,_,_,rfl,by omega,fun hle=>?_,hb4⟩⟩
         rw [sumT_succ _ hf,hm4 hle,sumT_all _ (show f.items.length≤j4 by omega)]
         omega
        split
        ·rename_i h4
         obtain ⟨p,hp⟩:=get_lt (l:=f.items) (k:=j4) (by omega)
         have hpm:=List.mem_of_getElem? hp
         obtain ⟨hpv,hpo⟩:=hof.items p hpm
         have hpt:=hpv
         try simp
         split
         ·rename_i hmL4
          have hm4:=hm4 (by omega)
          have hsi:wIt w p=p.1.text.length+w p.2:=rfl
          simp [iaD_eItems e _ hp]
          rw [wrapA (by unfold Bd;omega),wrapD (a:=L) (b:=m4) (by omega) (by unfold Bd;omega)]
          try simp
          rw [wrapP (a:=dd) (by omega) (by unfold Bd;omega)]
          obtain ⟨r,hc,hr1,hr2⟩:=H p.2 (L-m4) (dd-1) hpo (by omega) (by omega)
          rw [hc]
          try simp
          rw [wrapE (z:=(m4:Int)+p.1.text.length+r) (m4+p.1.text.length+r) (by omega) (by unfold Bd;omega),wrapS (k:=j4) (by unfold Bd;omega)]
          refine ⟨q4-1,by omega,⟨j4+1,_,_,_,_,_,_,_,rfl,by omega,fun hle=>?_,wt_bound hmL4 hpt hr2 hd1,hS4⟩⟩
          rw [sumT_succ _ hp,hsi]
          rw [hm4,wt_le hle hr1]
          simp only [Nat.add_assoc]
         ·rename_i hmL4
          simp [e59_r1,s59_r1]
          rw [wrapS (k:=i) (by unfold Bd;omega)]
          exact last (by omega)
        ·rename_i h4
         simp [e59_r1,s59_r1]
         rw [wrapS (k:=i) (by unfold Bd;omega)]
         exact last (by omega)
       ·have:=hm3 hle
        rw [sumT_all _ (show f.args.length≤j by omega)] at this
        simp [sumT];omega
      split
      ·rename_i h3
       obtain ⟨a,ha⟩:=get_lt (l:=f.args) (k:=j) (by omega)
       have ham:=List.mem_of_getElem? ha
       try simp
       split
       ·rename_i hmL3
        have hm3:=hm3 (by omega)
        simp [iaD_eArgs e _ ha]
        rw [wrapD (a:=L) (b:=m3) (by omega) (by unfold Bd;omega)]
        try simp
        rw [wrapP (a:=dd) (by omega) (by unfold Bd;omega)]
        obtain ⟨r,hc,hr1,hr2⟩:=H a (L-m3) (dd-1) (hof.args a ham) (by omega) (by omega)
        rw [hc]
        try simp
        rw [wrapA (a:=m3) (by unfold Bd;omega),wrapS (k:=j) (by unfold Bd;omega)]
        refine ⟨q3-1,by omega,⟨j+1,_,_,_,_,_,_,_,rfl,by omega,fun hle=>?_,wt_bound (t:=0) hmL3 (Nat.zero_le _) hr2 hd1,hS⟩⟩
        rw [sumT_succ _ ha]
        rw [hm3,wt_le (t:=0) hle hr1]
        simp only [Nat.add_assoc]
       ·exact next _ (by omega)
      ·exact next _ (by omega)
     ·rename_i hmL2
      simp [e59_r2,s59_r2]
      rw [wrapS (k:=k) (by unfold Bd;omega)]
      exact stop _ (by omega)
    ·rename_i h2
     simp [e59_r2,s59_r2]
     rw [wrapS (k:=k) (by unfold Bd;omega)]
     exact stop _ (by omega)
   ·rename_i hmL
    simp [e59_r3,s59_r3]
    exact ⟨m,rfl,fun hle=>by omega,hb⟩
  ·rename_i h
   simp [e59_r3,s59_r3]
   exact ⟨m,rfl,fun hle=>by rw [hm hle,sumT_all _ (show x.ts.length≤k by omega)];rfl,hb⟩
theorem v59:∀ n,Wts (eAnn n) (SmAnn n) (wAnn n)
 | 0=>fun x=>nomatch x
 | n+1=>v59s (GE_eAnn n) (v59 n)
def WtsT {α:Type} (e:α→D) (ok:α→Prop):Prop:=∀ a (L:Int) (dd:Nat),ok a→dd≤12→∃ z:Int,isoCall (call dp) 59 [e a,.i .i64 L,.i .i64 (dd:Nat)]=some (.i .i64 z)
set_option maxHeartbeats 1000000 in
theorem v59t_s {α:Type} {e:α→D} {ok:α→Prop} (he:GE e) (H:WtsT e ok):WtsT (eAn e) (OkAn ok):=by
 intro x L dd hx hdd
 suffices hh:∃ d,isoCall (call dp) 59 [eAn e x,.i .i64 L,.i .i64 (dd:Nat)]=some d∧∃ z:Int,d = .i .i64 z by
  obtain ⟨d,h1,z,rfl⟩:=hh
  exact ⟨z,h1⟩
 apply j59 _ _ _ _ (by simp [noRefL,noRef_eAn he]) (by rintro d ⟨z,rfl⟩;rfl)
 simp [s59]
 intro h0
 have hd1:1≤dd:=by omega
 have wd:IntKind.wrap .i64 ((dd:Int)-1)=((dd-1:Nat):Int):=wrapP hd1 (by unfold Bd;omega)
 let J:Nat→List D→Store→Prop:=fun q fr S=>∃ k m b6 b9 b10 b11 b12 b25 b49 b84 b109,fr=mkf 136 [(0,eAn e x),(1,.i .i64 (L:Int)),(2,.i .i64 (dd:Nat)),(6,b6),(7,.i .i64 (m:Int)),(8,.i .i64 (k:Nat)),(9,b9),(10,b10),(11,b11),(12,b12),(25,b25),(49,b49),(84,b84),(109,b109)]∧k+q=x.ts.length
 refine W_loop J ?_ x.ts.length _ _ ⟨0,_,_,_,_,_,_,_,_,_,_,rfl,by simp⟩
 intro q fr S hJ;obtain ⟨k,m,b6,b9,b10,b11,b12,b25,b49,b84,b109,hfr,hk⟩:=hJ;rw [hfr]
 rw [←wp_W,e59_3]
 simp [s59_3]
 split
 ·rename_i h
  obtain ⟨t,ht⟩:=get_lt (l:=x.ts) (k:=k) (by omega)
  have hot:=hx.ts t (List.mem_of_getElem? ht)
  split
  ·simp [iaD_eAn e _ ht]
   let J2:Nat→List D→Store→Prop:=fun q fr S=>∃ i m2 b6 b10 b11 b12 b25 b49 b84 b109,fr=mkf 136 [(0,eAn e x),(1,.i .i64 (L:Int)),(2,.i .i64 (dd:Nat)),(6,b6),(7,.i .i64 (m2:Int)),(8,.i .i64 (k:Nat)),(9,.i .i64 (i:Nat)),(10,b10),(11,b11),(12,b12),(25,b25),(49,b49),(84,b84),(109,b109)]∧i+q=t.fs.length
   refine W_loop J2 ?_ t.fs.length _ _ ⟨0,_,_,_,_,_,_,_,_,_,rfl,by simp⟩
   intro q2 fr S hJ;obtain ⟨i,m2,b6,b10,b11,b12,b25,b49,b84,b109,hfr,hi⟩:=hJ;rw [hfr]
   rw [←wp_W,e59_2]
   simp [s59_2,iaD_eAn e _ ht]
   split
   ·rename_i h2
    obtain ⟨f,hf⟩:=get_lt (l:=t.fs) (k:=i) (by omega)
    have hof:=hot.fs f (List.mem_of_getElem? hf)
    split
    ·simp [iaD_eFcs e _ hf]
     obtain ⟨id,hid⟩:∃ id,id=S.length:=⟨_,rfl⟩
     rw [←hid]
     let J3:Nat→List D→Store→Prop:=fun q fr S=>∃ j m3 b6 b12 b25 b49 b84 b109,fr=mkf 136 [(0,eAn e x),(1,.i .i64 (L:Int)),(2,.i .i64 (dd:Nat)),(6,b6),(7,.i .i64 (m3:Int)),(8,.i .i64 (k:Nat)),(9,.i .i64 (i:Nat)),(10,.bx id 0),(11,.i .i64 (j:Nat)),(12,b12),(25,b25),(49,b49),(84,b84),(109,b109)]∧j+q=f.args.length∧sget S id=some (.box (eAt e f))
     refine W_loop J3 ?_ f.args.length _ _ ⟨0,_,_,_,_,_,_,_,rfl,by simp,by simp [hid]⟩
     intro q3 fr S hJ;obtain ⟨j,m3,b6,b12,b25,b49,b84,b109,hfr,hj,hS⟩:=hJ;rw [hfr]
     rw [←wp_W,e59_1]
     simp [s59_1,hS]
     have next:∀ b84:D,wp (call dp) c59_r0 (mkf 136 [(0,eAn e x),(1,.i .i64 L),(2,.i .i64 (dd:Nat)),(6,b6),(7,.i .i64 (m3:Int)),(8,.i .i64 (k:Nat)),(9,.i .i64 (i:Nat)),(10,.bx id 0),(11,.i .i64 (j:Nat)),(12,b12),(25,b25),(49,b49),(84,b84),(109,b109)]) S
       (Qblk 3 (QS (call dp) c59_r1 (Qseq (fun fr' S'=>∃ m',m'<q2∧J2 m' fr' S') (Qblk 2 (Qblk 1 (QS (call dp) c59_r2 (Qseq (fun fr' S'=>∃ m',m'<q∧J m' fr' S') (Qblk 0 (QS (call dp) c59_r3 (FinK [.t 6] fun d _=>∃ z:Int,stripT d = .i .i64 z)))))))))):=by
      intro b84
      simp [e59_r0,s59_r0]
      let J4:Nat→List D→Store→Prop:=fun q fr S=>∃ j4 m4 b6 b11 b25 b49 b84 b109,fr=mkf 136 [(0,eAn e x),(1,.i .i64 (L:Int)),(2,.i .i64 (dd:Nat)),(6,b6),(7,.i .i64 (m4:Int)),(8,.i .i64 (k:Nat)),(9,.i .i64 (i:Nat)),(10,.bx id 0),(11,b11),(12,.i .i64 (j4:Nat)),(25,b25),(49,b49),(84,b84),(109,b109)]∧j4+q=f.items.length∧sget S id=some (.box (eAt e f))
      refine W_loop J4 ?_ f.items.length _ _ ⟨0,_,_,_,_,_,_,_,rfl,by simp,hS⟩
      intro q4 fr S hJ;obtain ⟨j4,m4,b6,b11,b25,b49,b84,b109,hfr,hj4,hS4⟩:=hJ;rw [hfr]
      rw [←wp_W,e59_0]
      simp [s59_0,hS4]
      split
      ·rename_i h4
       obtain ⟨p,hp⟩:=get_lt (l:=f.items) (k:=j4) (by omega)
       split
       ·obtain ⟨z,hc⟩:=H p.2 (IntKind.wrap .i64 (L-m4)) (dd-1) (hof.items p (List.mem_of_getElem? hp)).2 (by omega)
        simp [iaD_eItems e _ hp,wd,hc]
        rw [wrapL (k:=j4) h4 hof.ilen]
        exact ⟨q4-1,by omega,⟨j4+1,_,_,_,_,_,_,_,rfl,by omega,hS4⟩⟩
       ·simp [e59_r1,s59_r1]
        rw [wrapL (k:=i) h2 hot.len]
        exact ⟨q2-1,by omega,⟨i+1,_,_,_,_,_,_,_,_,_,rfl,by omega⟩⟩
      ·simp [e59_r1,s59_r1]
       rw [wrapL (k:=i) h2 hot.len]
       exact ⟨q2-1,by omega,⟨i+1,_,_,_,_,_,_,_,_,_,rfl,by omega⟩⟩
     split
     ·rename_i h3
      obtain ⟨a,ha⟩:=get_lt (l:=f.args) (k:=j) (by omega)
      split
      ·obtain ⟨z,hc⟩:=H a (IntKind.wrap .i64 (L-m3)) (dd-1) (hof.args a (List.mem_of_getElem? ha)) (by omega)
       simp [iaD_eArgs e _ ha,wd,hc]
       rw [wrapL (k:=j) h3 hof.alen]
       exact ⟨q3-1,by omega,⟨j+1,_,_,_,_,_,_,_,rfl,by omega,hS⟩⟩
      ·exact next _
     ·exact next _
    ·simp [e59_r2,s59_r2]
     rw [wrapL (k:=k) h hx.len]
     exact ⟨q-1,by omega,⟨k+1,_,_,_,_,_,_,_,_,_,_,rfl,by omega⟩⟩
   ·simp [e59_r2,s59_r2]
    rw [wrapL (k:=k) h hx.len]
    exact ⟨q-1,by omega,⟨k+1,_,_,_,_,_,_,_,_,_,_,rfl,by omega⟩⟩
  ·simp [e59_r3,s59_r3]
 ·simp [e59_r3,s59_r3]
theorem v59t:∀ n,WtsT (eAnn n) (OkAnn n)
 | 0=>fun x=>nomatch x
 | n+1=>v59t_s (GE_eAnn n) (v59t n)
end Go.Proofs.YtjlmeikcfdanmaaGreatDoor.DE.V

namespace Go.Proofs.YtjlmeikcfdanmaaGreatDoor.DE.V
open Go BT
set_option linter.unusedSimpArgs false
set_option linter.unusedVariables false
abbrev SA:Type:=Sigma Ann
def eS (p:SA):D:=eAnn p.1 p.2
def wS (p:SA):Nat:=wAnn p.1 p.2
def okS (p:SA):Prop:=OkAnn p.1 p.2
def smS (p:SA):Prop:=SmAnn p.1 p.2
theorem GE_eS:GE eS:=fun p=>GE_eAnn p.1 p.2
theorem v30 (l:List SA) (hb:Bd l.length) (hok:∀ p,p∈l→okS p):∃ d,isoCall (call dp) 30 [.i .i64 40,eArgs eS false l]=some d∧∃ c:Bool,d = .b c∧(c=true→∀ p,p∈l→smS p→wS p≤40):=by
 apply j30 _ _ _ (by simp [noRefL,noRef_eArgs GE_eS]) (by rintro d ⟨c,rfl,_⟩;rfl)
 simp [s30]
 let J:Nat→List D→Store→Prop:=fun q fr S=>∃ k b4 b9,fr=mkf 20 [(0,.i .i64 40),(1,eArgs eS false l),(4,b4),(5,.i .i64 (k:Nat)),(9,b9)]∧k+q=l.length∧∀ p,p∈l.take k→smS p→wS p≤40
 refine W_loop J ?_ l.length _ _ ⟨0,_,_,rfl,by simp,by simp⟩
 intro q fr S hJ;obtain ⟨k,b4,b9,hfr,hk,hw⟩:=hJ;rw [hfr]
 rw [←wp_W,e30_0]
 simp [s30_0]
 split
 ·rename_i h
  obtain ⟨x,hx⟩:=get_lt (l:=l) (k:=k) (by omega)
  have hxm:=List.mem_of_getElem? hx
  obtain ⟨z,h1⟩:=v59t x.1 x.2 40 12 (hok x hxm) (by omega)
  have h1:isoCall (call dp) 59 [eS x,.i .i64 40,.i .i64 12]=some (.i .i64 z):=h1
  simp [iaD_eArgs eS _ hx,h1]
  intro h4
  rw [wrapS (k:=k) (hb.lt (Nat.le_of_lt h))]
  refine ⟨q-1,by omega,⟨k+1,_,_,rfl,by omega,fun p hp hsm=>?_⟩⟩
  rw [take_snoc hx] at hp
  rcases List.mem_append.1 hp with hp | hp
  ·exact hw p hp hsm
  ·obtain rfl:=List.mem_singleton.1 hp
   obtain ⟨r,g1,g2,g3⟩:=v59 p.1 p.2 40 12 hsm (by omega) (by omega)
   have g1:isoCall (call dp) 59 [eS p,.i .i64 40,.i .i64 12]=some (.i .i64 (r:Nat)):=g1
   rw [g1] at h1
   injection h1 with h1
   injection h1 with _ h1
   have:=g2 (by omega)
   unfold wS;omega
 ·rename_i h
  simp [e30_r0,s30_r0]
  rw [List.take_of_length_le (by omega)] at hw
  exact hw
section
variable {α:Type} {e:α→D} {ok:α→Prop} {w:α→Nat}
def idem (f:Fc α):Bool:=decide (f.kind=3∨f.kind=4)
theorem v98 (he:GE e) (f:Fc α):isoCall (call dp) 98 [.agg (eAt e f)]=some (.b (idem f)):=by
 apply i98 _ _ (by simp [noRefL,noRef_agAt he]) rfl
 simp [s98,idem]
 by_cases h3:f.kind=3 <;> by_cases h4:f.kind=4 <;> simp [h3,h4]
def fiFc (f:Fc α):Bool:=decide (f.exp≤64)&&decide (f.items.length≤1024)
theorem v140 (he:GE e) (f:Fc α):isoCall (call dp) 140 [.agg (eFc e f)]=some (.b (!fiFc f)):=by
 apply i140 _ _ (by simp [noRefL,noRef_agFc he]) rfl
 simp [s140,fiFc]
 by_cases h1:64<f.exp <;> by_cases h2:1024<f.items.length <;> simp [h1,h2] <;> omega
def fiTm (t:Tm α):Bool:=decide (t.fs.length≤64)&&t.fs.all fiFc
theorem any_not_all {β:Type} (p:β→Bool) (l:List β):l.any (fun x=>!p x) = !l.all p:=by
 induction l with
 | nil=>rfl
 | cons x l ih=>simp [ih,Bool.not_and]
theorem v138 (he:GE e) (t:Tm α) (hb:Len63 t.fs.length):isoCall (call dp) 138 [.agg (eTm e t)]=some (.b (!fiTm t)):=by
 apply i138 _ _ (by simp [noRefL,noRef_agTm he]) rfl
 have h:=v139 he (fun f=>!fiFc f) 140 t.nl t.fs hb fun f _=>v140 he f
 rw [any_not_all] at h
 unfold fiTm
 generalize t.fs.all fiFc=A at *
 simp [s138,h]
 by_cases h1:64<t.fs.length
 ·simp [h1,show ¬t.fs.length≤64 by omega];omega
 ·have h2:(t.fs.length:Int)≤64:=by omega
  cases A <;> simp [h1,h2] <;> omega
noncomputable def callI (g:Nat) (d:D):Int:=match isoCall (call dp) g [d] with
 | some (.i _ z)=>z
 | _=>0
theorem callI_eq {g:Nat} {d:D} {z:Int} (h:isoCall (call dp) g [d]=some (.i .i64 z)):callI g d=z:=by unfold callI;rw [h]
noncomputable def fitAn (e:α→D) (x:An α):Bool:=decide (x.ts.length≤512)&&decide (callI 135 (eAn e x)≤8)&&decide (callI 136 (eAn e x)≤4096)&&x.ts.all fiTm
theorem v96 (he:GE e) (hs:EndI 136 (eAn e) (OkAn ok)) (hd:EndI 135 (eAn e) (OkAn ok)) (x:An α) (hx:OkAn ok x):isoCall (call dp) 96 [eAn e x]=some (.b (fitAn e x)):=by
 apply i96 _ _ (by simp [noRefL,noRef_eAn he]) rfl
 have h:=v137 he (fun t=>!fiTm t) 138 x.nl x.ts hx.len fun t ht=>v138 he t (hx.ts t ht).len
 have h:isoCall (call dp) 137 [eAn e x,.fn 138 []]=some (.b (x.ts.any fun t=>!fiTm t)):=h
 rw [any_not_all] at h
 unfold fitAn
 generalize x.ts.all fiTm=A at *
 obtain ⟨z1,e1⟩:=hs x hx
 obtain ⟨z2,e2⟩:=hd x hx
 rw [callI_eq e1,callI_eq e2]
 simp [s96,e1,e2,h]
 by_cases h1:512<x.ts.length
 ·simp [h1,show ¬x.ts.length≤512 by omega];omega
 ·by_cases h2:8<z2
  ·simp [h1,h2,show ¬z2≤8 by omega]
  ·by_cases h3:4096<z1
   ·simp [h1,h2,h3,show ¬z1≤4096 by omega]
   ·have k1:(x.ts.length:Int)≤512:=by omega
    have k2:z2≤8:=by omega
    have k3:z1≤4096:=by omega
    cases A <;> simp [h1,h2,h3,k1,k2,k3] <;> omega
def isC (x:An α):Bool:=match x.ts with
 | [t]=>decide (t.fs.length=0)
 | _=>false
def isU (x:An α):Bool:=match x.ts with
 | [t]=>decide (t.c=1)&&(match t.fs with
  | [f]=>decide (f.exp=1)&&(decide (f.kind=2) || idem f)
  | _=>false)
 | _=>false
def hasC (x:An α):Bool:=x.ts.any fun t=>decide (t.fs.length=0)
@[simp] theorem iaD_terms0 (k:IntKind) (nl:Bool) (t:Tm α) (l:List (Tm α)):iaD 2 (eTms e nl (t::l)) (.i k 0)=some (.el (eTm e t) 0):=iaD_eTms e k (n:=0) rfl
@[simp] theorem iaD_facs0 (k:IntKind) (nl:Bool) (t:Fc α) (l:List (Fc α)):iaD 11 (eFcs e nl (t::l)) (.i k 0)=some (.el (eFc e t) 0):=iaD_eFcs e k (n:=0) rfl
@[simp] theorem iaD_args0 (k:IntKind) (nl:Bool) (t:α) (l:List α):iaD 1 (eArgs e nl (t::l)) (.i k 0)=some (.el [e t] 0):=iaD_eArgs e k (n:=0) rfl
@[simp] theorem iaD_args1 (k:IntKind) (nl:Bool) (t u:α) (l:List α):iaD 1 (eArgs e nl (t::u::l)) (.i k 1)=some (.el [e u] 0):=iaD_eArgs e k (n:=1) rfl
theorem v152 (he:GE e) (x:An α):isoCall (call dp) 152 [eAn e x]=some (.b (isC x)):=by
 apply i152 _ _ (by simp [noRefL,noRef_eAn he]) rfl
 obtain ⟨nl,ts⟩:=x
 match ts with
 | []=>simp [s152,eAn,isC]
 | [t]=>simp [-OX_b,s152,eAn,isC]
 | t::u::l=>simp [s152,eAn,isC];omega
theorem v153 (he:GE e) (x:An α):isoCall (call dp) 153 [eAn e x]=some (.b (isU x)):=by
 apply i153 _ _ (by simp [noRefL,noRef_eAn he]) rfl
 obtain ⟨nl,ts⟩:=x
 match ts with
 | []=>simp [s153,eAn,isU]
 | [⟨c,fnl,fs⟩]=>
  by_cases hc:c=1
  ·match fs with
   | []=>simp [s153,eAn,isU,hc]
   | [f]=>
    simp [s153,eAn,isU,hc,v98 he]
    by_cases h1:f.exp=1
    ·by_cases h2:f.kind=2
     ·simp [h1,h2]
     ·simp [h1,h2]
    ·simp [h1]
   | f::g::l=>
    have:¬((l.length:Int)+1+1=1):=by omega
    simp [s153,eAn,isU,hc,this]
  ·simp [s153,eAn,isU,hc]
 | t::u::l=>
  have:¬((l.length:Int)+1+1=1):=by omega
  simp [s153,eAn,isU,this]
theorem v192 (he:GE e) (t:Tm α):isoCall (call dp) 192 [.agg (eTm e t)]=some (.b (decide (t.fs.length=0))):=by
 apply i192 _ _ (by simp [noRefL,noRef_agTm he]) rfl
 have:decide ((t.fs.length:Int)=0)=decide (t.fs.length=0):=by rw [decide_eq_decide];omega
 simp [-OX_b,s192]
theorem v154 (he:GE e) (x:An α) (hb:Len63 x.ts.length):isoCall (call dp) 154 [eAn e x]=some (.b (hasC x)):=by
 apply i154 _ _ (by simp [noRefL,noRef_eAn he]) rfl
 have h:=v137 he (fun t=>decide (t.fs.length=0)) 192 x.nl x.ts hb fun t _=>v192 he t
 have h:isoCall (call dp) 137 [eAn e x,.fn 192 []]=some (.b (hasC x)):=h
 simp [-OX_b,s154,h]
def badV (fn:Int) (b:Vl) (p:Vl × α):Bool:=!vlOk p.1 || !decide (p.1.kind=b.kind) || (decide (fn=0) && !decide (p.1.int=1))
def fitg (fn:Int) (items:List (Vl × α)) (op:Int) (b:Vl):Bool:=
 decide (0≤fn)&&decide (fn≤3)&&decide (5≤op)&&decide (op≤10)&&vlOk b && !(decide (fn=0∨fn=1) && !decide (b.kind=0)) && !items.any (badV fn b)
theorem v195 (he:GE e) {S:Store} {ib ifn:Nat} {fn:Int} {b:Vl} (p:Vl × α) (h1:sget S ib=some (.box (eVl b))) (h2:sget S ifn=some (.box [.i .i64 fn])) :
  ∃ r S',call dp 195 [.agg (eIt e p),.bx ib 0,.bx ifn 0] S=some (r,S')∧r = .b (badV fn b p)∧S' = .box (eIt e p)::S:=by
 obtain ⟨r,S',e1,e2,e3⟩:=f195 (.agg (eIt e p)) (.bx ib 0) (.bx ifn 0) S (fun r S'=>r = .b (badV fn b p)∧S' = .box (eIt e p)::S) (by
  have n1:=sget_lt h1
  have n2:=sget_lt h2
  simp [s195,cellsK_it e he,v194,show ¬ib=S.length by omega,show ¬ifn=S.length by omega,h1,h2,badV]
  by_cases k1:vlOk p.1=true
  ·by_cases k2:p.1.kind=b.kind
   ·by_cases k3:fn=0
    ·by_cases k4:p.1.int=1 <;> simp [k1,k2,k3,k4]
    ·simp [k1,k2,k3]
   ·simp [k1,k2]
  ·simp [k1])
 exact ⟨r,S',e1,e2,e3⟩
theorem v2193 (he:GE e) (nl:Bool) (l:List (Vl × α)) (hb:Len63 l.length) {S0:Store} {ib ifn:Nat} {fn:Int} {b:Vl} (p:Vl × α→Bool) (hp:p=badV fn b) (h1:sget S0 ib=some (.box (eVl b))) (h2:sget S0 ifn=some (.box [.i .i64 fn])) :
  ∃ r S',call dp 2193 [eItems e nl l,.fn 195 [.bx ib 0,.bx ifn 0]] S0=some (r,S')∧∃ n:Int,r = .i .i64 n∧decide (0≤n)=l.any p:=by
 refine f2193 _ _ _ (fun r _=>∃ n:Int,r = .i .i64 n∧decide (0≤n)=l.any p) ?_
 simp [s2193]
 let J:Nat→List D→Store→Prop:=fun q fr S=>∃ k b4 b9,fr=mkf 19 [(0,eItems e nl l),(1,.fn 195 [.bx ib 0,.bx ifn 0]),(4,b4),(7,.i .i64 l.length),(8,.i .i64 (k:Nat)),(9,b9)]∧k+q=l.length∧l.any p=(l.drop k).any p∧sget S ib=some (.box (eVl b))∧sget S ifn=some (.box [.i .i64 fn])
 refine W_loop J ?_ l.length _ _ ⟨0,_,_,rfl,by simp,by simp,h1,h2⟩
 intro q fr S hJ;obtain ⟨k,b4,b9,hfr,hk,hc,hS1,hS2⟩:=hJ;rw [hfr]
 rw [←wp_W,e2193_0]
 simp [s2193_0]
 split
 ·rename_i h
  obtain ⟨x,hx⟩:=get_lt (l:=l) (k:=k) (by omega)
  obtain ⟨r,S',c1,rfl,rfl⟩:=v195 he x hS1 hS2
  rw [drop_get hx,List.any_cons] at hc
  simp [iaD_eItems e _ hx,cellsK_it e he,c1,←hp]
  split
  ·rename_i hpx
   simp only [hpx,Bool.true_or] at hc
   have:=List.any_eq_true.1 hc
   simpa using this
  ·rename_i hpx
   simp only [hpx,Bool.false_or] at hc
   rw [wrapL (k:=k) h hb]
   exact ⟨q-1,by omega,⟨k+1,_,_,rfl,by omega,hc,sget_push hS1,sget_push hS2⟩⟩
 ·rw [List.drop_eq_nil_of_le (show l.length≤k by omega)] at hc
  simp [e2193_r0,s2193_r0]
  simpa using hc
theorem v158 (
       he:GE e) (fn op:Int) (b:Vl) (nl:Bool) (l:List (Vl × α)) (hb:Len63 l.length):isoCall (call dp) 158 [.i .i64 fn,eItems e nl l,.i .i64 op,.agg (eVl b)]=some (.b (fitg fn l op b)):=by
 apply i158 _ _ _ _ _ (by simp [noRefL,noRef_eItems he]) rfl
 simp [s158,v194]
 have hS1:sget [Ent.box (eVl b),Ent.box [D.i .i64 fn]] 1=some (.box (eVl b)):=rfl
 have hS2:sget [Ent.box (eVl b),Ent.box [D.i .i64 fn]] 0=some (.box [D.i .i64 fn]):=rfl
 obtain ⟨r,S',c1,n,rfl,hn⟩:=v2193 he nl l hb _ rfl hS1 hS2
 have hc:∃ S'',call dp 2155 [eItems e nl l,.fn 195 [.bx 1 0,.bx 0 0]] [Ent.box (eVl b),Ent.box [D.i .i64 fn]]=some (.b (l.any (badV fn b)),S''):=by
  obtain ⟨r,S',c2,rfl⟩:=f2155 (eItems e nl l) (.fn 195 [.bx 1 0,.bx 0 0]) [Ent.box (eVl b),Ent.box [D.i .i64 fn]] (fun r _=>r = .b (l.any (badV fn b))) (by
   simp only [s2155,c1,OX_some,bin_geq,hn])
  exact ⟨S',c2⟩
 obtain ⟨S'',hc⟩:=hc
 unfold fitg
 generalize l.any (badV fn b)=A at *
 by_cases k1:fn<0
 ·simp [k1,show ¬0≤fn by omega]
 ·by_cases k2:3<fn
  ·simp [k1,k2,show ¬fn≤3 by omega]
  ·by_cases k3:op<5
   ·simp [k1,k2,k3,show ¬5≤op by omega]
   ·by_cases k4:10<op
    ·simp [k1,k2,k3,k4,show ¬op≤10 by omega]
    ·simp only [k1,k2,k3,k4,show 0≤fn by omega,show fn≤3 by omega,show 5≤op by omega,show op≤10 by omega]
     by_cases k5:vlOk b=true
     ·by_cases k6:fn=0∨fn=1
      ·by_cases k7:b.kind=0
       ·rcases k6 with k6 | k6 <;> subst k6 <;> simp [k5,k7,hc,Bool.not_eq_true']
       ·rcases k6 with k6 | k6 <;> subst k6 <;> simp [k5,k7]
      ·have k8:¬fn=0:=fun h=>k6 (.inl h)
       have k9:¬fn=1:=fun h=>k6 (.inr h)
       simp [k5,k8,k9,hc]
     ·simp [k5]
open Classical in
theorem v157 (he:GE e) (c':Vl × α→Vl × α→Int) (nl:Bool) (l:List (Vl × α)) (hb:Len63 l.length) (hf:∀ x,x∈l→∀ y,y∈l→isoCall (call dp) 148 [.agg (eIt e x),.agg (eIt e y)]=some (.i .i64 (c' x y))) :
  isoCall (call dp) 157 [eItems e nl l,.fn 148 []]=some (.b (decide (∀ (j:Nat) x y,l[j]? = some x→l[j+1]? = some y→¬c' y x<0))):=by
 apply i157 _ _ _ (by simp [noRefL,noRef_eItems he];rfl) rfl
 have hs:strip (.fn 148 []) = .fn 148 []:=rfl
 simp only [s157,hs,strip_eItems,lenD_eItems,OX_some,bin_sub]
 rw [wrap64 (n:=(l.length:Int)-1) ⟨by omega,by unfold Len63 at hb;omega⟩]
 let J:Nat→List D→Store→Prop:=fun q fr S=>∃ i b4 b10,fr=mkf 25 [(0,eItems e nl l),(1,.fn 148 []),(4,b4),(5,.i .i64 i),(10,b10)]∧(i≤q∧i<l.length∧-1≤i)∧∀ (j:Nat) x y,i≤j→l[j]? = some x→l[j+1]? = some y→¬c' y x<0
 refine W_loop J ?_ l.length _ _ ⟨_,_,_,rfl,⟨by omega,by omega,by omega⟩,fun j x y h1 h2 h3=>by have:=(List.getElem?_eq_some_iff.1 h3).1;omega⟩
 intro q fr S hJ;obtain ⟨i,b4,b10,hfr,hi,hc⟩:=hJ;rw [hfr]
 rw [←wp_W,e157_0]
 simp [s157_0]
 split
 ·rename_i h
  obtain ⟨k,rfl⟩:∃ k:Nat,i=(k+1:Nat):=⟨(i-1).toNat,by omega⟩
  obtain ⟨x,hx⟩:=get_lt (l:=l) (k:=k) (by omega)
  obtain ⟨y,hy⟩:=get_lt (l:=l) (k:=k+1) (by omega)
  have e1:IntKind.i64.wrap (((k+1:Nat):Int)-1)=(k:Int):=by rw [wrap64 ⟨by omega,by unfold Len63 at hb;omega⟩];omega
  rw [iaD_eItems e _ hy,e1]
  simp [iaD_eItems e _ hx,hf y (List.mem_of_getElem? hy) x (List.mem_of_getElem? hx)]
  split
  ·rename_i hlt
   exact ⟨k,x.1,x.2,hx,y.1,y.2,hy,hlt⟩
  ·rename_i hlt
   refine ⟨q-1,by omega,⟨_,_,_,rfl,⟨by omega,by omega,by omega⟩,fun j x' y' h1 h2 h3=>?_⟩⟩
   by_cases hjk:j=k
   ·subst hjk
    rw [hx] at h2;rw [hy] at h3
    injection h2 with h2;injection h3 with h3
    subst h2 h3
    exact hlt
   ·exact hc j x' y' (by omega) h2 h3
 ·rename_i h
  simp [e157_r0,s157_r0]
  intro j x1 x2 y1 y2 h1 h2
  have:=hc j (x1,x2) (y1,y2) (by omega) h1 h2
  omega
end
end Go.Proofs.YtjlmeikcfdanmaaGreatDoor.DE.V

namespace Go.Proofs.YtjlmeikcfdanmaaGreatDoor.DE.V
open Go BT
set_option linter.unusedSimpArgs false
set_option linter.unusedVariables false
structure Prm (α:Type) where
 V:α→Bool
 em:α→Bool
 isC:α→Bool
 isU:α→Bool
 hasC:α→Bool
 c:α→α→Int
section
variable {α:Type}
def vlZ (v:Vl):Bool:=decide (v.kind=0)&&(decide (v.int=0)&&v.text == [])
def plain0 (f:Fc α):Bool:=decide (f.fn=0)&&decide (f.items.length=0)&&decide (f.op=0)&&vlZ f.bound
def Srt (c':Vl × α→Vl × α→Int) (l:List (Vl × α)):Prop:=∀ (j:Nat) x y,l[j]? = some x→l[j+1]? = some y→¬c' y x<0
def mon2 (P:Prm α):List α→Bool
 | [a,b]=>!decide (P.c a b=0)
 | _=>false
def del1 (P:Prm α):List α→Bool
 | [a]=>!P.isC a && !P.isU a
 | _=>false
def abs1 (P:Prm α):List α→Bool
 | [a]=>!P.hasC a
 | _=>false
open Classical in
noncomputable def vAt (P:Prm α) (f:Fc α):Bool:=
 if f.kind≠4∧plain0 f=false then false
 else if f.kind≠0∧f.row≠(0,0) then false
 else if f.args.any (fun a=>!P.V a || P.em a)=true then false
 else if f.kind=0 then rowOk f.row&&decide (f.args.length=0)
 else if f.kind=1 then mon2 P f.args
 else if f.kind=2 then del1 P f.args
 else if f.kind=3 then abs1 P f.args
 else if f.kind=4 then decide (f.args.length=0)&&decide (0<f.items.length) && !f.items.any (fun p=>!P.V p.2 || P.em p.2)&&decide (Srt (cmpIt P.c) f.items)&&fitg f.fn f.items f.op f.bound
 else false
def pre {β:Type} (l:List β) (k:Nat):Option β:=if k=0 then none else l[k-1]?
def okExp (f:Fc α):Bool:=decide (1≤f.exp)&&(!idem f || decide (f.exp=1))
noncomputable def vFs (P:Prm α):Option (Fc α)→List (Fc α)→Bool
 | _,[]=>true
 | p,f::l=>(okExp f&&(match p with | none=>true | some g=>decide (cmpAt P.c g f<0))&&vAt P f)&&vFs P (some f) l
noncomputable def vTs (P:Prm α):Option (Tm α)→List (Tm α)→Bool
 | _,[]=>true
 | p,t::l=>(decide (1≤t.c)&&decide (t.c≤1152921504606846976)&&(match p with | none=>true | some g=>decide (cmpTl P.c g t<0))&&vFs P none t.fs)&&vTs P (some t) l
noncomputable def vAn (P:Prm α) (e:α→D) (x:An α):Bool:=fitAn e x&&vTs P none x.ts
theorem pre_succ {β:Type} {l:List β} {k:Nat} {x:β} (h:l[k]? = some x):pre l (k+1)=some x:=by simp [pre,h]
theorem pre_zero {β:Type} {l:List β}:pre l 0=none:=rfl
variable {e:α→D} {ok:α→Prop}
structure PrmOk (e:α→D) (ok:α→Prop) (P:Prm α):Prop where
 he:GE e
 len:∀ a,∃ n:Nat,lenD false (e a)=some (.i .i64 n)∧P.em a=decide (n=0)
 V:∀ a,ok a→isoCall (call dp) 60 [e a]=some (.b (P.V a))
 isC:∀ a,isoCall (call dp) 152 [e a]=some (.b (P.isC a))
 isU:∀ a,isoCall (call dp) 153 [e a]=some (.b (P.isU a))
 hasC:∀ a,ok a→isoCall (call dp) 154 [e a]=some (.b (P.hasC a))
 c:Cmps e ok P.c
 eq:∀ a b,ok a→isoCall (call dp) 151 [e a,e b]=some (.b (decide (P.c a b=0)))
variable {P:Prm α}
theorem v150 (H:PrmOk e ok P) (a:α) (h:ok a):isoCall (call dp) 150 [e a]=some (.b (!P.V a || P.em a)):=by
 obtain ⟨n,h1,h2⟩:=H.len a
 apply i150 _ _ (by simp [noRefL,H.he.noRef,H.he.strip]) rfl
 simp only [s150,H.he.strip,H.V a h,OX_some,un_not]
 cases P.V a
 ·simp
 ·simp [-OX_b,h1,h2]
theorem v156 (H:PrmOk e ok P) (p:Vl × α) (h:ok p.2):isoCall (call dp) 156 [.agg (eIt e p)]=some (.b (!P.V p.2 || P.em p.2)):=by
 obtain ⟨n,h1,h2⟩:=H.len p.2
 apply i156 _ _ (by simp [noRefL,noRef_agIt H.he,strip_agIt e H.he]) rfl
 simp only [s156,strip_agIt e H.he,bxx_eq,cellsK_it e H.he,OX_some,faD_bx,Nat.zero_add,ldD_bx,sget_cons,List.length_nil,if_true,ldE_box,rdK_one,it_3,H.V p.2 h,un_not]
 cases P.V p.2
 ·simp
 ·simp [-OX_b,h1,h2]
theorem seqL_vl (r:Vl):seqL [.i,.i,.s] (eVl r) [.i .i64 0,.i .i64 0,.s []]=some (vlZ r):=by
 simp [eVl,seqL,isSK,seq1,vlZ]
 rfl
@[simp] theorem bin_neq_vl (r:Vl):binD .neq (.agg [.i,.i,.s]) (.agg (eVl r)) (.agg [.i .i64 0,.i .i64 0,.s []])=some (.b (!vlZ r)):=by simp only [binD,seqL_vl,eqD]
@[simp] theorem bin_neq_row0 (r:Row):binD .neq (.agg [.i,.i]) (.agg (eRow r)) (.agg [.i .i64 0,.i .i64 0])=some (.b (!decide (r=(0,0)))):=bin_neq_row r (0,0)
open Classical in
theorem v100 (
       H:PrmOk e ok P) (f:Fc α) (h:OkFc ok f):isoCall (call dp) 100 [.agg (eAt e f)]=some (.b (vAt P f)):=by
 have he:=H.he
 have hA:=v101 he (fun a=>!P.V a || P.em a) 150 f.anl f.args h.alen fun a ha=>v150 H a (h.args a ha)
 have hI:=v155 he (fun p=>!P.V p.2 || P.em p.2) 156 f.inl f.items h.ilen fun p hp=>v156 H p (h.items p hp).2
 have hS:=v157 he (cmpIt P.c) f.inl f.items h.ilen fun p hp q _=>v148 he H.c p q (h.items p hp).2
 have hF:=v158 he f.fn f.op f.bound f.inl f.items h.ilen
 have h92:=v92 f.row
 apply i100 _ _ (by simp [noRefL,noRef_agAt he]) rfl
 unfold vAt
 have hS:isoCall (call dp) 157 [eItems e f.inl f.items,.fn 148 []]=some (.b (decide (Srt (cmpIt P.c) f.items))):=hS
 generalize hgA:f.args.any (fun a=>!P.V a || P.em a)=A at *
 generalize f.items.any (fun p=>!P.V p.2 || P.em p.2)=B at *
 generalize decide (Srt (cmpIt P.c) f.items)=C at *
 generalize fitg f.fn f.items f.op f.bound=F at *
 generalize rowOk f.row=R at *
 have hbl:bldV [.i .i64 0,.i .i64 0,.s []] []=some [.i .i64 0,.i .i64 0,.s []]:=rfl
 have hbl2:bldV [.i .i64 0,.i .i64 0] []=some [.i .i64 0,.i .i64 0]:=rfl
 by_cases hp:f.kind≠4∧plain0 f=false
 ·obtain ⟨k4,hp0⟩:=hp
  simp only [k4,hp0,ne_eq,not_false_eq_true,and_self,if_true]
  simp [s100,hbl,hbl2,k4]
  unfold plain0 at hp0
  by_cases a1:f.fn=0
  ·by_cases a2:f.items=[]
   ·by_cases a3:f.op=0
    ·simp [a1,a2,a3] at hp0
     simp [a1,a2,a3,hp0]
    ·simp [a1,a2,a3]
   ·simp [a1,a2]
  ·simp [a1]
 ·have hp':f.kind=4∨(f.fn=0∧f.items=[]∧f.op=0∧vlZ f.bound=true):=by
   by_cases k4:f.kind=4
   ·exact .inl k4
   ·right
    have:plain0 f=true:=by
     cases hq:plain0 f with
     | true=>rfl
     | false=>exact absurd ⟨k4,hq⟩ hp
    simp [plain0] at this
    exact ⟨this.1.1.1,by simpa using this.1.1.2,this.1.2,this.2⟩
  rw [if_neg hp]
  by_cases hr:f.kind≠0∧f.row≠(0,0)
  ·rw [if_pos hr]
   rcases hp' with k4 | ⟨a1,a2,a3,a4⟩
   ·simp [s100,hbl,hbl2,k4,hr.2]
   ·by_cases k4:f.kind=4
    ·simp [s100,hbl,hbl2,k4,hr.2]
    ·simp [s100,hbl,hbl2,k4,a1,a2,a3,a4,hr.1,hr.2]
  ·rw [if_neg hr]
   have hr':f.kind=0∨f.row=(0,0):=by
    by_cases k0:f.kind=0
    ·exact .inl k0
    ·by_cases hz:f.row=(0,0)
     ·exact .inr hz
     ·exact absurd ⟨k0,hz⟩ hr
   cases A with
   | true=>
    rcases hp' with k4 | ⟨a1,a2,a3,a4⟩
    ·rcases hr' with k0 | hz
     ·omega
     ·simp [s100,hbl,hbl2,k4,hz,hA]
    ·by_cases k4:f.kind=4
     ·rcases hr' with k0 | hz
      ·omega
      ·simp [s100,hbl,hbl2,k4,hz,hA]
     ·rcases hr' with k0 | hz
      ·simp [s100,hbl,hbl2,k0,a1,a2,a3,a4,hA]
      ·by_cases k0:f.kind=0
       ·simp [s100,hbl,hbl2,k0,a1,a2,a3,a4,hA]
       ·simp [s100,hbl,hbl2,k0,k4,a1,a2,a3,a4,hz,hA]
   | false=>
    simp only [Bool.false_eq_true,if_false]
    by_cases k0:f.kind=0
    ·have:f.fn=0∧f.items=[]∧f.op=0∧vlZ f.bound=true:=by rcases hp' with k4 | h;omega;exact h
     obtain ⟨a1,a2,a3,a4⟩:=this
     simp [s100,hbl,hbl2,k0,a1,a2,a3,a4,hA,h92]
     cases R <;> by_cases hl:f.args=[] <;> simp [hl]
    ·have hz:f.row=(0,0):=by rcases hr' with h | h;exact absurd h k0;exact h
     by_cases k4:f.kind=4
     ·simp [s100,hbl,hbl2,k4,hz,hA,hI]
      by_cases l0:f.args=[]
      ·by_cases li:0<f.items.length
       ·cases B <;> cases C <;> cases F <;> simp [l0,li,hS,hF]
       ·simp [l0,li]
      ·simp [l0]
     ·have:f.fn=0∧f.items=[]∧f.op=0∧vlZ f.bound=true:=by rcases hp' with h | h;exact absurd h k4;exact h
      obtain ⟨a1,a2,a3,a4⟩:=this
      have two:∀ l:List α,(l.length:Int)+1+1+1≠2:=fun l=>by omega
      have one:∀ l:List α,(l.length:Int)+1+1≠1:=fun l=>by omega
      by_cases k1:f.kind=1
      ·match hl:f.args with
       | []=>simp [s100,hbl,hbl2,k1,a1,a2,a3,a4,hz,hl,hl ▸ hA,mon2]
       | [a]=>simp [s100,hbl,hbl2,k1,a1,a2,a3,a4,hz,hl,hl ▸ hA,mon2]
       | [a,b]=>
        have:=H.eq a b (h.args a (by simp [hl]))
        simp [-OX_b,s100,hbl,hbl2,k1,a1,a2,a3,a4,hz,hl,hl ▸ hA,mon2,this]
       | a::b::c::l=>simp [s100,hbl,hbl2,k1,a1,a2,a3,a4,hz,hl,hl ▸ hA,mon2,two]
      ·by_cases k2:f.kind=2
       ·match hl:f.args with
        | []=>simp [s100,hbl,hbl2,k2,a1,a2,a3,a4,hz,hl,hl ▸ hA,del1]
        | [a]=>
         simp [s100,hbl,hbl2,k2,a1,a2,a3,a4,hz,hl,hl ▸ hA,del1,H.isC,H.isU]
         cases P.isC a <;> cases P.isU a <;> simp
        | a::b::l=>simp [s100,hbl,hbl2,k2,a1,a2,a3,a4,hz,hl,hl ▸ hA,del1,one]
       ·by_cases k3:f.kind=3
        ·match hl:f.args with
         | []=>simp [s100,hbl,hbl2,k3,a1,a2,a3,a4,hz,hl,hl ▸ hA,abs1]
         | [a]=>
          have:=H.hasC a (h.args a (by simp [hl]))
          simp [s100,hbl,hbl2,k3,a1,a2,a3,a4,hz,hl,hl ▸ hA,abs1,this]
         | a::b::l=>simp [s100,hbl,hbl2,k3,a1,a2,a3,a4,hz,hl,hl ▸ hA,abs1,one]
        ·simp [s100,hbl,hbl2,k0,k1,k2,k3,k4,a1,a2,a3,a4,hz,hA]
def okPrev {β:Type} (c:β→β→Int) (p:Option β) (t:β):Bool:=match p with
 | none=>true
 | some g=>decide (c g t<0)
theorem vFs_cons (p:Option (Fc α)) (f:Fc α) (l:List (Fc α)):vFs P p (f::l)=((okExp f&&okPrev (cmpAt P.c) p f&&vAt P f)&&vFs P (some f) l):=by
 cases p <;> rfl
theorem vTs_cons (p:Option (Tm α)) (t:Tm α) (l:List (Tm α)):vTs P p (t::l)=((decide (1≤t.c)&&decide (t.c≤1152921504606846976)&&okPrev (cmpTl P.c) p t&&vFs P none t.fs)&&vTs P (some t) l):=by
 cases p <;> rfl
theorem vFs_nil (p:Option (Fc α)):vFs P p []=true:=by cases p <;> rfl
theorem vTs_nil (p:Option (Tm α)):vTs P p []=true:=by cases p <;> rfl
theorem okPrevS {β:Type} (c:β→β→Int) {l:List β} {k:Nat} {g:β} (h:l[k]? = some g) (t:β):okPrev c (pre l (k+1)) t=decide (c g t<0):=by rw [pre_succ h];rfl
set_option maxHeartbeats 1000000 in
theorem v60f (
       H:PrmOk e ok P) (t:Tm α) (hot:OkTm ok t) (a0 b2 a10 a11 a12 b42 b43 b13:D) (id:Nat) (S0:Store) (hid:sget S0 id=some (.box (eTm e t))) (Q:Ex→List D→Store→Prop)
  (hF:vFs P none t.fs=false→∀ S,Q .ret (mkf 85 [(0,.top),(2,.b false),(4,.top),(10,.top),(11,.top),(12,.top),(13,b13),(40,.top),(41,.top),(42,.top),(43,.top)]) S)
  (hT:vFs P none t.fs=true→∀ S b42 b43,Q (.exit 2) (mkf 85 [(0,a0),(2,b2),(4,.bx id 0),(10,a10),(11,a11),(12,a12),(13,b13),(40,eFcs e t.nl t.fs),(41,.i .i64 t.fs.length),(42,b42),(43,b43)]) S) :
  W (call dp) (.loop [] c60_0) (mkf 85 [(0,a0),(2,b2),(4,.bx id 0),(10,a10),(11,a11),(12,a12),(13,b13),(40,eFcs e t.nl t.fs),(41,.i .i64 t.fs.length),(42,.i .i64 0),(43,b43)]) S0 Q:=by
 have he:=H.he
 have hfl:=hot.len
 let J2:Nat→List D→Store→Prop:=fun q fr S=>∃ i b43,fr=mkf 85 [(0,a0),(2,b2),(4,.bx id 0),(10,a10),(11,a11),(12,a12),(13,b13),(40,eFcs e t.nl t.fs),(41,.i .i64 t.fs.length),(42,.i .i64 (i:Nat)),(43,b43)]∧i+q=t.fs.length∧vFs P none t.fs=vFs P (pre t.fs i) (t.fs.drop i)∧sget S id=some (.box (eTm e t))
 refine W_loop J2 ?_ t.fs.length _ _ ⟨0,_,rfl,by simp,by simp [pre_zero],hid⟩
 intro q2 fr S hJ;obtain ⟨i,b43,hfr,hi,hv2,hS⟩:=hJ;rw [hfr]
 rw [←wp_W,e60_0]
 simp [s60_0]
 split
 ·rename_i h2
  obtain ⟨f,hf⟩:=get_lt (l:=t.fs) (k:=i) (by omega)
  have hfm:=List.mem_of_getElem? hf
  have hof:=hot.fs f hfm
  have hneid:¬id=S.length:=by have:=sget_lt hS;omega
  rw [drop_get hf,vFs_cons] at hv2
  have h98:=v98 he f
  have h100:=v100 H f hof
  have w1:IntKind.i64.wrap ((i:Int)+1)=((i+1:Nat):Int):=wrapL (k:=i) h2 hot.len
  have bad:vFs P none t.fs=false→Q .ret (mkf 85 [(0,.top),(2,.b false),(4,.top),(10,.top),(11,.top),(12,.top),(13,b13),(40,.top),(41,.top),(42,.top),(43,.top)]) (.box (eFc e f)::S):=fun h=>hF h _
  have good:okExp f=true→okPrev (cmpAt P.c) (pre t.fs i) f=true→vAt P f=true→∀ b42,∃ m',m'<q2∧J2 m' (mkf 85 [(0,a0),(2,b2),(4,.bx id 0),(10,a10),(11,a11),(12,a12),(13,b13),(40,eFcs e t.nl t.fs),(41,.i .i64 t.fs.length),(42,.i .i64 ((i+1:Nat):Int)),(43,b42)]) (.box (eFc e f)::S):=by
   intro g1 g2 g3 b42
   refine ⟨q2-1,by omega,⟨i+1,_,rfl,by omega,?_,sget_push hS⟩⟩
   rw [hv2,g1,g2,g3,pre_succ hf];rfl
  have hpv:∀ k',i=k'+1→∃ g,t.fs[k']? = some g∧isoCall (call dp) 99 [.agg (eAt e g),.agg (eAt e f)]=some (.i .i64 (cmpAt P.c g f)):=by
   intro k' hk'
   obtain ⟨g,hg⟩:=get_lt (l:=t.fs) (k:=k') (by omega)
   exact ⟨g,hg,v99 he H.c g f (hot.fs g (List.mem_of_getElem? hg))⟩
  unfold okExp at hv2 good
  simp only [w1]
  generalize vAt P f=VV at *
  by_cases a1:f.exp<1
  ·have:decide (1≤f.exp)=false:=by simp;omega
   simp only [this,Bool.false_and] at hv2
   simp [iaD_eFcs e _ hf,a1]
   exact bad hv2
  ·have a1':decide (1≤f.exp)=true:=by simp;omega
   by_cases a2:idem f=true∧¬f.exp=1
   ·simp only [a2.1,a2.2,decide_false,Bool.not_true,Bool.or_false,Bool.and_false,Bool.false_and] at hv2
    simp [iaD_eFcs e _ hf,a1,h98,a2]
    exact bad hv2
   ·have a3:(decide (1≤f.exp)&&(!idem f || decide (f.exp=1)))=true:=by
     cases hq:idem f
     ·simp [a1']
     ·have:f.exp=1:=by
       by_cases hq2:f.exp=1
       ·exact hq2
       ·exact absurd ⟨hq,hq2⟩ a2
      simp [this]
    have a4:idem f=false∨(idem f=true∧f.exp=1):=by
     cases hq:idem f
     ·exact .inl rfl
     ·right
      refine ⟨rfl,?_⟩
      by_cases hq2:f.exp=1
      ·exact hq2
      ·exact absurd ⟨hq,hq2⟩ a2
    rw [a3,Bool.true_and] at hv2
    replace good:=good a3
    rcases Nat.eq_zero_or_pos i with i0 | i0
    ·have hp0:okPrev (cmpAt P.c) (pre t.fs i) f=true:=by rw [i0];rfl
     have i0':¬0<i:=by omega
     rw [hp0,Bool.true_and] at hv2
     replace good:=good hp0
     cases VV with
     | false=>
      rcases a4 with a4 | ⟨a4,a5⟩
      ·simp [iaD_eFcs e _ hf,a1,h98,a4,h100,i0']
       exact bad (by simpa using hv2)
      ·simp [iaD_eFcs e _ hf,a5,h98,a4,h100,i0']
       exact bad (by simpa using hv2)
     | true=>
      rcases a4 with a4 | ⟨a4,a5⟩
      ·simp [iaD_eFcs e _ hf,a1,h98,a4,h100,i0']
       exact good rfl _
      ·simp [iaD_eFcs e _ hf,a5,h98,a4,h100,i0']
       exact good rfl _
    ·obtain ⟨k',hk'⟩:∃ k',i=k'+1:=⟨i-1,by omega⟩
     obtain ⟨g,hg,hc⟩:=hpv k' hk'
     have hpp:okPrev (cmpAt P.c) (pre t.fs i) f=decide (cmpAt P.c g f<0):=by rw [hk'];exact okPrevS _ hg f
     rw [hpp] at hv2 good
     have w2:IntKind.i64.wrap ((i:Int)-1)=(k':Int):=by unfold Len63 at hfl;rw [wrap64 ⟨by omega,by omega⟩];omega
     have i0':0<i:=i0
     by_cases hcl:cmpAt P.c g f<0
     ·have hcl':¬0≤cmpAt P.c g f:=by omega
      simp only [hcl,decide_true,Bool.true_and] at hv2
      replace good:=good (by simpa using hcl)
      cases VV with
      | false=>
       rcases a4 with a4 | ⟨a4,a5⟩
       ·simp [iaD_eFcs e _ hf,iaD_eFcs e _ hg,a1,h98,a4,h100,i0',hneid,hS,w2,hc,hcl']
        exact bad (by simpa using hv2)
       ·simp [iaD_eFcs e _ hf,iaD_eFcs e _ hg,a5,h98,a4,h100,i0',hneid,hS,w2,hc,hcl']
        exact bad (by simpa using hv2)
      | true=>
       rcases a4 with a4 | ⟨a4,a5⟩
       ·simp [iaD_eFcs e _ hf,iaD_eFcs e _ hg,a1,h98,a4,h100,i0',hneid,hS,w2,hc,hcl']
        exact good rfl _
       ·simp [iaD_eFcs e _ hf,iaD_eFcs e _ hg,a5,h98,a4,h100,i0',hneid,hS,w2,hc,hcl']
        exact good rfl _
     ·have hcl':0≤cmpAt P.c g f:=by omega
      simp only [hcl,decide_false,Bool.false_and] at hv2
      rcases a4 with a4 | ⟨a4,a5⟩
      ·simp [iaD_eFcs e _ hf,iaD_eFcs e _ hg,a1,h98,a4,h100,i0',hneid,hS,w2,hc,hcl']
       exact bad hv2
      ·simp [iaD_eFcs e _ hf,iaD_eFcs e _ hg,a5,h98,a4,h100,i0',hneid,hS,w2,hc,hcl']
       exact bad hv2
 ·rename_i h2
  rw [List.drop_eq_nil_of_le (show t.fs.length≤i by omega),vFs_nil] at hv2
  exact hT hv2 _ _ _
set_option maxHeartbeats 1000000 in
theorem v60s (
       H:PrmOk e ok P) (hs:EndI 136 (eAn e) (OkAn ok)) (hd:EndI 135 (eAn e) (OkAn ok)) (x:An α) (hx:OkAn ok x) :
  isoCall (call dp) 60 [eAn e x]=some (.b (vAn P e x)):=by
 have he:=H.he
 have h96:=v96 he hs hd x hx
 have hlen:=hx.len
 apply i60 _ _ (by simp [noRefL,noRef_eAn he]) rfl
 unfold vAn
 simp [-OX_b,s60,h96]
 cases hfit:fitAn e x
 ·simp
 ·simp
  generalize hR:vTs P none x.ts=R
  let J:Nat→List D→Store→Prop:=fun q fr S=>∃ k b2 b4 b13 b40 b41 b42 b43,fr=mkf 85 [(0,eAn e x),(2,b2),(4,b4),(10,eAn e x),(11,.i .i64 x.ts.length),(12,.i .i64 (k:Nat)),(13,b13),(40,b40),(41,b41),(42,b42),(43,b43)]∧k+q=x.ts.length∧vTs P none x.ts=vTs P (pre x.ts k) (x.ts.drop k)
  refine W_loop J ?_ x.ts.length _ _ ⟨0,_,_,_,_,_,_,_,rfl,by simp,by simp [pre_zero]⟩
  intro q fr S hJ;obtain ⟨k,b2,b4,b13,b40,b41,b42,b43,hfr,hk,hv⟩:=hJ;rw [hfr]
  rw [←wp_W,e60_1]
  simp [s60_1]
  rw [hR] at hv
  split
  ·rename_i h
   obtain ⟨t,ht⟩:=get_lt (l:=x.ts) (k:=k) (by omega)
   have htm:=List.mem_of_getElem? ht
   have hot:=hx.ts t htm
   rw [drop_get ht,vTs_cons] at hv
   have w1:IntKind.i64.wrap ((k:Int)+1)=((k+1:Nat):Int):=wrapL (k:=k) h hx.len
   have inner:decide (1≤t.c)=true→decide (t.c≤1152921504606846976)=true→okPrev (cmpTl P.c) (pre x.ts k) t=true→∀ b2 b13 b43 S0 id,sget S0 id=some (.box (eTm e t)) →
     W (call dp) (.loop [] c60_0) (mkf 85 [(0,eAn e x),(2,b2),(4,.bx id 0),(10,eAn e x),(11,.i .i64 x.ts.length),(12,.i .i64 (k:Nat)),(13,b13),(40,eFcs e t.nl t.fs),(41,.i .i64 t.fs.length),(42,.i .i64 0),(43,b43)]) S0
      (Qblk 2 (Qblk 1 (QS (call dp) c60_r0 (Qseq (fun fr' S'=>∃ m',m'<q∧J m' fr' S') (Qblk 0 (QS (call dp) c60_r1 (FinK [.t 2] fun dd _=>stripT dd = .b R))))))):=by
    intro g1 g2 g3 b2 b13 b43 S0 id hid
    rw [g1,g2,g3] at hv
    refine v60f H t hot _ _ _ _ _ b43 _ _ id S0 hid _ ?_ ?_
    ·intro hvf S
     rw [hvf] at hv
     simp [hv]
    ·intro hvf S b42 b43
     rw [hvf] at hv
     simp [e60_r0,s60_r0]
     rw [w1]
     exact ⟨q-1,by omega,⟨k+1,_,_,_,_,_,_,_,rfl,by omega,by rw [hR,hv,pre_succ ht];rfl⟩⟩
   by_cases c1:t.c<1
   ·have:decide (1≤t.c)=false:=by simp;omega
    rw [this] at hv
    simp [iaD_eAn e _ ht,c1,hv]
   ·have c1':decide (1≤t.c)=true:=by simp;omega
    by_cases c2:1152921504606846976<t.c
    ·have:decide (t.c≤1152921504606846976)=false:=by simp;omega
     rw [this] at hv
     simp [iaD_eAn e _ ht,c1,c2,hv]
    ·have c2':decide (t.c≤1152921504606846976)=true:=by simp;omega
     rcases Nat.eq_zero_or_pos k with k0 | k0
     ·have hp0:okPrev (cmpTl P.c) (pre x.ts k) t=true:=by rw [k0];rfl
      have k0':¬0<k:=by omega
      simp [iaD_eAn e _ ht,c1,c2,k0']
      exact inner c1' c2' hp0 _ _ _ _ _ (by simp)
     ·obtain ⟨k',hk'⟩:∃ k',k=k'+1:=⟨k-1,by omega⟩
      obtain ⟨g,hg⟩:=get_lt (l:=x.ts) (k:=k') (by omega)
      have hc:=v97 he H.c g t (hx.ts g (List.mem_of_getElem? hg))
      have hpp:okPrev (cmpTl P.c) (pre x.ts k) t=decide (cmpTl P.c g t<0):=by rw [hk'];exact okPrevS _ hg t
      rw [hpp] at hv inner
      have w2:IntKind.i64.wrap ((k:Int)-1)=(k':Int):=by unfold Len63 at hlen;rw [wrap64 ⟨by omega,by omega⟩];omega
      by_cases hcl:cmpTl P.c g t<0
      ·have hcl':¬0≤cmpTl P.c g t:=by omega
       simp [iaD_eAn e _ ht,iaD_eAn e _ hg,c1,c2,k0,w2,hc,hcl']
       exact inner c1' c2' (by simpa using hcl) _ _ _ _ _ (by simp)
      ·have hcl':0≤cmpTl P.c g t:=by omega
       simp only [hcl,decide_false,Bool.and_false,Bool.false_and] at hv
       simp [iaD_eAn e _ ht,iaD_eAn e _ hg,c1,c2,k0,w2,hc,hcl',hv]
  ·rename_i h
   rw [List.drop_eq_nil_of_le (show x.ts.length≤k by omega),vTs_nil] at hv
   simp [e60_r1,s60_r1,hv]
end
end Go.Proofs.YtjlmeikcfdanmaaGreatDoor.DE.V

namespace Go.Proofs.YtjlmeikcfdanmaaGreatDoor.DE
open Go
variable (cf:CallF) (a0 a1 a2 a3 a4 a5 a6 a7 a8 a9 a10 a11 a12 a13 a14 a15 a16 a17 a18 a19 a20 a21 a22 a23 a24 a31 a32 a33 a34 a36 a37 a38 a39 a40 a42 a43 a44 a45 a46 a48 a57 a58 a61 a68 a131 a165:D) (S:Store) (Q:QT) (Post:PT)
def s67_r0 (cf:CallF) (a0 a2 a3 a4 a5 a13 a48:D) (S:Store) (Q:QT):Prop:=
 OX (binD .add .num a3 (.i .i64 1)) fun x1=>Q .normal (mkf 93 [(0,a0),(2,a2),(3,x1),(4,.top),(5,.top),(13,a13),(48,.top)]) S
theorem e67_r0:wp cf c67_r0 (mkf 93 [(0,a0),(2,a2),(3,a3),(4,a4),(5,a5),(13,a13),(48,a48)]) S Q=s67_r0 cf a0 a2 a3 a4 a5 a13 a48 S Q:=wpS_of (by kernel_rfl)
def s67_0 (cf:CallF) (a0 a2 a3 a4 a5 a13 a48:D) (S:Store) (Q:QT):Prop:=
 OX (faD 1 a4) fun x2=>OX (ldD S 1 false x2) fun x3=>OX (lenD false x3) fun x4=>OX (binD .lss .num a5 x4) fun x5=>WB x5
 (OX (faD 1 a4) fun x6=>OX (ldD S 1 false x6) fun x7=>OX (iaD 11 x7 a5) fun x8=>OX (ldD S 11 true x8) fun x9=>al [.i .i64 0,.i .i64 0,.i .i64 0,.sl 1 true [] .ro,.i .i64 0,.sl 4 true [] .ro,.i .i64 0,.i .i64 0,.i .i64 0,.s [],.i .i64 0] S fun x10 S11=>OX (stD S11 11 true x10 x9) fun S13=>OX (faD 10 x10) fun x14=>OX (ldD S13 1 false x14) fun x15=>OX (binD .lss .num x15 (.i .i64 1)) fun x16=>OX (gsel x16 false (faD 10 x10)) fun x17=>OX (gsel x16 false (ldD S13 1 false x17)) fun x18=>OX (gsel x16 false (binD .gtr .num x18 (.i .i64 1))) fun x19=>OX (gsel x16 false (some x19)) fun x20=>OX (gsel x20 true (faD 0 x10)) fun x21=>OX (gsel x20 true (faD 0 x21)) fun x22=>OX (gsel x20 true (ldD S13 1 false x22)) fun x23=>OX (gsel x20 true (binD .geq .num x23 (.i .i64 3))) fun x24=>OX (gsel x16 false (pickD x20 x24 (.b false))) fun x25=>OX (pickD x16 (.b true) x25) fun x26=>OX (gsel x26 false (faD 0 x10)) fun x27=>OX (gsel x26 false (ldD S13 10 true x27)) fun x28=>OX (gsel x26 false (isoCall cf 109 [x28])) fun x29=>OX (gsel x26 false (unD .not x29)) fun x30=>OX (pickD x26 (.b true) x30) fun x31=>OX (gsel x31 false (some a5)) fun x32=>OX (gsel x31 false (binD .gtr .num x32 (.i .i64 0))) fun x33=>OX (gsel x31 false (some x33)) fun x34=>OX (gsel x34 true (faD 1 a4)) fun x35=>OX (gsel x34 true (ldD S13 1 false x35)) fun x36=>OX (gsel x34 true (some a5)) fun x37=>OX (gsel x34 true (binD .sub .num x37 (.i .i64 1))) fun x38=>OX (gsel x34 true (iaD 11 x36 x38)) fun x39=>OX (gsel x34 true (faD 0 x39)) fun x40=>OX (gsel x34 true (ldD S13 10 true x40)) fun x41=>OX (gsel x34 true (faD 0 x10)) fun x42=>OX (gsel x34 true (ldD S13 10 true x42)) fun x43=>OX (gsel x34 true (isoCall cf 110 [x41,x43])) fun x44=>OX (gsel x34 true (binD .geq .num x44 (.i .i64 0))) fun x45=>OX (gsel x31 false (pickD x34 x45 (.b false))) fun x46=>OX (pickD x31 (.b true) x46) fun x47=>WB x47
 (Q .ret (mkf 93 [(0,.top),(2,(.b false)),(3,.top),(4,.top),(5,.top),(13,a13),(48,.top)]) S13)
 (OX (binD .add .num a5 (.i .i64 1)) fun x48=>Q .normal (mkf 93 [(0,a0),(2,a2),(3,a3),(4,a4),(5,x48),(13,a13),(48,.top)]) S13))
 (Q (.exit 2) (mkf 93 [(0,a0),(2,a2),(3,a3),(4,a4),(5,a5),(13,a13),(48,x5)]) S)
theorem e67_0:wp cf c67_0 (fkill (mkf 93 [(0,a0),(2,a2),(3,a3),(4,a4),(5,a5),(13,a13),(48,a48)]) []) S Q=s67_0 cf a0 a2 a3 a4 a5 a13 a48 S Q:=wpS_of (by kernel_rfl)
def s67_r1 (cf:CallF) (a0 a2 a3 a4 a5 a13 a48:D) (S:Store) (Q:QT):Prop:=
 Q .ret (mkf 93 [(0,.top),(2,(.b true)),(3,.top),(4,a4),(5,a5),(13,.top),(48,a48)]) S
theorem e67_r1:wp cf c67_r1 (mkf 93 [(0,a0),(2,a2),(3,a3),(4,a4),(5,a5),(13,a13),(48,a48)]) S Q=s67_r1 cf a0 a2 a3 a4 a5 a13 a48 S Q:=wpS_of (by kernel_rfl)
def s67_1 (cf:CallF) (a0 a2 a3 a4 a5 a13 a48:D) (S:Store) (Q:QT):Prop:=
 OX (lenD false a0) fun x49=>OX (binD .lss .num a3 x49) fun x50=>WB x50
 (OX (iaD 2 a0 a3) fun x51=>OX (ldD S 2 true x51) fun x52=>al [.i .i64 0,.sl 11 true [] .ro] S fun x53 S54=>OX (stD S54 2 true x53 x52) fun S56=>OX (faD 0 x53) fun x57=>OX (ldD S56 1 false x57) fun x58=>OX (binD .lss .num x58 (.i .i64 1)) fun x59=>OX (gsel x59 false (faD 0 x53)) fun x60=>OX (gsel x59 false (ldD S56 1 false x60)) fun x61=>OX (gsel x59 false (binD .gtr .num x61 (.i .i64 1152921504606846976))) fun x62=>OX (pickD x59 (.b true) x62) fun x63=>OX (gsel x63 false (some a3)) fun x64=>OX (gsel x63 false (binD .gtr .num x64 (.i .i64 0))) fun x65=>OX (gsel x63 false (some x65)) fun x66=>OX (gsel x66 true (some a0)) fun x67=>OX (gsel x66 true (some a3)) fun x68=>OX (gsel x66 true (binD .sub .num x68 (.i .i64 1))) fun x69=>OX (gsel x66 true (iaD 2 x67 x69)) fun x70=>OX (gsel x66 true (faD 1 x70)) fun x71=>OX (gsel x66 true (ldD S56 1 false x71)) fun x72=>OX (gsel x66 true (faD 1 x53)) fun x73=>OX (gsel x66 true (ldD S56 1 false x73)) fun x74=>OX (gsel x66 true (isoCall cf 108 [x72,x74])) fun x75=>OX (gsel x66 true (binD .geq .num x75 (.i .i64 0))) fun x76=>OX (gsel x63 false (pickD x66 x76 (.b false))) fun x77=>OX (pickD x63 (.b true) x77) fun x78=>WB x78
 (Q .ret (mkf 93 [(0,.top),(2,(.b false)),(3,.top),(4,.top),(5,a5),(13,.top),(48,a48)]) S56)
 (W cf (.loop [] c67_0) (mkf 93 [(0,a0),(2,a2),(3,a3),(4,x53),(5,(.i .i64 0)),(13,.top),(48,a48)]) S56 (Qblk 2 (Qblk 1 (QS cf c67_r0 Q)))))
 (Q (.exit 0) (mkf 93 [(0,a0),(2,a2),(3,a3),(4,a4),(5,a5),(13,x50),(48,a48)]) S)
theorem e67_1:wp cf c67_1 (fkill (mkf 93 [(0,a0),(2,a2),(3,a3),(4,a4),(5,a5),(13,a13),(48,a48)]) []) S Q=s67_1 cf a0 a2 a3 a4 a5 a13 a48 S Q:=wpS_of (by kernel_rfl)
def s67 (cf:CallF) (a0:D) (S:Store) (Post:PT):Prop:=
 OX (isoCall cf 107 [a0]) fun x79=>OX (unD .not x79) fun x80=>WB x80
 (Post (.b false) S)
 (W cf (.loop [] c67_1) (mkf 93 [(0,a0),(2,.top),(3,(.i .i64 0)),(4,.top),(5,.top),(13,.top),(48,.top)]) S (Qblk 0 (QS cf c67_r1 (FinK [.t 2] Post))))
theorem e67:wp cf c67 (frame0 d67 [a0]) S (FinK d67.res Post)=s67 cf a0 S Post:=wpS_of (by kernel_rfl)
theorem i67 (a0:D) (r:D) (ha:noRefL (stripL [a0])=true) (hr:noRef r=true) (h:s67 (call dp) (strip a0) [] fun d _=>stripT d=r):isoCall (call dp) 67 [a0]=some r:=iso_s (f:=d67) rfl ⟨rfl,by decide⟩ ha hr (by rw [←e67] at h;exact h)
def s107_r0 (cf:CallF) (a0 a2 a3 a4 a21 a38:D) (S:Store) (Q:QT):Prop:=
 OX (binD .add .num a3 (.i .i64 1)) fun x1=>Q .normal (mkf 65 [(0,a0),(2,a2),(3,x1),(4,.top),(21,a21),(38,.top)]) S
theorem e107_r0:wp cf c107_r0 (mkf 65 [(0,a0),(2,a2),(3,a3),(4,a4),(21,a21),(38,a38)]) S Q=s107_r0 cf a0 a2 a3 a4 a21 a38 S Q:=wpS_of (by kernel_rfl)
def s107_0 (cf:CallF) (a0 a2 a3 a4 a21 a38:D) (S:Store) (Q:QT):Prop:=
 OX (iaD 2 a0 a3) fun x2=>OX (faD 1 x2) fun x3=>OX (ldD S 1 false x3) fun x4=>OX (lenD false x4) fun x5=>OX (binD .lss .num a4 x5) fun x6=>WB x6
 (OX (iaD 2 a0 a3) fun x7=>OX (faD 1 x7) fun x8=>OX (ldD S 1 false x8) fun x9=>OX (iaD 11 x9 a4) fun x10=>OX (faD 10 x10) fun x11=>OX (ldD S 1 false x11) fun x12=>OX (binD .gtr .num x12 (.i .i64 64)) fun x13=>OX (gsel x13 false (some a0)) fun x14=>OX (gsel x13 false (some a3)) fun x15=>OX (gsel x13 false (iaD 2 x14 x15)) fun x16=>OX (gsel x13 false (faD 1 x16)) fun x17=>OX (gsel x13 false (ldD S 1 false x17)) fun x18=>OX (gsel x13 false (some a4)) fun x19=>OX (gsel x13 false (iaD 11 x18 x19)) fun x20=>OX (gsel x13 false (faD 0 x20)) fun x21=>OX (gsel x13 false (faD 5 x21)) fun x22=>OX (gsel x13 false (ldD S 1 false x22)) fun x23=>OX (gsel x13 false (lenD false x23)) fun x24=>OX (gsel x13 false (binD .gtr .num x24 (.i .i64 1024))) fun x25=>OX (pickD x13 (.b true) x25) fun x26=>WB x26
 (Q .ret (mkf 65 [(0,.top),(2,(.b false)),(3,.top),(4,.top),(21,a21),(38,.top)]) S)
 (OX (binD .add .num a4 (.i .i64 1)) fun x27=>Q .normal (mkf 65 [(0,a0),(2,a2),(3,a3),(4,x27),(21,a21),(38,.top)]) S))
 (Q (.exit 2) (mkf 65 [(0,a0),(2,a2),(3,a3),(4,a4),(21,a21),(38,x6)]) S)
theorem e107_0:wp cf c107_0 (fkill (mkf 65 [(0,a0),(2,a2),(3,a3),(4,a4),(21,a21),(38,a38)]) []) S Q=s107_0 cf a0 a2 a3 a4 a21 a38 S Q:=wpS_of (by kernel_rfl)
def s107_r1 (cf:CallF) (a0 a2 a3 a4 a21 a38:D) (S:Store) (Q:QT):Prop:=
 Q .ret (mkf 65 [(0,.top),(2,(.b true)),(3,.top),(4,a4),(21,.top),(38,a38)]) S
theorem e107_r1:wp cf c107_r1 (mkf 65 [(0,a0),(2,a2),(3,a3),(4,a4),(21,a21),(38,a38)]) S Q=s107_r1 cf a0 a2 a3 a4 a21 a38 S Q:=wpS_of (by kernel_rfl)
def s107_1 (cf:CallF) (a0 a2 a3 a4 a21 a38:D) (S:Store) (Q:QT):Prop:=
 OX (lenD false a0) fun x28=>OX (binD .lss .num a3 x28) fun x29=>WB x29
 (OX (iaD 2 a0 a3) fun x30=>OX (faD 1 x30) fun x31=>OX (ldD S 1 false x31) fun x32=>OX (lenD false x32) fun x33=>OX (binD .gtr .num x33 (.i .i64 64)) fun x34=>WB x34
 (Q .ret (mkf 65 [(0,.top),(2,(.b false)),(3,.top),(4,a4),(21,.top),(38,a38)]) S)
 (W cf (.loop [] c107_0) (mkf 65 [(0,a0),(2,a2),(3,a3),(4,(.i .i64 0)),(21,.top),(38,a38)]) S (Qblk 2 (Qblk 1 (QS cf c107_r0 Q)))))
 (Q (.exit 0) (mkf 65 [(0,a0),(2,a2),(3,a3),(4,a4),(21,x29),(38,a38)]) S)
theorem e107_1:wp cf c107_1 (fkill (mkf 65 [(0,a0),(2,a2),(3,a3),(4,a4),(21,a21),(38,a38)]) []) S Q=s107_1 cf a0 a2 a3 a4 a21 a38 S Q:=wpS_of (by kernel_rfl)
def s107 (cf:CallF) (a0:D) (S:Store) (Post:PT):Prop:=
 OX (lenD false a0) fun x35=>OX (binD .gtr .num x35 (.i .i64 512)) fun x36=>OX (gsel x36 false (some a0)) fun x37=>OX (gsel x36 false (isoCall cf 161 [x37])) fun x38=>OX (gsel x36 false (binD .gtr .num x38 (.i .i64 8))) fun x39=>OX (pickD x36 (.b true) x39) fun x40=>OX (gsel x40 false (some a0)) fun x41=>OX (gsel x40 false (isoCall cf 162 [x41])) fun x42=>OX (gsel x40 false (binD .gtr .num x42 (.i .i64 4096))) fun x43=>OX (pickD x40 (.b true) x43) fun x44=>WB x44
 (Post (.b false) S)
 (W cf (.loop [] c107_1) (mkf 65 [(0,a0),(2,.top),(3,(.i .i64 0)),(4,.top),(21,.top),(38,.top)]) S (Qblk 0 (QS cf c107_r1 (FinK [.t 2] Post))))
theorem e107:wp cf c107 (frame0 d107 [a0]) S (FinK d107.res Post)=s107 cf a0 S Post:=wpS_of (by kernel_rfl)
theorem i107 (a0:D) (r:D) (ha:noRefL (stripL [a0])=true) (hr:noRef r=true) (h:s107 (call dp) (strip a0) [] fun d _=>stripT d=r):isoCall (call dp) 107 [a0]=some r:=iso_s (f:=d107) rfl ⟨rfl,by decide⟩ ha hr (by rw [←e107] at h;exact h)
def s161_r0 (cf:CallF) (a0 a2 a3 a4 a5 a6 a7 a8 a9 a13 a23 a37 a42 a58:D) (S:Store) (Q:QT):Prop:=
 OX (mxD a3 a7) fun x1=>Q .normal (mkf 75 [(0,a0),(2,a2),(3,x1),(4,a4),(5,a5),(6,.top),(7,.top),(8,a8),(9,.top),(13,a13),(23,a23),(37,a37),(42,a42),(58,.top)]) S
theorem e161_r0:wp cf c161_r0 (mkf 75 [(0,a0),(2,a2),(3,a3),(4,a4),(5,a5),(6,a6),(7,a7),(8,a8),(9,a9),(13,a13),(23,a23),(37,a37),(42,a42),(58,a58)]) S Q=s161_r0 cf a0 a2 a3 a4 a5 a6 a7 a8 a9 a13 a23 a37 a42 a58 S Q:=wpS_of (by kernel_rfl)
def s161_0 (cf:CallF) (a0 a2 a3 a4 a5 a6 a7 a8 a9 a13 a23 a37 a42 a58:D) (S:Store) (Q:QT):Prop:=
 OX (faD 5 a6) fun x2=>OX (ldD S 1 false x2) fun x3=>OX (lenD false x3) fun x4=>OX (binD .lss .num a9 x4) fun x5=>WB x5
 (OX (faD 5 a6) fun x6=>OX (ldD S 1 false x6) fun x7=>OX (iaD 4 x7 a9) fun x8=>OX (faD 3 x8) fun x9=>OX (ldD S 1 false x9) fun x10=>OX (isoCall cf 161 [x10]) fun x11=>OX (binD .add .num (.i .i64 1) x11) fun x12=>OX (mxD a7 x12) fun x13=>OX (binD .add .num a9 (.i .i64 1)) fun x14=>Q .normal (mkf 75 [(0,a0),(2,a2),(3,a3),(4,a4),(5,a5),(6,a6),(7,x13),(8,a8),(9,x14),(13,a13),(23,a23),(37,a37),(42,a42),(58,.top)]) S)
 (Q (.exit 6) (mkf 75 [(0,a0),(2,a2),(3,a3),(4,a4),(5,a5),(6,a6),(7,a7),(8,a8),(9,a9),(13,a13),(23,a23),(37,a37),(42,a42),(58,x5)]) S)
theorem e161_0:wp cf c161_0 (fkill (mkf 75 [(0,a0),(2,a2),(3,a3),(4,a4),(5,a5),(6,a6),(7,a7),(8,a8),(9,a9),(13,a13),(23,a23),(37,a37),(42,a42),(58,a58)]) []) S Q=s161_0 cf a0 a2 a3 a4 a5 a6 a7 a8 a9 a13 a23 a37 a42 a58 S Q:=wpS_of (by kernel_rfl)
def s161_r1 (cf:CallF) (a0 a2 a3 a4 a5 a6 a7 a8 a9 a13 a23 a37 a42 a58:D) (S:Store) (Q:QT):Prop:=
 W cf (.loop [] c161_0) (mkf 75 [(0,a0),(2,a2),(3,a3),(4,a4),(5,a5),(6,a6),(7,a7),(8,.top),(9,(.i .i64 0)),(13,a13),(23,a23),(37,a37),(42,.top),(58,a58)]) S (Qblk 6 (QS cf c161_r0 Q))
theorem e161_r1:wp cf c161_r1 (mkf 75 [(0,a0),(2,a2),(3,a3),(4,a4),(5,a5),(6,a6),(7,a7),(8,a8),(9,a9),(13,a13),(23,a23),(37,a37),(42,a42),(58,a58)]) S Q=s161_r1 cf a0 a2 a3 a4 a5 a6 a7 a8 a9 a13 a23 a37 a42 a58 S Q:=wpS_of (by kernel_rfl)
def s161_1 (cf:CallF) (a0 a2 a3 a4 a5 a6 a7 a8 a9 a13 a23 a37 a42 a58:D) (S:Store) (Q:QT):Prop:=
 OX (faD 3 a6) fun x15=>OX (ldD S 1 false x15) fun x16=>OX (lenD false x16) fun x17=>OX (binD .lss .num a8 x17) fun x18=>WB x18
 (OX (faD 3 a6) fun x19=>OX (ldD S 1 false x19) fun x20=>OX (iaD 1 x20 a8) fun x21=>OX (ldD S 1 false x21) fun x22=>OX (isoCall cf 161 [x22]) fun x23=>OX (binD .add .num (.i .i64 1) x23) fun x24=>OX (mxD a7 x24) fun x25=>OX (binD .add .num a8 (.i .i64 1)) fun x26=>Q .normal (mkf 75 [(0,a0),(2,a2),(3,a3),(4,a4),(5,a5),(6,a6),(7,x25),(8,x26),(9,a9),(13,a13),(23,a23),(37,a37),(42,.top),(58,a58)]) S)
 (Q (.exit 4) (mkf 75 [(0,a0),(2,a2),(3,a3),(4,a4),(5,a5),(6,a6),(7,a7),(8,a8),(9,a9),(13,a13),(23,a23),(37,a37),(42,x18),(58,a58)]) S)
theorem e161_1:wp cf c161_1 (fkill (mkf 75 [(0,a0),(2,a2),(3,a3),(4,a4),(5,a5),(6,a6),(7,a7),(8,a8),(9,a9),(13,a13),(23,a23),(37,a37),(42,a42),(58,a58)]) []) S Q=s161_1 cf a0 a2 a3 a4 a5 a6 a7 a8 a9 a13 a23 a37 a42 a58 S Q:=wpS_of (by kernel_rfl)
def s161_r2 (cf:CallF) (a0 a2 a3 a4 a5 a6 a7 a8 a9 a13 a23 a37 a42 a58:D) (S:Store) (Q:QT):Prop:=
 OX (binD .add .num a5 (.i .i64 1)) fun x27=>Q .normal (mkf 75 [(0,a0),(2,a2),(3,a3),(4,a4),(5,x27),(6,.top),(7,a7),(8,a8),(9,a9),(13,a13),(23,a23),(37,.top),(42,a42),(58,a58)]) S
theorem e161_r2:wp cf c161_r2 (mkf 75 [(0,a0),(2,a2),(3,a3),(4,a4),(5,a5),(6,a6),(7,a7),(8,a8),(9,a9),(13,a13),(23,a23),(37,a37),(42,a42),(58,a58)]) S Q=s161_r2 cf a0 a2 a3 a4 a5 a6 a7 a8 a9 a13 a23 a37 a42 a58 S Q:=wpS_of (by kernel_rfl)
def s161_r3 (cf:CallF) (a0 a2 a3 a4 a5 a6 a7 a8 a9 a13 a23 a37 a42 a58:D) (S:Store) (Q:QT):Prop:=
 OX (binD .add .num a4 (.i .i64 1)) fun x28=>Q .normal (mkf 75 [(0,a0),(2,a2),(3,a3),(4,x28),(5,.top),(6,a6),(7,a7),(8,a8),(9,a9),(13,a13),(23,.top),(37,a37),(42,a42),(58,a58)]) S
theorem e161_r3:wp cf c161_r3 (mkf 75 [(0,a0),(2,a2),(3,a3),(4,a4),(5,a5),(6,a6),(7,a7),(8,a8),(9,a9),(13,a13),(23,a23),(37,a37),(42,a42),(58,a58)]) S Q=s161_r3 cf a0 a2 a3 a4 a5 a6 a7 a8 a9 a13 a23 a37 a42 a58 S Q:=wpS_of (by kernel_rfl)
def s161_2 (cf:CallF) (a0 a2 a3 a4 a5 a6 a7 a8 a9 a13 a23 a37 a42 a58:D) (S:Store) (Q:QT):Prop:=
 OX (iaD 2 a0 a4) fun x29=>OX (faD 1 x29) fun x30=>OX (ldD S 1 false x30) fun x31=>OX (lenD false x31) fun x32=>OX (binD .lss .num a5 x32) fun x33=>WB x33
 (OX (iaD 2 a0 a4) fun x34=>OX (faD 1 x34) fun x35=>OX (ldD S 1 false x35) fun x36=>OX (iaD 11 x36 a5) fun x37=>OX (faD 0 x37) fun x38=>OX (ldD S 10 true x38) fun x39=>al [.i .i64 0,.i .i64 0,.i .i64 0,.sl 1 true [] .ro,.i .i64 0,.sl 4 true [] .ro,.i .i64 0,.i .i64 0,.i .i64 0,.s []] S fun x40 S41=>OX (stD S41 10 true x40 x39) fun S43=>OX (faD 0 x40) fun x44=>OX (ldD S43 1 false x44) fun x45=>OX (binD .eql .num x45 (.i .i64 0)) fun x46=>WB x46
 (s161_r2 cf a0 a2 a3 a4 a5 x40 a7 a8 a9 a13 D.top x46 a42 a58 S43 Q)
 (W cf (.loop [] c161_1) (mkf 75 [(0,a0),(2,a2),(3,a3),(4,a4),(5,a5),(6,x40),(7,(.i .i64 1)),(8,(.i .i64 0)),(9,a9),(13,a13),(23,.top),(37,.top),(42,a42),(58,a58)]) S43 (Qblk 4 (QS cf c161_r1 (Qblk 3 (QS cf c161_r2 Q))))))
 (Q (.exit 2) (mkf 75 [(0,a0),(2,a2),(3,a3),(4,a4),(5,a5),(6,a6),(7,a7),(8,a8),(9,a9),(13,a13),(23,x33),(37,a37),(42,a42),(58,a58)]) S)
theorem e161_2:wp cf c161_2 (fkill (mkf 75 [(0,a0),(2,a2),(3,a3),(4,a4),(5,a5),(6,a6),(7,a7),(8,a8),(9,a9),(13,a13),(23,a23),(37,a37),(42,a42),(58,a58)]) []) S Q=s161_2 cf a0 a2 a3 a4 a5 a6 a7 a8 a9 a13 a23 a37 a42 a58 S Q:=wpS_of (by kernel_rfl)
def s161_r4 (cf:CallF) (a0 a2 a3 a4 a5 a6 a7 a8 a9 a13 a23 a37 a42 a58:D) (S:Store) (Q:QT):Prop:=
 Q .ret (mkf 75 [(0,.top),(2,a3),(3,.top),(4,.top),(5,a5),(6,a6),(7,a7),(8,a8),(9,a9),(13,.top),(23,a23),(37,a37),(42,a42),(58,a58)]) S
theorem e161_r4:wp cf c161_r4 (mkf 75 [(0,a0),(2,a2),(3,a3),(4,a4),(5,a5),(6,a6),(7,a7),(8,a8),(9,a9),(13,a13),(23,a23),(37,a37),(42,a42),(58,a58)]) S Q=s161_r4 cf a0 a2 a3 a4 a5 a6 a7 a8 a9 a13 a23 a37 a42 a58 S Q:=wpS_of (by kernel_rfl)
def s161_3 (cf:CallF) (a0 a2 a3 a4 a5 a6 a7 a8 a9 a13 a23 a37 a42 a58:D) (S:Store) (Q:QT):Prop:=
 OX (lenD false a0) fun x47=>OX (binD .lss .num a4 x47) fun x48=>WB x48
 (W cf (.loop [] c161_2) (mkf 75 [(0,a0),(2,a2),(3,a3),(4,a4),(5,(.i .i64 0)),(6,a6),(7,a7),(8,a8),(9,a9),(13,.top),(23,a23),(37,a37),(42,a42),(58,a58)]) S (Qblk 2 (Qblk 1 (QS cf c161_r3 Q))))
 (Q (.exit 0) (mkf 75 [(0,a0),(2,a2),(3,a3),(4,a4),(5,a5),(6,a6),(7,a7),(8,a8),(9,a9),(13,x48),(23,a23),(37,a37),(42,a42),(58,a58)]) S)
theorem e161_3:wp cf c161_3 (fkill (mkf 75 [(0,a0),(2,a2),(3,a3),(4,a4),(5,a5),(6,a6),(7,a7),(8,a8),(9,a9),(13,a13),(23,a23),(37,a37),(42,a42),(58,a58)]) []) S Q=s161_3 cf a0 a2 a3 a4 a5 a6 a7 a8 a9 a13 a23 a37 a42 a58 S Q:=wpS_of (by kernel_rfl)
def s161 (cf:CallF) (a0:D) (S:Store) (Post:PT):Prop:=
 W cf (.loop [] c161_3) (mkf 75 [(0,a0),(2,.top),(3,(.i .i64 0)),(4,(.i .i64 0)),(5,.top),(6,.top),(7,.top),(8,.top),(9,.top),(13,.top),(23,.top),(37,.top),(42,.top),(58,.top)]) S (Qblk 0 (QS cf c161_r4 (FinK [.t 2] Post)))
theorem e161:wp cf c161 (frame0 d161 [a0]) S (FinK d161.res Post)=s161 cf a0 S Post:=wpS_of (by kernel_rfl)
theorem i161 (a0:D) (r:D) (ha:noRefL (stripL [a0])=true) (hr:noRef r=true) (h:s161 (call dp) (strip a0) [] fun d _=>stripT d=r):isoCall (call dp) 161 [a0]=some r:=iso_s (f:=d161) rfl ⟨rfl,by decide⟩ ha hr (by rw [←e161] at h;exact h)
theorem j161 (a0:D) (Post:D→Prop) (ha:noRefL (stripL [a0])=true) (hr:∀ r,Post r→noRef r=true) (h:s161 (call dp) (strip a0) [] fun d _=>Post (stripT d)):∃ r,isoCall (call dp) 161 [a0]=some r∧Post r:=iso_x (f:=d161) rfl ⟨rfl,by decide⟩ ha hr (by rw [←e161] at h;exact h)
def s162_0 (cf:CallF) (a0 a2 a3 a4 a5 a6 a7 a8 a12 a24 a42 a57:D) (S:Store) (Q:QT):Prop:=
 OX (faD 5 a6) fun x1=>OX (ldD S 1 false x1) fun x2=>OX (lenD false x2) fun x3=>OX (binD .lss .num a8 x3) fun x4=>WB x4
 (OX (binD .add .num a3 (.i .i64 1)) fun x5=>OX (faD 5 a6) fun x6=>OX (ldD S 1 false x6) fun x7=>OX (iaD 4 x7 a8) fun x8=>OX (faD 3 x8) fun x9=>OX (ldD S 1 false x9) fun x10=>OX (isoCall cf 162 [x10]) fun x11=>OX (binD .add .num x5 x11) fun x12=>OX (binD .add .num a8 (.i .i64 1)) fun x13=>Q .normal (mkf 71 [(0,a0),(2,a2),(3,x12),(4,a4),(5,a5),(6,a6),(7,a7),(8,x13),(12,a12),(24,a24),(42,a42),(57,.top)]) S)
 (Q (.exit 6) (mkf 71 [(0,a0),(2,a2),(3,a3),(4,a4),(5,a5),(6,a6),(7,a7),(8,a8),(12,a12),(24,a24),(42,a42),(57,x4)]) S)
theorem e162_0:wp cf c162_0 (fkill (mkf 71 [(0,a0),(2,a2),(3,a3),(4,a4),(5,a5),(6,a6),(7,a7),(8,a8),(12,a12),(24,a24),(42,a42),(57,a57)]) []) S Q=s162_0 cf a0 a2 a3 a4 a5 a6 a7 a8 a12 a24 a42 a57 S Q:=wpS_of (by kernel_rfl)
def s162_r0 (cf:CallF) (a0 a2 a3 a4 a5 a6 a7 a8 a12 a24 a42 a57:D) (S:Store) (Q:QT):Prop:=
 W cf (.loop [] c162_0) (mkf 71 [(0,a0),(2,a2),(3,a3),(4,a4),(5,a5),(6,a6),(7,.top),(8,(.i .i64 0)),(12,a12),(24,a24),(42,.top),(57,a57)]) S (Qblk 6 Q)
theorem e162_r0:wp cf c162_r0 (mkf 71 [(0,a0),(2,a2),(3,a3),(4,a4),(5,a5),(6,a6),(7,a7),(8,a8),(12,a12),(24,a24),(42,a42),(57,a57)]) S Q=s162_r0 cf a0 a2 a3 a4 a5 a6 a7 a8 a12 a24 a42 a57 S Q:=wpS_of (by kernel_rfl)
def s162_r1 (cf:CallF) (a0 a2 a3 a4 a5 a6 a7 a8 a12 a24 a42 a57:D) (S:Store) (Q:QT):Prop:=
 OX (binD .add .num a5 (.i .i64 1)) fun x14=>Q .normal (mkf 71 [(0,a0),(2,a2),(3,a3),(4,a4),(5,x14),(6,.top),(7,a7),(8,.top),(12,a12),(24,a24),(42,a42),(57,.top)]) S
theorem e162_r1:wp cf c162_r1 (mkf 71 [(0,a0),(2,a2),(3,a3),(4,a4),(5,a5),(6,a6),(7,a7),(8,a8),(12,a12),(24,a24),(42,a42),(57,a57)]) S Q=s162_r1 cf a0 a2 a3 a4 a5 a6 a7 a8 a12 a24 a42 a57 S Q:=wpS_of (by kernel_rfl)
def s162_1 (cf:CallF) (a0 a2 a3 a4 a5 a6 a7 a8 a12 a24 a42 a57:D) (S:Store) (Q:QT):Prop:=
 OX (faD 3 a6) fun x15=>OX (ldD S 1 false x15) fun x16=>OX (lenD false x16) fun x17=>OX (binD .lss .num a7 x17) fun x18=>WB x18
 (OX (faD 3 a6) fun x19=>OX (ldD S 1 false x19) fun x20=>OX (iaD 1 x20 a7) fun x21=>OX (ldD S 1 false x21) fun x22=>OX (isoCall cf 162 [x22]) fun x23=>OX (binD .add .num a3 x23) fun x24=>OX (binD .add .num a7 (.i .i64 1)) fun x25=>Q .normal (mkf 71 [(0,a0),(2,a2),(3,x24),(4,a4),(5,a5),(6,a6),(7,x25),(8,a8),(12,a12),(24,a24),(42,.top),(57,a57)]) S)
 (Q (.exit 4) (mkf 71 [(0,a0),(2,a2),(3,a3),(4,a4),(5,a5),(6,a6),(7,a7),(8,a8),(12,a12),(24,a24),(42,x18),(57,a57)]) S)
theorem e162_1:wp cf c162_1 (fkill (mkf 71 [(0,a0),(2,a2),(3,a3),(4,a4),(5,a5),(6,a6),(7,a7),(8,a8),(12,a12),(24,a24),(42,a42),(57,a57)]) []) S Q=s162_1 cf a0 a2 a3 a4 a5 a6 a7 a8 a12 a24 a42 a57 S Q:=wpS_of (by kernel_rfl)
def s162_r2 (cf:CallF) (a0 a2 a3 a4 a5 a6 a7 a8 a12 a24 a42 a57:D) (S:Store) (Q:QT):Prop:=
 OX (binD .add .num a4 (.i .i64 1)) fun x26=>Q .normal (mkf 71 [(0,a0),(2,a2),(3,a3),(4,x26),(5,.top),(6,a6),(7,a7),(8,a8),(12,a12),(24,.top),(42,a42),(57,a57)]) S
theorem e162_r2:wp cf c162_r2 (mkf 71 [(0,a0),(2,a2),(3,a3),(4,a4),(5,a5),(6,a6),(7,a7),(8,a8),(12,a12),(24,a24),(42,a42),(57,a57)]) S Q=s162_r2 cf a0 a2 a3 a4 a5 a6 a7 a8 a12 a24 a42 a57 S Q:=wpS_of (by kernel_rfl)
def s162_2 (cf:CallF) (a0 a2 a3 a4 a5 a6 a7 a8 a12 a24 a42 a57:D) (S:Store) (Q:QT):Prop:=
 OX (iaD 2 a0 a4) fun x27=>OX (faD 1 x27) fun x28=>OX (ldD S 1 false x28) fun x29=>OX (lenD false x29) fun x30=>OX (binD .lss .num a5 x30) fun x31=>WB x31
 (OX (binD .add .num a3 (.i .i64 1)) fun x32=>OX (iaD 2 a0 a4) fun x33=>OX (faD 1 x33) fun x34=>OX (ldD S 1 false x34) fun x35=>OX (iaD 11 x35 a5) fun x36=>OX (faD 0 x36) fun x37=>OX (ldD S 10 true x37) fun x38=>al [.i .i64 0,.i .i64 0,.i .i64 0,.sl 1 true [] .ro,.i .i64 0,.sl 4 true [] .ro,.i .i64 0,.i .i64 0,.i .i64 0,.s []] S fun x39 S40=>OX (stD S40 10 true x39 x38) fun S42=>W cf (.loop [] c162_1) (mkf 71 [(0,a0),(2,a2),(3,x32),(4,a4),(5,a5),(6,x39),(7,(.i .i64 0)),(8,a8),(12,a12),(24,.top),(42,a42),(57,a57)]) S42 (Qblk 4 (QS cf c162_r0 (Qblk 3 (QS cf c162_r1 Q)))))
 (Q (.exit 2) (mkf 71 [(0,a0),(2,a2),(3,a3),(4,a4),(5,a5),(6,a6),(7,a7),(8,a8),(12,a12),(24,x31),(42,a42),(57,a57)]) S)
theorem e162_2:wp cf c162_2 (fkill (mkf 71 [(0,a0),(2,a2),(3,a3),(4,a4),(5,a5),(6,a6),(7,a7),(8,a8),(12,a12),(24,a24),(42,a42),(57,a57)]) []) S Q=s162_2 cf a0 a2 a3 a4 a5 a6 a7 a8 a12 a24 a42 a57 S Q:=wpS_of (by kernel_rfl)
def s162_r3 (cf:CallF) (a0 a2 a3 a4 a5 a6 a7 a8 a12 a24 a42 a57:D) (S:Store) (Q:QT):Prop:=
 Q .ret (mkf 71 [(0,.top),(2,a3),(3,.top),(4,.top),(5,a5),(6,a6),(7,a7),(8,a8),(12,.top),(24,a24),(42,a42),(57,a57)]) S
theorem e162_r3:wp cf c162_r3 (mkf 71 [(0,a0),(2,a2),(3,a3),(4,a4),(5,a5),(6,a6),(7,a7),(8,a8),(12,a12),(24,a24),(42,a42),(57,a57)]) S Q=s162_r3 cf a0 a2 a3 a4 a5 a6 a7 a8 a12 a24 a42 a57 S Q:=wpS_of (by kernel_rfl)
def s162_3 (cf:CallF) (a0 a2 a3 a4 a5 a6 a7 a8 a12 a24 a42 a57:D) (S:Store) (Q:QT):Prop:=
 OX (lenD false a0) fun x43=>OX (binD .lss .num a4 x43) fun x44=>WB x44
 (OX (binD .add .num a3 (.i .i64 1)) fun x45=>W cf (.loop [] c162_2) (mkf 71 [(0,a0),(2,a2),(3,x45),(4,a4),(5,(.i .i64 0)),(6,a6),(7,a7),(8,a8),(12,.top),(24,a24),(42,a42),(57,a57)]) S (Qblk 2 (Qblk 1 (QS cf c162_r2 Q))))
 (Q (.exit 0) (mkf 71 [(0,a0),(2,a2),(3,a3),(4,a4),(5,a5),(6,a6),(7,a7),(8,a8),(12,x44),(24,a24),(42,a42),(57,a57)]) S)
theorem e162_3:wp cf c162_3 (fkill (mkf 71 [(0,a0),(2,a2),(3,a3),(4,a4),(5,a5),(6,a6),(7,a7),(8,a8),(12,a12),(24,a24),(42,a42),(57,a57)]) []) S Q=s162_3 cf a0 a2 a3 a4 a5 a6 a7 a8 a12 a24 a42 a57 S Q:=wpS_of (by kernel_rfl)
def s162 (cf:CallF) (a0:D) (S:Store) (Post:PT):Prop:=
 W cf (.loop [] c162_3) (mkf 71 [(0,a0),(2,.top),(3,(.i .i64 0)),(4,(.i .i64 0)),(5,.top),(6,.top),(7,.top),(8,.top),(12,.top),(24,.top),(42,.top),(57,.top)]) S (Qblk 0 (QS cf c162_r3 (FinK [.t 2] Post)))
theorem e162:wp cf c162 (frame0 d162 [a0]) S (FinK d162.res Post)=s162 cf a0 S Post:=wpS_of (by kernel_rfl)
theorem i162 (a0:D) (r:D) (ha:noRefL (stripL [a0])=true) (hr:noRef r=true) (h:s162 (call dp) (strip a0) [] fun d _=>stripT d=r):isoCall (call dp) 162 [a0]=some r:=iso_s (f:=d162) rfl ⟨rfl,by decide⟩ ha hr (by rw [←e162] at h;exact h)
theorem j162 (a0:D) (Post:D→Prop) (ha:noRefL (stripL [a0])=true) (hr:∀ r,Post r→noRef r=true) (h:s162 (call dp) (strip a0) [] fun d _=>Post (stripT d)):∃ r,isoCall (call dp) 162 [a0]=some r∧Post r:=iso_x (f:=d162) rfl ⟨rfl,by decide⟩ ha hr (by rw [←e162] at h;exact h)
def s108_r0 (cf:CallF) (a0 a1 a4 a5 a17:D) (S:Store) (Q:QT):Prop:=
 OX (lenD false a0) fun x1=>OX (lenD false a1) fun x2=>OX (isoCall cf 163 [x1,x2]) fun x3=>Q .ret (mkf 53 [(0,.top),(1,.top),(4,x3),(5,.top),(17,.top)]) S
theorem e108_r0:wp cf c108_r0 (mkf 53 [(0,a0),(1,a1),(4,a4),(5,a5),(17,a17)]) S Q=s108_r0 cf a0 a1 a4 a5 a17 S Q:=wpS_of (by kernel_rfl)
def s108_0 (cf:CallF) (a0 a1 a4 a5 a17:D) (S:Store) (Q:QT):Prop:=
 OX (lenD false a0) fun x4=>OX (binD .lss .num a5 x4) fun x5=>OX (gsel x5 true (some a5)) fun x6=>OX (gsel x5 true (some a1)) fun x7=>OX (gsel x5 true (lenD false x7)) fun x8=>OX (gsel x5 true (binD .lss .num x6 x8)) fun x9=>OX (pickD x5 x9 (.b false)) fun x10=>WB x10
 (OX (iaD 11 a0 a5) fun x11=>OX (faD 0 x11) fun x12=>OX (ldD S 10 true x12) fun x13=>OX (iaD 11 a1 a5) fun x14=>OX (faD 0 x14) fun x15=>OX (ldD S 10 true x15) fun x16=>OX (isoCall cf 110 [x13,x16]) fun x17=>OX (binD .neq .num x17 (.i .i64 0)) fun x18=>WB x18
 (Q .ret (mkf 53 [(0,.top),(1,.top),(4,x17),(5,.top),(17,.top)]) S)
 (OX (iaD 11 a0 a5) fun x19=>OX (faD 10 x19) fun x20=>OX (ldD S 1 false x20) fun x21=>OX (iaD 11 a1 a5) fun x22=>OX (faD 10 x22) fun x23=>OX (ldD S 1 false x23) fun x24=>OX (isoCall cf 163 [x21,x24]) fun x25=>OX (binD .neq .num x25 (.i .i64 0)) fun x26=>WB x26
 (Q .ret (mkf 53 [(0,.top),(1,.top),(4,x25),(5,.top),(17,.top)]) S)
 (OX (binD .add .num a5 (.i .i64 1)) fun x27=>Q .normal (mkf 53 [(0,a0),(1,a1),(4,a4),(5,x27),(17,.top)]) S)))
 (Q (.exit 0) (mkf 53 [(0,a0),(1,a1),(4,a4),(5,a5),(17,x10)]) S)
theorem e108_0:wp cf c108_0 (fkill (mkf 53 [(0,a0),(1,a1),(4,a4),(5,a5),(17,a17)]) []) S Q=s108_0 cf a0 a1 a4 a5 a17 S Q:=wpS_of (by kernel_rfl)
def s108 (cf:CallF) (a0 a1:D) (S:Store) (Post:PT):Prop:=
 W cf (.loop [] c108_0) (mkf 53 [(0,a0),(1,a1),(4,.top),(5,(.i .i64 0)),(17,.top)]) S (Qblk 0 (QS cf c108_r0 (FinK [.t 4] Post)))
theorem e108:wp cf c108 (frame0 d108 [a0,a1]) S (FinK d108.res Post)=s108 cf a0 a1 S Post:=wpS_of (by kernel_rfl)
theorem i108 (a0 a1:D) (r:D) (ha:noRefL (stripL [a0,a1])=true) (hr:noRef r=true) (h:s108 (call dp) (strip a0) (strip a1) [] fun d _=>stripT d=r):isoCall (call dp) 108 [a0,a1]=some r:=iso_s (f:=d108) rfl ⟨rfl,by decide⟩ ha hr (by rw [←e108] at h;exact h)
def s109_r0 (cf:CallF) (a1 a2 a3 a4 a36 a131 a165:D) (S:Store) (Q:QT):Prop:=
 Q .ret (mkf 206 [(1,.top),(2,(.b true)),(3,a3),(4,.top),(36,a36),(131,a131),(165,.top)]) S
theorem e109_r0:wp cf c109_r0 (mkf 206 [(1,a1),(2,a2),(3,a3),(4,a4),(36,a36),(131,a131),(165,a165)]) S Q=s109_r0 cf a1 a2 a3 a4 a36 a131 a165 S Q:=wpS_of (by kernel_rfl)
def s109_r1 (cf:CallF) (a1 a2 a3 a4 a36 a131 a165:D) (S:Store) (Q:QT):Prop:=
 Q .ret (mkf 206 [(1,.top),(2,(.b false)),(3,a3),(4,a4),(36,a36),(131,.top),(165,a165)]) S
def s109_0 (cf:CallF) (a1 a2 a3 a4 a36 a131 a165:D) (S:Store) (Q:QT):Prop:=
 OX (faD 5 a1) fun x1=>OX (ldD S 1 false x1) fun x2=>OX (lenD false x2) fun x3=>OX (binD .lss .num a4 x3) fun x4=>WB x4
 (OX (faD 5 a1) fun x5=>OX (ldD S 1 false x5) fun x6=>OX (iaD 4 x6 a4) fun x7=>OX (faD 3 x7) fun x8=>OX (ldD S 1 false x8) fun x9=>OX (lenD false x9) fun x10=>OX (binD .eql .num x10 (.i .i64 0)) fun x11=>OX (gsel x11 false (faD 5 a1)) fun x12=>OX (gsel x11 false (ldD S 1 false x12)) fun x13=>OX (gsel x11 false (some a4)) fun x14=>OX (gsel x11 false (iaD 4 x13 x14)) fun x15=>OX (gsel x11 false (faD 3 x15)) fun x16=>OX (gsel x11 false (ldD S 1 false x16)) fun x17=>OX (gsel x11 false (isoCall cf 67 [x17])) fun x18=>OX (gsel x11 false (unD .not x18)) fun x19=>OX (pickD x11 (.b true) x19) fun x20=>OX (gsel x20 false (some a4)) fun x21=>OX (gsel x20 false (binD .gtr .num x21 (.i .i64 0))) fun x22=>OX (gsel x20 false (some x22)) fun x23=>OX (gsel x23 true (faD 5 a1)) fun x24=>OX (gsel x23 true (ldD S 1 false x24)) fun x25=>OX (gsel x23 true (some a4)) fun x26=>OX (gsel x23 true (binD .sub .num x26 (.i .i64 1))) fun x27=>OX (gsel x23 true (some a4)) fun x28=>OX (gsel x23 true (slcD 4 x25 (some x27) (some x28))) fun x29=>OX (gsel x23 true (faD 5 a1)) fun x30=>OX (gsel x23 true (ldD S 1 false x30)) fun x31=>OX (gsel x23 true (some a4)) fun x32=>OX (gsel x23 true (some a4)) fun x33=>OX (gsel x23 true (binD .add .num x33 (.i .i64 1))) fun x34=>OX (gsel x23 true (slcD 4 x31 (some x32) (some x34))) fun x35=>OX (gsel x23 true (isoCall cf 169 [x29,x35])) fun x36=>OX (gsel x23 true (binD .gtr .num x36 (.i .i64 0))) fun x37=>OX (gsel x20 false (pickD x23 x37 (.b false))) fun x38=>OX (pickD x20 (.b true) x38) fun x39=>WB x39
 (Q .ret (mkf 206 [(1,.top),(2,(.b false)),(3,a3),(4,.top),(36,a36),(131,a131),(165,.top)]) S)
 (OX (binD .add .num a4 (.i .i64 1)) fun x40=>Q .normal (mkf 206 [(1,a1),(2,a2),(3,a3),(4,x40),(36,a36),(131,a131),(165,.top)]) S))
 (Q (.exit 3) (mkf 206 [(1,a1),(2,a2),(3,a3),(4,a4),(36,a36),(131,a131),(165,x4)]) S)
theorem e109_0:wp cf c109_0 (fkill (mkf 206 [(1,a1),(2,a2),(3,a3),(4,a4),(36,a36),(131,a131),(165,a165)]) []) S Q=s109_0 cf a1 a2 a3 a4 a36 a131 a165 S Q:=wpS_of (by kernel_rfl)
def s109_r2 (cf:CallF) (a1 a2 a3 a4 a36 a131 a165:D) (S:Store) (Q:QT):Prop:=
 OX (faD 0 a1) fun x41=>OX (ldD S 1 false x41) fun x42=>OX (binD .eql .num x42 (.i .i64 1)) fun x43=>WB x43
 (OX (faD 3 a1) fun x44=>OX (ldD S 1 false x44) fun x45=>OX (lenD false x45) fun x46=>OX (binD .eql .num x46 (.i .i64 2)) fun x47=>OX (gsel x47 true (ldD S 10 true a1)) fun x48=>OX (gsel x47 true (isoCall cf 164 [x48])) fun x49=>OX (pickD x47 x49 (.b false)) fun x50=>OX (gsel x50 true (faD 3 a1)) fun x51=>OX (gsel x50 true (ldD S 1 false x51)) fun x52=>OX (gsel x50 true (iaD 1 x52 (.i .i64 0))) fun x53=>OX (gsel x50 true (ldD S 1 false x53)) fun x54=>OX (gsel x50 true (faD 3 a1)) fun x55=>OX (gsel x50 true (ldD S 1 false x55)) fun x56=>OX (gsel x50 true (iaD 1 x56 (.i .i64 1))) fun x57=>OX (gsel x50 true (ldD S 1 false x57)) fun x58=>OX (gsel x50 true (isoCall cf 165 [x54,x58])) fun x59=>OX (gsel x50 true (unD .not x59)) fun x60=>OX (pickD x50 x60 (.b false)) fun x61=>Q .ret (mkf 206 [(1,.top),(2,x61),(3,.top),(4,a4),(36,.top),(131,a131),(165,a165)]) S)
 (OX (binD .eql .num x42 (.i .i64 2)) fun x62=>WB x62
 (OX (faD 3 a1) fun x63=>OX (ldD S 1 false x63) fun x64=>OX (lenD false x64) fun x65=>OX (binD .eql .num x65 (.i .i64 1)) fun x66=>OX (gsel x66 true (ldD S 10 true a1)) fun x67=>OX (gsel x66 true (isoCall cf 164 [x67])) fun x68=>OX (pickD x66 x68 (.b false)) fun x69=>OX (gsel x69 true (faD 3 a1)) fun x70=>OX (gsel x69 true (ldD S 1 false x70)) fun x71=>OX (gsel x69 true (iaD 1 x71 (.i .i64 0))) fun x72=>OX (gsel x69 true (ldD S 1 false x72)) fun x73=>OX (gsel x69 true (lenD false x73)) fun x74=>OX (gsel x69 true (binD .eql .num x74 (.i .i64 1))) fun x75=>OX (gsel x69 true (some x75)) fun x76=>OX (gsel x76 true (faD 3 a1)) fun x77=>OX (gsel x76 true (ldD S 1 false x77)) fun x78=>OX (gsel x76 true (iaD 1 x78 (.i .i64 0))) fun x79=>OX (gsel x76 true (ldD S 1 false x79)) fun x80=>OX (gsel x76 true (isoCall cf 166 [x80])) fun x81=>OX (gsel x69 true (pickD x76 x81 (.b false))) fun x82=>OX (gsel x69 true (unD .not x82)) fun x83=>OX (pickD x69 x83 (.b false)) fun x84=>OX (gsel x84 true (faD 3 a1)) fun x85=>OX (gsel x84 true (ldD S 1 false x85)) fun x86=>OX (gsel x84 true (iaD 1 x86 (.i .i64 0))) fun x87=>OX (gsel x84 true (ldD S 1 false x87)) fun x88=>OX (gsel x84 true (isoCall cf 167 [x88])) fun x89=>OX (gsel x84 true (unD .not x89)) fun x90=>OX (pickD x84 x90 (.b false)) fun x91=>Q .ret (mkf 206 [(1,.top),(2,x91),(3,.top),(4,a4),(36,.top),(131,a131),(165,a165)]) S)
 (OX (binD .eql .num x42 (.i .i64 3)) fun x92=>WB x92
 (OX (faD 3 a1) fun x93=>OX (ldD S 1 false x93) fun x94=>OX (lenD false x94) fun x95=>OX (binD .eql .num x95 (.i .i64 1)) fun x96=>OX (gsel x96 true (ldD S 10 true a1)) fun x97=>OX (gsel x96 true (isoCall cf 164 [x97])) fun x98=>OX (pickD x96 x98 (.b false)) fun x99=>OX (gsel x99 true (faD 3 a1)) fun x100=>OX (gsel x99 true (ldD S 1 false x100)) fun x101=>OX (gsel x99 true (iaD 1 x101 (.i .i64 0))) fun x102=>OX (gsel x99 true (ldD S 1 false x102)) fun x103=>OX (gsel x99 true (isoCall cf 166 [x103])) fun x104=>OX (gsel x99 true (unD .not x104)) fun x105=>OX (pickD x99 x105 (.b false)) fun x106=>Q .ret (mkf 206 [(1,.top),(2,x106),(3,.top),(4,a4),(36,.top),(131,a131),(165,a165)]) S)
 (OX (binD .eql .num x42 (.i .i64 4)) fun x107=>WB x107
 (OX (faD 3 a1) fun x108=>OX (ldD S 1 false x108) fun x109=>OX (lenD false x109) fun x110=>OX (binD .neq .num x110 (.i .i64 0)) fun x111=>OX (gsel x111 false (faD 5 a1)) fun x112=>OX (gsel x111 false (ldD S 1 false x112)) fun x113=>OX (gsel x111 false (lenD false x113)) fun x114=>OX (gsel x111 false (binD .eql .num x114 (.i .i64 0))) fun x115=>OX (pickD x111 (.b true) x115) fun x116=>OX (gsel x116 false (faD 5 a1)) fun x117=>OX (gsel x116 false (ldD S 1 false x117)) fun x118=>OX (gsel x116 false (lenD false x118)) fun x119=>OX (gsel x116 false (binD .gtr .num x119 (.i .i64 1024))) fun x120=>OX (pickD x116 (.b true) x120) fun x121=>OX (gsel x121 false (faD 4 a1)) fun x122=>OX (gsel x121 false (ldD S 1 false x122)) fun x123=>OX (gsel x121 false (faD 5 a1)) fun x124=>OX (gsel x121 false (ldD S 1 false x124)) fun x125=>OX (gsel x121 false (faD 6 a1)) fun x126=>OX (gsel x121 false (ldD S 1 false x126)) fun x127=>OX (gsel x121 false (faD 7 a1)) fun x128=>OX (gsel x121 false (ldD S 3 true x128)) fun x129=>OX (gsel x121 false (isoCall cf 168 [x123,x125,x127,x129])) fun x130=>OX (gsel x121 false (unD .not x130)) fun x131=>OX (pickD x121 (.b true) x131) fun x132=>WB x132
 (Q .ret (mkf 206 [(1,.top),(2,(.b false)),(3,.top),(4,a4),(36,.top),(131,.top),(165,a165)]) S)
 (W cf (.loop [] c109_0) (mkf 206 [(1,a1),(2,a2),(3,.top),(4,(.i .i64 0)),(36,.top),(131,.top),(165,a165)]) S (Qblk 3 (QS cf c109_r0 (Qblk 2 (QS cf c109_r1 Q))))))
 (s109_r1 cf a1 a2 D.top a4 D.top x107 a165 S Q))))
theorem e109_r2:wp cf c109_r2 (mkf 206 [(1,a1),(2,a2),(3,a3),(4,a4),(36,a36),(131,a131),(165,a165)]) S Q=s109_r2 cf a1 a2 a3 a4 a36 a131 a165 S Q:=wpS_of (by kernel_rfl)
def s109_1 (cf:CallF) (a1 a2 a3 a4 a36 a131 a165:D) (S:Store) (Q:QT):Prop:=
 OX (faD 3 a1) fun x133=>OX (ldD S 1 false x133) fun x134=>OX (lenD false x134) fun x135=>OX (binD .lss .num a3 x135) fun x136=>WB x136
 (OX (faD 3 a1) fun x137=>OX (ldD S 1 false x137) fun x138=>OX (iaD 1 x138 a3) fun x139=>OX (ldD S 1 false x139) fun x140=>OX (lenD false x140) fun x141=>OX (binD .eql .num x141 (.i .i64 0)) fun x142=>OX (gsel x142 false (faD 3 a1)) fun x143=>OX (gsel x142 false (ldD S 1 false x143)) fun x144=>OX (gsel x142 false (some a3)) fun x145=>OX (gsel x142 false (iaD 1 x144 x145)) fun x146=>OX (gsel x142 false (ldD S 1 false x146)) fun x147=>OX (gsel x142 false (isoCall cf 67 [x147])) fun x148=>OX (gsel x142 false (unD .not x148)) fun x149=>OX (pickD x142 (.b true) x149) fun x150=>WB x150
 (Q .ret (mkf 206 [(1,.top),(2,(.b false)),(3,.top),(4,a4),(36,.top),(131,a131),(165,a165)]) S)
 (OX (binD .add .num a3 (.i .i64 1)) fun x151=>Q .normal (mkf 206 [(1,a1),(2,a2),(3,x151),(4,a4),(36,.top),(131,a131),(165,a165)]) S))
 (Q (.exit 0) (mkf 206 [(1,a1),(2,a2),(3,a3),(4,a4),(36,x136),(131,a131),(165,a165)]) S)
theorem e109_1:wp cf c109_1 (fkill (mkf 206 [(1,a1),(2,a2),(3,a3),(4,a4),(36,a36),(131,a131),(165,a165)]) []) S Q=s109_1 cf a1 a2 a3 a4 a36 a131 a165 S Q:=wpS_of (by kernel_rfl)
def s109 (cf:CallF) (a0:D) (S:Store) (Post:PT):Prop:=
 bxx 10 true a0 S fun x152 S153=>OX (faD 0 x152) fun x154=>OX (ldD S153 1 false x154) fun x155=>OX (binD .eql .num x155 (.i .i64 0)) fun x156=>WB x156
 (OX (faD 1 x152) fun x157=>OX (faD 0 x157) fun x158=>OX (ldD S153 1 false x158) fun x159=>OX (binD .geq .num x159 (.i .i64 1)) fun x160=>OX (gsel x160 true (faD 1 x152)) fun x161=>OX (gsel x160 true (faD 1 x161)) fun x162=>OX (gsel x160 true (ldD S153 1 false x162)) fun x163=>OX (gsel x160 true (binD .geq .num x163 (.i .i64 1))) fun x164=>OX (pickD x160 x164 (.b false)) fun x165=>OX (gsel x165 true (faD 3 x152)) fun x166=>OX (gsel x165 true (ldD S153 1 false x166)) fun x167=>OX (gsel x165 true (lenD false x167)) fun x168=>OX (gsel x165 true (binD .eql .num x168 (.i .i64 0))) fun x169=>OX (pickD x165 x169 (.b false)) fun x170=>OX (gsel x170 true (ldD S153 10 true x152)) fun x171=>OX (gsel x170 true (isoCall cf 164 [x171])) fun x172=>OX (pickD x170 x172 (.b false)) fun x173=>Post x173 S153)
 (OX (faD 1 x152) fun x174=>OX (ldD S153 2 true x174) fun x175=>OX (bldV [.i .i64 0,.i .i64 0] []) fun x176=>OX (binD .neq (.agg [.i,.i]) x175 (.agg x176)) fun x177=>WB x177
 (Post (.b false) S153)
 (W cf (.loop [] c109_1) (mkf 206 [(1,x152),(2,.top),(3,(.i .i64 0)),(4,.top),(36,.top),(131,.top),(165,.top)]) S153 (Qblk 0 (QS cf c109_r2 (FinK [.t 2] Post)))))
theorem e109:wp cf c109 (frame0 d109 [a0]) S (FinK d109.res Post)=s109 cf a0 S Post:=wpS_of (by kernel_rfl)
theorem i109 (a0:D) (r:D) (ha:noRefL (stripL [a0])=true) (hr:noRef r=true) (h:s109 (call dp) (strip a0) [] fun d _=>stripT d=r):isoCall (call dp) 109 [a0]=some r:=iso_s (f:=d109) rfl ⟨rfl,by decide⟩ ha hr (by rw [←e109] at h;exact h)
def s110_r0 (cf:CallF) (a2 a3 a4 a7 a40:D) (S:Store) (Q:QT):Prop:=
 OX (faD 3 a2) fun x1=>OX (ldD S 1 false x1) fun x2=>OX (lenD false x2) fun x3=>OX (faD 3 a3) fun x4=>OX (ldD S 1 false x4) fun x5=>OX (lenD false x5) fun x6=>OX (isoCall cf 163 [x3,x6]) fun x7=>OX (binD .neq .num x7 (.i .i64 0)) fun x8=>WB x8
 (Q .ret (mkf 96 [(2,.top),(3,.top),(4,x7),(7,.top),(40,.top)]) S)
 (OX (faD 4 a2) fun x9=>OX (ldD S 1 false x9) fun x10=>OX (faD 4 a3) fun x11=>OX (ldD S 1 false x11) fun x12=>OX (isoCall cf 163 [x10,x12]) fun x13=>OX (binD .neq .num x13 (.i .i64 0)) fun x14=>WB x14
 (Q .ret (mkf 96 [(2,.top),(3,.top),(4,x13),(7,.top),(40,.top)]) S)
 (OX (faD 5 a2) fun x15=>OX (ldD S 1 false x15) fun x16=>OX (faD 5 a3) fun x17=>OX (ldD S 1 false x17) fun x18=>OX (isoCall cf 169 [x16,x18]) fun x19=>OX (binD .neq .num x19 (.i .i64 0)) fun x20=>WB x20
 (Q .ret (mkf 96 [(2,.top),(3,.top),(4,x19),(7,.top),(40,.top)]) S)
 (OX (faD 6 a2) fun x21=>OX (ldD S 1 false x21) fun x22=>OX (faD 6 a3) fun x23=>OX (ldD S 1 false x23) fun x24=>OX (isoCall cf 163 [x22,x24]) fun x25=>OX (binD .neq .num x25 (.i .i64 0)) fun x26=>WB x26
 (Q .ret (mkf 96 [(2,.top),(3,.top),(4,x25),(7,.top),(40,.top)]) S)
 (OX (faD 7 a2) fun x27=>OX (ldD S 3 true x27) fun x28=>OX (faD 7 a3) fun x29=>OX (ldD S 3 true x29) fun x30=>OX (isoCall cf 172 [x28,x30]) fun x31=>Q .ret (mkf 96 [(2,.top),(3,.top),(4,x31),(7,.top),(40,.top)]) S))))
theorem e110_r0:wp cf c110_r0 (mkf 96 [(2,a2),(3,a3),(4,a4),(7,a7),(40,a40)]) S Q=s110_r0 cf a2 a3 a4 a7 a40 S Q:=wpS_of (by kernel_rfl)
def s110_0 (cf:CallF) (a2 a3 a4 a7 a40:D) (S:Store) (Q:QT):Prop:=
 OX (faD 3 a2) fun x32=>OX (ldD S 1 false x32) fun x33=>OX (lenD false x33) fun x34=>OX (binD .lss .num a7 x34) fun x35=>OX (gsel x35 true (some a7)) fun x36=>OX (gsel x35 true (faD 3 a3)) fun x37=>OX (gsel x35 true (ldD S 1 false x37)) fun x38=>OX (gsel x35 true (lenD false x38)) fun x39=>OX (gsel x35 true (binD .lss .num x36 x39)) fun x40=>OX (pickD x35 x40 (.b false)) fun x41=>WB x41
 (OX (faD 3 a2) fun x42=>OX (ldD S 1 false x42) fun x43=>OX (iaD 1 x43 a7) fun x44=>OX (ldD S 1 false x44) fun x45=>OX (faD 3 a3) fun x46=>OX (ldD S 1 false x46) fun x47=>OX (iaD 1 x47 a7) fun x48=>OX (ldD S 1 false x48) fun x49=>OX (isoCall cf 171 [x45,x49]) fun x50=>OX (binD .neq .num x50 (.i .i64 0)) fun x51=>WB x51
 (Q .ret (mkf 96 [(2,.top),(3,.top),(4,x50),(7,.top),(40,.top)]) S)
 (OX (binD .add .num a7 (.i .i64 1)) fun x52=>Q .normal (mkf 96 [(2,a2),(3,a3),(4,a4),(7,x52),(40,.top)]) S))
 (Q (.exit 0) (mkf 96 [(2,a2),(3,a3),(4,a4),(7,a7),(40,x41)]) S)
theorem e110_0:wp cf c110_0 (fkill (mkf 96 [(2,a2),(3,a3),(4,a4),(7,a7),(40,a40)]) []) S Q=s110_0 cf a2 a3 a4 a7 a40 S Q:=wpS_of (by kernel_rfl)
def s110 (cf:CallF) (a0 a1:D) (S:Store) (Post:PT):Prop:=
 bxx 10 true a0 S fun x53 S54=>bxx 10 true a1 S54 fun x55 S56=>OX (faD 0 x53) fun x57=>OX (ldD S56 1 false x57) fun x58=>OX (faD 0 x55) fun x59=>OX (ldD S56 1 false x59) fun x60=>OX (isoCall cf 163 [x58,x60]) fun x61=>OX (binD .neq .num x61 (.i .i64 0)) fun x62=>WB x62
 (Post x61 S56)
 (OX (faD 1 x53) fun x63=>OX (ldD S56 2 true x63) fun x64=>OX (faD 1 x55) fun x65=>OX (ldD S56 2 true x65) fun x66=>OX (isoCall cf 170 [x64,x66]) fun x67=>OX (binD .neq .num x67 (.i .i64 0)) fun x68=>WB x68
 (Post x67 S56)
 (W cf (.loop [] c110_0) (mkf 96 [(2,x53),(3,x55),(4,.top),(7,(.i .i64 0)),(40,.top)]) S56 (Qblk 0 (QS cf c110_r0 (FinK [.t 4] Post)))))
theorem e110:wp cf c110 (frame0 d110 [a0,a1]) S (FinK d110.res Post)=s110 cf a0 a1 S Post:=wpS_of (by kernel_rfl)
theorem i110 (a0 a1:D) (r:D) (ha:noRefL (stripL [a0,a1])=true) (hr:noRef r=true) (h:s110 (call dp) (strip a0) (strip a1) [] fun d _=>stripT d=r):isoCall (call dp) 110 [a0,a1]=some r:=iso_s (f:=d110) rfl ⟨rfl,by decide⟩ ha hr (by rw [←e110] at h;exact h)
def s163 (cf:CallF) (a0 a1:D) (S:Store) (Post:PT):Prop:=
 OX (binD .lss .num a0 a1) fun x1=>WB x1
 (Post (.i .i64 (-1)) S)
 (OX (binD .gtr .num a0 a1) fun x2=>WB x2
 (Post (.i .i64 1) S)
 (Post (.i .i64 0) S))
theorem e163:wp cf c163 (frame0 d163 [a0,a1]) S (FinK d163.res Post)=s163 cf a0 a1 S Post:=wpS_of (by kernel_rfl)
theorem i163 (a0 a1:D) (r:D) (ha:noRefL (stripL [a0,a1])=true) (hr:noRef r=true) (h:s163 (call dp) (strip a0) (strip a1) [] fun d _=>stripT d=r):isoCall (call dp) 163 [a0,a1]=some r:=iso_s (f:=d163) rfl ⟨rfl,by decide⟩ ha hr (by rw [←e163] at h;exact h)
def s164 (cf:CallF) (a0:D) (S:Store) (Post:PT):Prop:=
 bxx 10 true a0 S fun x1 S2=>OX (faD 4 x1) fun x3=>OX (ldD S2 1 false x3) fun x4=>OX (binD .eql .num x4 (.i .i64 0)) fun x5=>OX (gsel x5 true (faD 5 x1)) fun x6=>OX (gsel x5 true (ldD S2 1 false x6)) fun x7=>OX (gsel x5 true (lenD false x7)) fun x8=>OX (gsel x5 true (binD .eql .num x8 (.i .i64 0))) fun x9=>OX (pickD x5 x9 (.b false)) fun x10=>OX (gsel x10 true (faD 6 x1)) fun x11=>OX (gsel x10 true (ldD S2 1 false x11)) fun x12=>OX (gsel x10 true (binD .eql .num x12 (.i .i64 0))) fun x13=>OX (pickD x10 x13 (.b false)) fun x14=>OX (gsel x14 true (faD 7 x1)) fun x15=>OX (gsel x14 true (ldD S2 3 true x15)) fun x16=>OX (gsel x14 true ((bldV [.i .i64 0,.i .i64 0,.s []] []).map .agg)) fun x17=>OX (gsel x14 true (binD .eql (.agg [.i,.i,.s]) x16 x17)) fun x18=>OX (pickD x14 x18 (.b false)) fun x19=>Post x19 S2
theorem e164:wp cf c164 (frame0 d164 [a0]) S (FinK d164.res Post)=s164 cf a0 S Post:=wpS_of (by kernel_rfl)
theorem i164 (a0:D) (r:D) (ha:noRefL (stripL [a0])=true) (hr:noRef r=true) (h:s164 (call dp) (strip a0) [] fun d _=>stripT d=r):isoCall (call dp) 164 [a0]=some r:=iso_s (f:=d164) rfl ⟨rfl,by decide⟩ ha hr (by rw [←e164] at h;exact h)
def s165 (cf:CallF) (a0 a1:D) (S:Store) (Post:PT):Prop:=
 OX (isoCall cf 171 [a0,a1]) fun x1=>OX (binD .eql .num x1 (.i .i64 0)) fun x2=>Post x2 S
theorem e165:wp cf c165 (frame0 d165 [a0,a1]) S (FinK d165.res Post)=s165 cf a0 a1 S Post:=wpS_of (by kernel_rfl)
theorem i165 (a0 a1:D) (r:D) (ha:noRefL (stripL [a0,a1])=true) (hr:noRef r=true) (h:s165 (call dp) (strip a0) (strip a1) [] fun d _=>stripT d=r):isoCall (call dp) 165 [a0,a1]=some r:=iso_s (f:=d165) rfl ⟨rfl,by decide⟩ ha hr (by rw [←e165] at h;exact h)
def s166_r0 (cf:CallF) (a0 a2 a3 a7:D) (S:Store) (Q:QT):Prop:=
 Q .ret (mkf 17 [(0,.top),(2,(.b false)),(3,.top),(7,.top)]) S
theorem e166_r0:wp cf c166_r0 (mkf 17 [(0,a0),(2,a2),(3,a3),(7,a7)]) S Q=s166_r0 cf a0 a2 a3 a7 S Q:=wpS_of (by kernel_rfl)
def s166_0 (cf:CallF) (a0 a2 a3 a7:D) (S:Store) (Q:QT):Prop:=
 OX (lenD false a0) fun x1=>OX (binD .lss .num a3 x1) fun x2=>WB x2
 (OX (iaD 2 a0 a3) fun x3=>OX (faD 1 x3) fun x4=>OX (ldD S 1 false x4) fun x5=>OX (lenD false x5) fun x6=>OX (binD .eql .num x6 (.i .i64 0)) fun x7=>WB x7
 (Q .ret (mkf 17 [(0,.top),(2,(.b true)),(3,.top),(7,.top)]) S)
 (OX (binD .add .num a3 (.i .i64 1)) fun x8=>Q .normal (mkf 17 [(0,a0),(2,a2),(3,x8),(7,.top)]) S))
 (Q (.exit 0) (mkf 17 [(0,a0),(2,a2),(3,a3),(7,x2)]) S)
theorem e166_0:wp cf c166_0 (fkill (mkf 17 [(0,a0),(2,a2),(3,a3),(7,a7)]) []) S Q=s166_0 cf a0 a2 a3 a7 S Q:=wpS_of (by kernel_rfl)
def s166 (cf:CallF) (a0:D) (S:Store) (Post:PT):Prop:=
 W cf (.loop [] c166_0) (mkf 17 [(0,a0),(2,.top),(3,(.i .i64 0)),(7,.top)]) S (Qblk 0 (QS cf c166_r0 (FinK [.t 2] Post)))
theorem e166:wp cf c166 (frame0 d166 [a0]) S (FinK d166.res Post)=s166 cf a0 S Post:=wpS_of (by kernel_rfl)
theorem i166 (a0:D) (r:D) (ha:noRefL (stripL [a0])=true) (hr:noRef r=true) (h:s166 (call dp) (strip a0) [] fun d _=>stripT d=r):isoCall (call dp) 166 [a0]=some r:=iso_s (f:=d166) rfl ⟨rfl,by decide⟩ ha hr (by rw [←e166] at h;exact h)
def s167 (cf:CallF) (a0:D) (S:Store) (Post:PT):Prop:=
 OX (lenD false a0) fun x1=>OX (binD .eql .num x1 (.i .i64 1)) fun x2=>OX (gsel x2 true (some a0)) fun x3=>OX (gsel x2 true (iaD 2 x3 (.i .i64 0))) fun x4=>OX (gsel x2 true (faD 0 x4)) fun x5=>OX (gsel x2 true (ldD S 1 false x5)) fun x6=>OX (gsel x2 true (binD .eql .num x6 (.i .i64 1))) fun x7=>OX (pickD x2 x7 (.b false)) fun x8=>OX (gsel x8 true (some a0)) fun x9=>OX (gsel x8 true (iaD 2 x9 (.i .i64 0))) fun x10=>OX (gsel x8 true (faD 1 x10)) fun x11=>OX (gsel x8 true (ldD S 1 false x11)) fun x12=>OX (gsel x8 true (lenD false x12)) fun x13=>OX (gsel x8 true (binD .eql .num x13 (.i .i64 1))) fun x14=>OX (pickD x8 x14 (.b false)) fun x15=>OX (gsel x15 true (some a0)) fun x16=>OX (gsel x15 true (iaD 2 x16 (.i .i64 0))) fun x17=>OX (gsel x15 true (faD 1 x17)) fun x18=>OX (gsel x15 true (ldD S 1 false x18)) fun x19=>OX (gsel x15 true (iaD 11 x19 (.i .i64 0))) fun x20=>OX (gsel x15 true (faD 0 x20)) fun x21=>OX (gsel x15 true (faD 0 x21)) fun x22=>OX (gsel x15 true (ldD S 1 false x22)) fun x23=>OX (gsel x15 true (binD .geq .num x23 (.i .i64 2))) fun x24=>OX (pickD x15 x24 (.b false)) fun x25=>OX (gsel x25 true (some a0)) fun x26=>OX (gsel x25 true (iaD 2 x26 (.i .i64 0))) fun x27=>OX (gsel x25 true (faD 1 x27)) fun x28=>OX (gsel x25 true (ldD S 1 false x28)) fun x29=>OX (gsel x25 true (iaD 11 x29 (.i .i64 0))) fun x30=>OX (gsel x25 true (faD 10 x30)) fun x31=>OX (gsel x25 true (ldD S 1 false x31)) fun x32=>OX (gsel x25 true (binD .eql .num x32 (.i .i64 1))) fun x33=>OX (pickD x25 x33 (.b false)) fun x34=>Post x34 S
theorem e167:wp cf c167 (frame0 d167 [a0]) S (FinK d167.res Post)=s167 cf a0 S Post:=wpS_of (by kernel_rfl)
theorem i167 (a0:D) (r:D) (ha:noRefL (stripL [a0])=true) (hr:noRef r=true) (h:s167 (call dp) (strip a0) [] fun d _=>stripT d=r):isoCall (call dp) 167 [a0]=some r:=iso_s (f:=d167) rfl ⟨rfl,by decide⟩ ha hr (by rw [←e167] at h;exact h)
def s168_r0 (cf:CallF) (a0 a1 a7 a8 a9 a42:D) (S:Store) (Q:QT):Prop:=
 Q .ret (mkf 69 [(0,.top),(1,.top),(7,.top),(8,(.b true)),(9,.top),(42,.top)]) S
theorem e168_r0:wp cf c168_r0 (mkf 69 [(0,a0),(1,a1),(7,a7),(8,a8),(9,a9),(42,a42)]) S Q=s168_r0 cf a0 a1 a7 a8 a9 a42 S Q:=wpS_of (by kernel_rfl)
def s168_0 (cf:CallF) (a0 a1 a7 a8 a9 a42:D) (S:Store) (Q:QT):Prop:=
 OX (lenD false a1) fun x1=>OX (binD .lss .num a9 x1) fun x2=>WB x2
 (OX (iaD 4 a1 a9) fun x3=>OX (faD 0 x3) fun x4=>OX (ldD S 3 true x4) fun x5=>al [.i .i64 0,.i .i64 0,.s []] S fun x6 S7=>OX (stD S7 3 true x6 x5) fun S9=>OX (ldD S9 3 true x6) fun x10=>OX (isoCall cf 196 [x10]) fun x11=>OX (unD .not x11) fun x12=>OX (gsel x12 false (faD 0 x6)) fun x13=>OX (gsel x12 false (ldD S9 1 false x13)) fun x14=>OX (gsel x12 false (faD 0 a7)) fun x15=>OX (gsel x12 false (ldD S9 1 false x15)) fun x16=>OX (gsel x12 false (binD .neq .num x14 x16)) fun x17=>OX (pickD x12 (.b true) x17) fun x18=>OX (gsel x18 false (some a0)) fun x19=>OX (gsel x18 false (binD .eql .num x19 (.i .i64 0))) fun x20=>OX (gsel x18 false (some x20)) fun x21=>OX (gsel x21 true (faD 1 x6)) fun x22=>OX (gsel x21 true (ldD S9 1 false x22)) fun x23=>OX (gsel x21 true (binD .neq .num x23 (.i .i64 1))) fun x24=>OX (gsel x18 false (pickD x21 x24 (.b false))) fun x25=>OX (pickD x18 (.b true) x25) fun x26=>WB x26
 (Q .ret (mkf 69 [(0,.top),(1,.top),(7,.top),(8,(.b false)),(9,.top),(42,.top)]) S9)
 (OX (binD .add .num a9 (.i .i64 1)) fun x27=>Q .normal (mkf 69 [(0,a0),(1,a1),(7,a7),(8,a8),(9,x27),(42,.top)]) S9))
 (Q (.exit 0) (mkf 69 [(0,a0),(1,a1),(7,a7),(8,a8),(9,a9),(42,x2)]) S)
theorem e168_0:wp cf c168_0 (fkill (mkf 69 [(0,a0),(1,a1),(7,a7),(8,a8),(9,a9),(42,a42)]) []) S Q=s168_0 cf a0 a1 a7 a8 a9 a42 S Q:=wpS_of (by kernel_rfl)
def s168 (cf:CallF) (a0 a1 a2 a3:D) (S:Store) (Post:PT):Prop:=
 bxx 3 true a3 S fun x28 S29=>OX (binD .lss .num a0 (.i .i64 0)) fun x30=>OX (gsel x30 false (some a0)) fun x31=>OX (gsel x30 false (binD .gtr .num x31 (.i .i64 3))) fun x32=>OX (pickD x30 (.b true) x32) fun x33=>OX (gsel x33 false (some a2)) fun x34=>OX (gsel x33 false (binD .lss .num x34 (.i .i64 5))) fun x35=>OX (pickD x33 (.b true) x35) fun x36=>OX (gsel x36 false (some a2)) fun x37=>OX (gsel x36 false (binD .gtr .num x37 (.i .i64 10))) fun x38=>OX (pickD x36 (.b true) x38) fun x39=>OX (gsel x39 false (ldD S29 3 true x28)) fun x40=>OX (gsel x39 false (isoCall cf 196 [x40])) fun x41=>OX (gsel x39 false (unD .not x41)) fun x42=>OX (pickD x39 (.b true) x42) fun x43=>OX (gsel x43 false (some a0)) fun x44=>OX (gsel x43 false (binD .leq .num x44 (.i .i64 1))) fun x45=>OX (gsel x43 false (some x45)) fun x46=>OX (gsel x46 true (faD 0 x28)) fun x47=>OX (gsel x46 true (ldD S29 1 false x47)) fun x48=>OX (gsel x46 true (binD .neq .num x48 (.i .i64 0))) fun x49=>OX (gsel x43 false (pickD x46 x49 (.b false))) fun x50=>OX (pickD x43 (.b true) x50) fun x51=>WB x51
 (Post (.b false) S29)
 (W cf (.loop [] c168_0) (mkf 69 [(0,a0),(1,a1),(7,x28),(8,.top),(9,(.i .i64 0)),(42,.top)]) S29 (Qblk 0 (QS cf c168_r0 (FinK [.t 8] Post))))
theorem e168:wp cf c168 (frame0 d168 [a0,a1,a2,a3]) S (FinK d168.res Post)=s168 cf a0 a1 a2 a3 S Post:=wpS_of (by kernel_rfl)
theorem i168 (a0 a1 a2 a3:D) (r:D) (ha:noRefL (stripL [a0,a1,a2,a3])=true) (hr:noRef r=true) (h:s168 (call dp) (strip a0) (strip a1) (strip a2) (strip a3) [] fun d _=>stripT d=r):isoCall (call dp) 168 [a0,a1,a2,a3]=some r:=iso_s (f:=d168) rfl ⟨rfl,by decide⟩ ha hr (by rw [←e168] at h;exact h)
def s169_r0 (cf:CallF) (a0 a1 a4 a5 a17:D) (S:Store) (Q:QT):Prop:=
 OX (lenD false a0) fun x1=>OX (lenD false a1) fun x2=>OX (isoCall cf 163 [x1,x2]) fun x3=>Q .ret (mkf 53 [(0,.top),(1,.top),(4,x3),(5,.top),(17,.top)]) S
theorem e169_r0:wp cf c169_r0 (mkf 53 [(0,a0),(1,a1),(4,a4),(5,a5),(17,a17)]) S Q=s169_r0 cf a0 a1 a4 a5 a17 S Q:=wpS_of (by kernel_rfl)
def s169_0 (cf:CallF) (a0 a1 a4 a5 a17:D) (S:Store) (Q:QT):Prop:=
 OX (lenD false a0) fun x4=>OX (binD .lss .num a5 x4) fun x5=>OX (gsel x5 true (some a5)) fun x6=>OX (gsel x5 true (some a1)) fun x7=>OX (gsel x5 true (lenD false x7)) fun x8=>OX (gsel x5 true (binD .lss .num x6 x8)) fun x9=>OX (pickD x5 x9 (.b false)) fun x10=>WB x10
 (OX (iaD 4 a0 a5) fun x11=>OX (faD 0 x11) fun x12=>OX (ldD S 3 true x12) fun x13=>OX (iaD 4 a1 a5) fun x14=>OX (faD 0 x14) fun x15=>OX (ldD S 3 true x15) fun x16=>OX (isoCall cf 172 [x13,x16]) fun x17=>OX (binD .neq .num x17 (.i .i64 0)) fun x18=>WB x18
 (Q .ret (mkf 53 [(0,.top),(1,.top),(4,x17),(5,.top),(17,.top)]) S)
 (OX (iaD 4 a0 a5) fun x19=>OX (faD 3 x19) fun x20=>OX (ldD S 1 false x20) fun x21=>OX (iaD 4 a1 a5) fun x22=>OX (faD 3 x22) fun x23=>OX (ldD S 1 false x23) fun x24=>OX (isoCall cf 171 [x21,x24]) fun x25=>OX (binD .neq .num x25 (.i .i64 0)) fun x26=>WB x26
 (Q .ret (mkf 53 [(0,.top),(1,.top),(4,x25),(5,.top),(17,.top)]) S)
 (OX (binD .add .num a5 (.i .i64 1)) fun x27=>Q .normal (mkf 53 [(0,a0),(1,a1),(4,a4),(5,x27),(17,.top)]) S)))
 (Q (.exit 0) (mkf 53 [(0,a0),(1,a1),(4,a4),(5,a5),(17,x10)]) S)
theorem e169_0:wp cf c169_0 (fkill (mkf 53 [(0,a0),(1,a1),(4,a4),(5,a5),(17,a17)]) []) S Q=s169_0 cf a0 a1 a4 a5 a17 S Q:=wpS_of (by kernel_rfl)
def s169 (cf:CallF) (a0 a1:D) (S:Store) (Post:PT):Prop:=
 W cf (.loop [] c169_0) (mkf 53 [(0,a0),(1,a1),(4,.top),(5,(.i .i64 0)),(17,.top)]) S (Qblk 0 (QS cf c169_r0 (FinK [.t 4] Post)))
theorem e169:wp cf c169 (frame0 d169 [a0,a1]) S (FinK d169.res Post)=s169 cf a0 a1 S Post:=wpS_of (by kernel_rfl)
theorem i169 (a0 a1:D) (r:D) (ha:noRefL (stripL [a0,a1])=true) (hr:noRef r=true) (h:s169 (call dp) (strip a0) (strip a1) [] fun d _=>stripT d=r):isoCall (call dp) 169 [a0,a1]=some r:=iso_s (f:=d169) rfl ⟨rfl,by decide⟩ ha hr (by rw [←e169] at h;exact h)
def s170 (cf:CallF) (a0 a1:D) (S:Store) (Post:PT):Prop:=
 bxx 2 true a0 S fun x1 S2=>bxx 2 true a1 S2 fun x3 S4=>OX (faD 0 x1) fun x5=>OX (ldD S4 1 false x5) fun x6=>OX (faD 0 x3) fun x7=>OX (ldD S4 1 false x7) fun x8=>OX (isoCall cf 163 [x6,x8]) fun x9=>OX (binD .neq .num x9 (.i .i64 0)) fun x10=>WB x10
 (Post x9 S4)
 (OX (faD 1 x1) fun x11=>OX (ldD S4 1 false x11) fun x12=>OX (faD 1 x3) fun x13=>OX (ldD S4 1 false x13) fun x14=>OX (isoCall cf 163 [x12,x14]) fun x15=>Post x15 S4)
theorem e170:wp cf c170 (frame0 d170 [a0,a1]) S (FinK d170.res Post)=s170 cf a0 a1 S Post:=wpS_of (by kernel_rfl)
theorem i170 (a0 a1:D) (r:D) (ha:noRefL (stripL [a0,a1])=true) (hr:noRef r=true) (h:s170 (call dp) (strip a0) (strip a1) [] fun d _=>stripT d=r):isoCall (call dp) 170 [a0,a1]=some r:=iso_s (f:=d170) rfl ⟨rfl,by decide⟩ ha hr (by rw [←e170] at h;exact h)
def s171_r0 (cf:CallF) (a0 a1 a4 a5 a17:D) (S:Store) (Q:QT):Prop:=
 OX (lenD false a0) fun x1=>OX (lenD false a1) fun x2=>OX (isoCall cf 163 [x1,x2]) fun x3=>Q .ret (mkf 53 [(0,.top),(1,.top),(4,x3),(5,.top),(17,.top)]) S
theorem e171_r0:wp cf c171_r0 (mkf 53 [(0,a0),(1,a1),(4,a4),(5,a5),(17,a17)]) S Q=s171_r0 cf a0 a1 a4 a5 a17 S Q:=wpS_of (by kernel_rfl)
def s171_0 (cf:CallF) (a0 a1 a4 a5 a17:D) (S:Store) (Q:QT):Prop:=
 OX (lenD false a0) fun x4=>OX (binD .lss .num a5 x4) fun x5=>OX (gsel x5 true (some a5)) fun x6=>OX (gsel x5 true (some a1)) fun x7=>OX (gsel x5 true (lenD false x7)) fun x8=>OX (gsel x5 true (binD .lss .num x6 x8)) fun x9=>OX (pickD x5 x9 (.b false)) fun x10=>WB x10
 (OX (iaD 2 a0 a5) fun x11=>OX (faD 1 x11) fun x12=>OX (ldD S 1 false x12) fun x13=>OX (iaD 2 a1 a5) fun x14=>OX (faD 1 x14) fun x15=>OX (ldD S 1 false x15) fun x16=>OX (isoCall cf 108 [x13,x16]) fun x17=>OX (binD .neq .num x17 (.i .i64 0)) fun x18=>WB x18
 (Q .ret (mkf 53 [(0,.top),(1,.top),(4,x17),(5,.top),(17,.top)]) S)
 (OX (iaD 2 a0 a5) fun x19=>OX (faD 0 x19) fun x20=>OX (ldD S 1 false x20) fun x21=>OX (iaD 2 a1 a5) fun x22=>OX (faD 0 x22) fun x23=>OX (ldD S 1 false x23) fun x24=>OX (isoCall cf 163 [x21,x24]) fun x25=>OX (binD .neq .num x25 (.i .i64 0)) fun x26=>WB x26
 (Q .ret (mkf 53 [(0,.top),(1,.top),(4,x25),(5,.top),(17,.top)]) S)
 (OX (binD .add .num a5 (.i .i64 1)) fun x27=>Q .normal (mkf 53 [(0,a0),(1,a1),(4,a4),(5,x27),(17,.top)]) S)))
 (Q (.exit 0) (mkf 53 [(0,a0),(1,a1),(4,a4),(5,a5),(17,x10)]) S)
theorem e171_0:wp cf c171_0 (fkill (mkf 53 [(0,a0),(1,a1),(4,a4),(5,a5),(17,a17)]) []) S Q=s171_0 cf a0 a1 a4 a5 a17 S Q:=wpS_of (by kernel_rfl)
def s171 (cf:CallF) (a0 a1:D) (S:Store) (Post:PT):Prop:=
 W cf (.loop [] c171_0) (mkf 53 [(0,a0),(1,a1),(4,.top),(5,(.i .i64 0)),(17,.top)]) S (Qblk 0 (QS cf c171_r0 (FinK [.t 4] Post)))
theorem e171:wp cf c171 (frame0 d171 [a0,a1]) S (FinK d171.res Post)=s171 cf a0 a1 S Post:=wpS_of (by kernel_rfl)
theorem i171 (a0 a1:D) (r:D) (ha:noRefL (stripL [a0,a1])=true) (hr:noRef r=true) (h:s171 (call dp) (strip a0) (strip a1) [] fun d _=>stripT d=r):isoCall (call dp) 171 [a0,a1]=some r:=iso_s (f:=d171) rfl ⟨rfl,by decide⟩ ha hr (by rw [←e171] at h;exact h)
def s172 (cf:CallF) (a0 a1:D) (S:Store) (Post:PT):Prop:=
 bxx 3 true a0 S fun x1 S2=>bxx 3 true a1 S2 fun x3 S4=>OX (faD 0 x1) fun x5=>OX (ldD S4 1 false x5) fun x6=>OX (faD 0 x3) fun x7=>OX (ldD S4 1 false x7) fun x8=>OX (binD .neq .num x6 x8) fun x9=>WB x9
 (OX (faD 0 x1) fun x10=>OX (ldD S4 1 false x10) fun x11=>OX (faD 0 x3) fun x12=>OX (ldD S4 1 false x12) fun x13=>OX (binD .lss .num x11 x13) fun x14=>OX (isoCall cf 197 [x14]) fun x15=>Post x15 S4)
 (OX (faD 1 x1) fun x16=>OX (ldD S4 1 false x16) fun x17=>OX (faD 1 x3) fun x18=>OX (ldD S4 1 false x18) fun x19=>OX (binD .neq .num x17 x19) fun x20=>WB x20
 (OX (faD 1 x1) fun x21=>OX (ldD S4 1 false x21) fun x22=>OX (faD 1 x3) fun x23=>OX (ldD S4 1 false x23) fun x24=>OX (binD .lss .num x22 x24) fun x25=>OX (isoCall cf 197 [x25]) fun x26=>Post x26 S4)
 (OX (faD 2 x1) fun x27=>OX (ldD S4 1 false x27) fun x28=>OX (faD 2 x3) fun x29=>OX (ldD S4 1 false x29) fun x30=>OX (binD .neq .str x28 x30) fun x31=>WB x31
 (OX (faD 2 x1) fun x32=>OX (ldD S4 1 false x32) fun x33=>OX (faD 2 x3) fun x34=>OX (ldD S4 1 false x34) fun x35=>OX (binD .lss .str x33 x35) fun x36=>OX (isoCall cf 197 [x36]) fun x37=>Post x37 S4)
 (Post (.i .i64 0) S4)))
theorem e172:wp cf c172 (frame0 d172 [a0,a1]) S (FinK d172.res Post)=s172 cf a0 a1 S Post:=wpS_of (by kernel_rfl)
theorem i172 (a0 a1:D) (r:D) (ha:noRefL (stripL [a0,a1])=true) (hr:noRef r=true) (h:s172 (call dp) (strip a0) (strip a1) [] fun d _=>stripT d=r):isoCall (call dp) 172 [a0,a1]=some r:=iso_s (f:=d172) rfl ⟨rfl,by decide⟩ ha hr (by rw [←e172] at h;exact h)
def s196 (cf:CallF) (a0:D) (S:Store) (Post:PT):Prop:=
 bxx 3 true a0 S fun x1 S2=>OX (faD 0 x1) fun x3=>OX (ldD S2 1 false x3) fun x4=>OX (binD .eql .num x4 (.i .i64 0)) fun x5=>WB x5
 (OX (faD 2 x1) fun x6=>OX (ldD S2 1 false x6) fun x7=>OX (binD .eql .str x7 (.s [])) fun x8=>Post x8 S2)
 (OX (binD .eql .num x4 (.i .i64 1)) fun x9=>WB x9
 (OX (faD 1 x1) fun x10=>OX (ldD S2 1 false x10) fun x11=>OX (binD .eql .num x11 (.i .i64 0)) fun x12=>OX (gsel x12 true (faD 2 x1)) fun x13=>OX (gsel x12 true (ldD S2 1 false x13)) fun x14=>OX (gsel x12 true (lenD true x14)) fun x15=>OX (gsel x12 true (binD .leq .num x15 (.i .i64 255))) fun x16=>OX (pickD x12 x16 (.b false)) fun x17=>Post x17 S2)
 (OX (binD .eql .num x4 (.i .i64 2)) fun x18=>WB x18
 (OX (faD 2 x1) fun x19=>OX (ldD S2 1 false x19) fun x20=>OX (binD .eql .str x20 (.s [])) fun x21=>OX (gsel x21 true (faD 1 x1)) fun x22=>OX (gsel x21 true (ldD S2 1 false x22)) fun x23=>OX (gsel x21 true (binD .eql .num x23 (.i .i64 0))) fun x24=>OX (gsel x21 true (some x24)) fun x25=>OX (gsel x25 false (faD 1 x1)) fun x26=>OX (gsel x25 false (ldD S2 1 false x26)) fun x27=>OX (gsel x25 false (binD .eql .num x27 (.i .i64 1))) fun x28=>OX (gsel x21 true (pickD x25 (.b true) x28)) fun x29=>OX (pickD x21 x29 (.b false)) fun x30=>Post x30 S2)
 (Post (.b false) S2)))
theorem e196:wp cf c196 (frame0 d196 [a0]) S (FinK d196.res Post)=s196 cf a0 S Post:=wpS_of (by kernel_rfl)
theorem i196 (a0:D) (r:D) (ha:noRefL (stripL [a0])=true) (hr:noRef r=true) (h:s196 (call dp) (strip a0) [] fun d _=>stripT d=r):isoCall (call dp) 196 [a0]=some r:=iso_s (f:=d196) rfl ⟨rfl,by decide⟩ ha hr (by rw [←e196] at h;exact h)
def s197 (cf:CallF) (a0:D) (S:Store) (Post:PT):Prop:=
 WB a0
 (Post (.i .i64 (-1)) S)
 (Post (.i .i64 1) S)
theorem e197:wp cf c197 (frame0 d197 [a0]) S (FinK d197.res Post)=s197 cf a0 S Post:=wpS_of (by kernel_rfl)
theorem i197 (a0:D) (r:D) (ha:noRefL (stripL [a0])=true) (hr:noRef r=true) (h:s197 (call dp) (strip a0) [] fun d _=>stripT d=r):isoCall (call dp) 197 [a0]=some r:=iso_s (f:=d197) rfl ⟨rfl,by decide⟩ ha hr (by rw [←e197] at h;exact h)
def s69_0 (cf:CallF) (a0 a2 a3 a4 a5 a6 a7 a8 a13 a23 a46 a61:D) (S:Store) (Q:QT):Prop:=
 OX (faD 5 a6) fun x1=>OX (ldD S 1 false x1) fun x2=>OX (lenD false x2) fun x3=>OX (binD .lss .num a8 x3) fun x4=>WB x4
 (OX (faD 5 a6) fun x5=>OX (ldD S 1 false x5) fun x6=>OX (iaD 4 x6 a8) fun x7=>OX (faD 3 x7) fun x8=>OX (ldD S 1 false x8) fun x9=>OX (isoCall cf 69 [x9]) fun x10=>OX (isoCall cf 112 [a3,x10]) fun x11=>OX (binD .add .num a8 (.i .i64 1)) fun x12=>Q .normal (mkf 74 [(0,a0),(2,a2),(3,x11),(4,a4),(5,a5),(6,a6),(7,a7),(8,x12),(13,a13),(23,a23),(46,a46),(61,.top)]) S)
 (Q (.exit 6) (mkf 74 [(0,a0),(2,a2),(3,a3),(4,a4),(5,a5),(6,a6),(7,a7),(8,a8),(13,a13),(23,a23),(46,a46),(61,x4)]) S)
theorem e69_0:wp cf c69_0 (fkill (mkf 74 [(0,a0),(2,a2),(3,a3),(4,a4),(5,a5),(6,a6),(7,a7),(8,a8),(13,a13),(23,a23),(46,a46),(61,a61)]) []) S Q=s69_0 cf a0 a2 a3 a4 a5 a6 a7 a8 a13 a23 a46 a61 S Q:=wpS_of (by kernel_rfl)
def s69_r0 (cf:CallF) (a0 a2 a3 a4 a5 a6 a7 a8 a13 a23 a46 a61:D) (S:Store) (Q:QT):Prop:=
 W cf (.loop [] c69_0) (mkf 74 [(0,a0),(2,a2),(3,a3),(4,a4),(5,a5),(6,a6),(7,.top),(8,(.i .i64 0)),(13,a13),(23,a23),(46,.top),(61,a61)]) S (Qblk 6 Q)
theorem e69_r0:wp cf c69_r0 (mkf 74 [(0,a0),(2,a2),(3,a3),(4,a4),(5,a5),(6,a6),(7,a7),(8,a8),(13,a13),(23,a23),(46,a46),(61,a61)]) S Q=s69_r0 cf a0 a2 a3 a4 a5 a6 a7 a8 a13 a23 a46 a61 S Q:=wpS_of (by kernel_rfl)
def s69_r1 (cf:CallF) (a0 a2 a3 a4 a5 a6 a7 a8 a13 a23 a46 a61:D) (S:Store) (Q:QT):Prop:=
 OX (binD .add .num a5 (.i .i64 1)) fun x13=>Q .normal (mkf 74 [(0,a0),(2,a2),(3,a3),(4,a4),(5,x13),(6,.top),(7,a7),(8,.top),(13,a13),(23,a23),(46,a46),(61,.top)]) S
theorem e69_r1:wp cf c69_r1 (mkf 74 [(0,a0),(2,a2),(3,a3),(4,a4),(5,a5),(6,a6),(7,a7),(8,a8),(13,a13),(23,a23),(46,a46),(61,a61)]) S Q=s69_r1 cf a0 a2 a3 a4 a5 a6 a7 a8 a13 a23 a46 a61 S Q:=wpS_of (by kernel_rfl)
def s69_1 (cf:CallF) (a0 a2 a3 a4 a5 a6 a7 a8 a13 a23 a46 a61:D) (S:Store) (Q:QT):Prop:=
 OX (faD 3 a6) fun x14=>OX (ldD S 1 false x14) fun x15=>OX (lenD false x15) fun x16=>OX (binD .lss .num a7 x16) fun x17=>WB x17
 (OX (faD 3 a6) fun x18=>OX (ldD S 1 false x18) fun x19=>OX (iaD 1 x19 a7) fun x20=>OX (ldD S 1 false x20) fun x21=>OX (isoCall cf 69 [x21]) fun x22=>OX (isoCall cf 112 [a3,x22]) fun x23=>OX (binD .add .num a7 (.i .i64 1)) fun x24=>Q .normal (mkf 74 [(0,a0),(2,a2),(3,x23),(4,a4),(5,a5),(6,a6),(7,x24),(8,a8),(13,a13),(23,a23),(46,.top),(61,a61)]) S)
 (Q (.exit 4) (mkf 74 [(0,a0),(2,a2),(3,a3),(4,a4),(5,a5),(6,a6),(7,a7),(8,a8),(13,a13),(23,a23),(46,x17),(61,a61)]) S)
theorem e69_1:wp cf c69_1 (fkill (mkf 74 [(0,a0),(2,a2),(3,a3),(4,a4),(5,a5),(6,a6),(7,a7),(8,a8),(13,a13),(23,a23),(46,a46),(61,a61)]) []) S Q=s69_1 cf a0 a2 a3 a4 a5 a6 a7 a8 a13 a23 a46 a61 S Q:=wpS_of (by kernel_rfl)
def s69_r2 (cf:CallF) (a0 a2 a3 a4 a5 a6 a7 a8 a13 a23 a46 a61:D) (S:Store) (Q:QT):Prop:=
 OX (binD .add .num a4 (.i .i64 1)) fun x25=>Q .normal (mkf 74 [(0,a0),(2,a2),(3,a3),(4,x25),(5,.top),(6,a6),(7,a7),(8,a8),(13,a13),(23,.top),(46,a46),(61,a61)]) S
theorem e69_r2:wp cf c69_r2 (mkf 74 [(0,a0),(2,a2),(3,a3),(4,a4),(5,a5),(6,a6),(7,a7),(8,a8),(13,a13),(23,a23),(46,a46),(61,a61)]) S Q=s69_r2 cf a0 a2 a3 a4 a5 a6 a7 a8 a13 a23 a46 a61 S Q:=wpS_of (by kernel_rfl)
def s69_2 (cf:CallF) (a0 a2 a3 a4 a5 a6 a7 a8 a13 a23 a46 a61:D) (S:Store) (Q:QT):Prop:=
 OX (iaD 2 a0 a4) fun x26=>OX (faD 1 x26) fun x27=>OX (ldD S 1 false x27) fun x28=>OX (lenD false x28) fun x29=>OX (binD .lss .num a5 x29) fun x30=>WB x30
 (OX (iaD 2 a0 a4) fun x31=>OX (faD 1 x31) fun x32=>OX (ldD S 1 false x32) fun x33=>OX (iaD 11 x33 a5) fun x34=>OX (faD 0 x34) fun x35=>OX (ldD S 10 true x35) fun x36=>al [.i .i64 0,.i .i64 0,.i .i64 0,.sl 1 true [] .ro,.i .i64 0,.sl 4 true [] .ro,.i .i64 0,.i .i64 0,.i .i64 0,.s []] S fun x37 S38=>OX (stD S38 10 true x37 x36) fun S40=>OX (faD 0 x37) fun x41=>OX (ldD S40 1 false x41) fun x42=>OX (binD .eql .num x42 (.i .i64 0)) fun x43=>jn (fun (y45 y46 y47 y48 y49 y50 y51 y52 y53 y54 y55 y56:D) (S57:Store)=>W cf (.loop [] c69_1) (mkf 74 [(0,y45),(2,y46),(3,y47),(4,y48),(5,y49),(6,y50),(7,(.i .i64 0)),(8,y52),(13,y53),(23,.top),(46,y55),(61,y56)]) S57 (Qblk 4 (QS cf c69_r0 (Qblk 3 (QS cf c69_r1 Q))))) fun k44=>WB x43
 (OX (faD 1 x37) fun x58=>OX (ldD S40 2 true x58) fun x59=>OX (isoCall cf 111 [a3,x59]) fun x60=>k44 a0 a2 x60 a4 a5 x37 a7 a8 a13 D.top a46 a61 S40)
 (k44 a0 a2 a3 a4 a5 x37 a7 a8 a13 x43 a46 a61 S40))
 (Q (.exit 2) (mkf 74 [(0,a0),(2,a2),(3,a3),(4,a4),(5,a5),(6,a6),(7,a7),(8,a8),(13,a13),(23,x30),(46,a46),(61,a61)]) S)
theorem e69_2:wp cf c69_2 (fkill (mkf 74 [(0,a0),(2,a2),(3,a3),(4,a4),(5,a5),(6,a6),(7,a7),(8,a8),(13,a13),(23,a23),(46,a46),(61,a61)]) []) S Q=s69_2 cf a0 a2 a3 a4 a5 a6 a7 a8 a13 a23 a46 a61 S Q:=wpS_of (by kernel_rfl)
def s69_r3 (cf:CallF) (a0 a2 a3 a4 a5 a6 a7 a8 a13 a23 a46 a61:D) (S:Store) (Q:QT):Prop:=
 Q .ret (mkf 74 [(0,.top),(2,a3),(3,.top),(4,.top),(5,a5),(6,a6),(7,a7),(8,a8),(13,.top),(23,a23),(46,a46),(61,a61)]) S
theorem e69_r3:wp cf c69_r3 (mkf 74 [(0,a0),(2,a2),(3,a3),(4,a4),(5,a5),(6,a6),(7,a7),(8,a8),(13,a13),(23,a23),(46,a46),(61,a61)]) S Q=s69_r3 cf a0 a2 a3 a4 a5 a6 a7 a8 a13 a23 a46 a61 S Q:=wpS_of (by kernel_rfl)
def s69_3 (cf:CallF) (a0 a2 a3 a4 a5 a6 a7 a8 a13 a23 a46 a61:D) (S:Store) (Q:QT):Prop:=
 OX (lenD false a0) fun x61=>OX (binD .lss .num a4 x61) fun x62=>WB x62
 (W cf (.loop [] c69_2) (mkf 74 [(0,a0),(2,a2),(3,a3),(4,a4),(5,(.i .i64 0)),(6,a6),(7,a7),(8,a8),(13,.top),(23,a23),(46,a46),(61,a61)]) S (Qblk 2 (Qblk 1 (QS cf c69_r2 Q))))
 (Q (.exit 0) (mkf 74 [(0,a0),(2,a2),(3,a3),(4,a4),(5,a5),(6,a6),(7,a7),(8,a8),(13,x62),(23,a23),(46,a46),(61,a61)]) S)
theorem e69_3:wp cf c69_3 (fkill (mkf 74 [(0,a0),(2,a2),(3,a3),(4,a4),(5,a5),(6,a6),(7,a7),(8,a8),(13,a13),(23,a23),(46,a46),(61,a61)]) []) S Q=s69_3 cf a0 a2 a3 a4 a5 a6 a7 a8 a13 a23 a46 a61 S Q:=wpS_of (by kernel_rfl)
def s69 (cf:CallF) (a0:D) (S:Store) (Post:PT):Prop:=
 OX (cellsV 2 true []) fun x63=>W cf (.loop [] c69_3) (mkf 74 [(0,a0),(2,.top),(3,(bslO 2 x63 S).1),(4,(.i .i64 0)),(5,.top),(6,.top),(7,.top),(8,.top),(13,.top),(23,.top),(46,.top),(61,.top)]) (bslO 2 x63 S).2 (Qblk 0 (QS cf c69_r3 (FinK [.t 2] Post)))
theorem e69:wp cf c69 (frame0 d69 [a0]) S (FinK d69.res Post)=s69 cf a0 S Post:=wpS_of (by kernel_rfl)
theorem j69 (a0:D) (Post:D→Prop) (ha:noRefL (stripL [a0])=true) (hr:∀ r,Post r→noRef r=true) (h:s69 (call dp) (strip a0) [] fun d _=>Post (stripT d)):∃ r,isoCall (call dp) 69 [a0]=some r∧Post r:=iso_x (f:=d69) rfl ⟨rfl,by decide⟩ ha hr (by rw [←e69] at h;exact h)
def s111_r0 (cf:CallF) (a0 a3 a4 a5 a18:D) (S:Store) (Q:QT):Prop:=
 OX (lenD false a0) fun x1=>OX (binD .lss .num a5 x1) fun x2=>OX (gsel x2 true (some a0)) fun x3=>OX (gsel x2 true (some a5)) fun x4=>OX (gsel x2 true (iaD 2 x3 x4)) fun x5=>OX (gsel x2 true (ldD S 2 true x5)) fun x6=>OX (gsel x2 true (ldD S 2 true a3)) fun x7=>OX (gsel x2 true (binD .eql (.agg [.i,.i]) x6 x7)) fun x8=>OX (pickD x2 x8 (.b false)) fun x9=>WB x9
 (Q .ret (mkf 46 [(0,.top),(3,.top),(4,a0),(5,.top),(18,.top)]) S)
 (OX (cellsV 2 true []) fun x10=>OX (slcD 2 a0 none (some a5)) fun x11=>OX (ldD (bslO 2 x10 S).2 2 true a3) fun x12=>OX (cellsV 2 true [x12]) fun x13=>OX (slcD 2 a0 (some a5) none) fun x14=>OX (appD 2 false (bslO 2 x10 S).1 x11 (bslO 2 x10 S).2) fun p16=>OX (ldD p16.2 2 true a3) fun x17=>deq x17 x12=true ∧
 (OX (appD 2 false p16.1 (.sl 2 false x13 .ro) p16.2) fun p19=>OX (appD 2 false p19.1 x14 p19.2) fun p21=>Q .ret (mkf 46 [(0,.top),(3,.top),(4,p21.1),(5,.top),(18,.top)]) p21.2))
theorem e111_r0:wp cf c111_r0 (mkf 46 [(0,a0),(3,a3),(4,a4),(5,a5),(18,a18)]) S Q=s111_r0 cf a0 a3 a4 a5 a18 S Q:=wpS_of (by kernel_rfl)
def s111_0 (cf:CallF) (a0 a3 a4 a5 a18:D) (S:Store) (Q:QT):Prop:=
 OX (lenD false a0) fun x22=>OX (binD .lss .num a5 x22) fun x23=>OX (gsel x23 true (some a0)) fun x24=>OX (gsel x23 true (some a5)) fun x25=>OX (gsel x23 true (iaD 2 x24 x25)) fun x26=>OX (gsel x23 true (ldD S 2 true x26)) fun x27=>OX (gsel x23 true (ldD S 2 true a3)) fun x28=>OX (gsel x23 true (isoCall cf 170 [x27,x28])) fun x29=>OX (gsel x23 true (binD .lss .num x29 (.i .i64 0))) fun x30=>OX (pickD x23 x30 (.b false)) fun x31=>WB x31
 (OX (binD .add .num a5 (.i .i64 1)) fun x32=>Q .normal (mkf 46 [(0,a0),(3,a3),(4,a4),(5,x32),(18,.top)]) S)
 (Q (.exit 0) (mkf 46 [(0,a0),(3,a3),(4,a4),(5,a5),(18,x31)]) S)
theorem e111_0:wp cf c111_0 (fkill (mkf 46 [(0,a0),(3,a3),(4,a4),(5,a5),(18,a18)]) []) S Q=s111_0 cf a0 a3 a4 a5 a18 S Q:=wpS_of (by kernel_rfl)
def s111 (cf:CallF) (a0 a1:D) (S:Store) (Post:PT):Prop:=
 bxx 2 true a1 S fun x33 S34=>W cf (.loop [] c111_0) (mkf 46 [(0,a0),(3,x33),(4,.top),(5,(.i .i64 0)),(18,.top)]) S34 (Qblk 0 (QS cf c111_r0 (FinK [.t 4] Post)))
theorem e111:wp cf c111 (frame0 d111 [a0,a1]) S (FinK d111.res Post)=s111 cf a0 a1 S Post:=wpS_of (by kernel_rfl)
theorem j111 (a0 a1:D) (Post:D→Prop) (ha:noRefL (stripL [a0,a1])=true) (hr:∀ r,Post r→noRef r=true) (h:s111 (call dp) (strip a0) (strip a1) [] fun d _=>Post (stripT d)):∃ r,isoCall (call dp) 111 [a0,a1]=some r∧Post r:=iso_x (f:=d111) rfl ⟨rfl,by decide⟩ ha hr (by rw [←e111] at h;exact h)
def s112_r0 (cf:CallF) (a0 a1 a4 a5 a9:D) (S:Store) (Q:QT):Prop:=
 Q .ret (mkf 19 [(0,.top),(1,.top),(4,a0),(5,.top),(9,.top)]) S
theorem e112_r0:wp cf c112_r0 (mkf 19 [(0,a0),(1,a1),(4,a4),(5,a5),(9,a9)]) S Q=s112_r0 cf a0 a1 a4 a5 a9 S Q:=wpS_of (by kernel_rfl)
def s112_0 (cf:CallF) (a0 a1 a4 a5 a9:D) (S:Store) (Q:QT):Prop:=
 OX (lenD false a1) fun x1=>OX (binD .lss .num a5 x1) fun x2=>WB x2
 (OX (iaD 2 a1 a5) fun x3=>OX (ldD S 2 true x3) fun x4=>OX (isoCall cf 111 [a0,x4]) fun x5=>OX (binD .add .num a5 (.i .i64 1)) fun x6=>Q .normal (mkf 19 [(0,x5),(1,a1),(4,a4),(5,x6),(9,.top)]) S)
 (Q (.exit 0) (mkf 19 [(0,a0),(1,a1),(4,a4),(5,a5),(9,x2)]) S)
theorem e112_0:wp cf c112_0 (fkill (mkf 19 [(0,a0),(1,a1),(4,a4),(5,a5),(9,a9)]) []) S Q=s112_0 cf a0 a1 a4 a5 a9 S Q:=wpS_of (by kernel_rfl)
def s112 (cf:CallF) (a0 a1:D) (S:Store) (Post:PT):Prop:=
 W cf (.loop [] c112_0) (mkf 19 [(0,a0),(1,a1),(4,.top),(5,(.i .i64 0)),(9,.top)]) S (Qblk 0 (QS cf c112_r0 (FinK [.t 4] Post)))
theorem e112:wp cf c112 (frame0 d112 [a0,a1]) S (FinK d112.res Post)=s112 cf a0 a1 S Post:=wpS_of (by kernel_rfl)
theorem j112 (a0 a1:D) (Post:D→Prop) (ha:noRefL (stripL [a0,a1])=true) (hr:∀ r,Post r→noRef r=true) (h:s112 (call dp) (strip a0) (strip a1) [] fun d _=>Post (stripT d)):∃ r,isoCall (call dp) 112 [a0,a1]=some r∧Post r:=iso_x (f:=d112) rfl ⟨rfl,by decide⟩ ha hr (by rw [←e112] at h;exact h)
def s68_r0 (cf:CallF) (a0 a2 a3 a4 a5 a6 a10 a20 a39:D) (S:Store) (Q:QT):Prop:=
 OX (binD .add .num a4 (.i .i64 1)) fun x1=>Q .normal (mkf 48 [(0,a0),(2,a2),(3,a3),(4,x1),(5,.top),(6,.top),(10,a10),(20,a20),(39,.top)]) S
theorem e68_r0:wp cf c68_r0 (mkf 48 [(0,a0),(2,a2),(3,a3),(4,a4),(5,a5),(6,a6),(10,a10),(20,a20),(39,a39)]) S Q=s68_r0 cf a0 a2 a3 a4 a5 a6 a10 a20 a39 S Q:=wpS_of (by kernel_rfl)
def s68_0 (cf:CallF) (a0 a2 a3 a4 a5 a6 a10 a20 a39:D) (S:Store) (Q:QT):Prop:=
 OX (faD 3 a5) fun x2=>OX (ldD S 1 false x2) fun x3=>OX (lenD false x3) fun x4=>OX (binD .lss .num a6 x4) fun x5=>WB x5
 (OX (faD 3 a5) fun x6=>OX (ldD S 1 false x6) fun x7=>OX (iaD 1 x7 a6) fun x8=>OX (ldD S 1 false x8) fun x9=>OX (isoCall cf 68 [x9]) fun x10=>WB x10
 (Q .ret (mkf 48 [(0,.top),(2,(.b true)),(3,.top),(4,.top),(5,.top),(6,.top),(10,a10),(20,a20),(39,.top)]) S)
 (OX (binD .add .num a6 (.i .i64 1)) fun x11=>Q .normal (mkf 48 [(0,a0),(2,a2),(3,a3),(4,a4),(5,a5),(6,x11),(10,a10),(20,a20),(39,.top)]) S))
 (Q (.exit 4) (mkf 48 [(0,a0),(2,a2),(3,a3),(4,a4),(5,a5),(6,a6),(10,a10),(20,a20),(39,x5)]) S)
theorem e68_0:wp cf c68_0 (fkill (mkf 48 [(0,a0),(2,a2),(3,a3),(4,a4),(5,a5),(6,a6),(10,a10),(20,a20),(39,a39)]) []) S Q=s68_0 cf a0 a2 a3 a4 a5 a6 a10 a20 a39 S Q:=wpS_of (by kernel_rfl)
def s68_r1 (cf:CallF) (a0 a2 a3 a4 a5 a6 a10 a20 a39:D) (S:Store) (Q:QT):Prop:=
 OX (binD .add .num a3 (.i .i64 1)) fun x12=>Q .normal (mkf 48 [(0,a0),(2,a2),(3,x12),(4,.top),(5,a5),(6,a6),(10,a10),(20,.top),(39,a39)]) S
theorem e68_r1:wp cf c68_r1 (mkf 48 [(0,a0),(2,a2),(3,a3),(4,a4),(5,a5),(6,a6),(10,a10),(20,a20),(39,a39)]) S Q=s68_r1 cf a0 a2 a3 a4 a5 a6 a10 a20 a39 S Q:=wpS_of (by kernel_rfl)
def s68_1 (cf:CallF) (a0 a2 a3 a4 a5 a6 a10 a20 a39:D) (S:Store) (Q:QT):Prop:=
 OX (iaD 2 a0 a3) fun x13=>OX (faD 1 x13) fun x14=>OX (ldD S 1 false x14) fun x15=>OX (lenD false x15) fun x16=>OX (binD .lss .num a4 x16) fun x17=>WB x17
 (OX (iaD 2 a0 a3) fun x18=>OX (faD 1 x18) fun x19=>OX (ldD S 1 false x19) fun x20=>OX (iaD 11 x20 a4) fun x21=>OX (faD 0 x21) fun x22=>OX (ldD S 10 true x22) fun x23=>al [.i .i64 0,.i .i64 0,.i .i64 0,.sl 1 true [] .ro,.i .i64 0,.sl 4 true [] .ro,.i .i64 0,.i .i64 0,.i .i64 0,.s []] S fun x24 S25=>OX (stD S25 10 true x24 x23) fun S27=>OX (faD 0 x24) fun x28=>OX (ldD S27 1 false x28) fun x29=>OX (binD .eql .num x29 (.i .i64 4)) fun x30=>WB x30
 (Q .ret (mkf 48 [(0,.top),(2,(.b true)),(3,.top),(4,.top),(5,.top),(6,a6),(10,a10),(20,.top),(39,a39)]) S27)
 (W cf (.loop [] c68_0) (mkf 48 [(0,a0),(2,a2),(3,a3),(4,a4),(5,x24),(6,(.i .i64 0)),(10,a10),(20,.top),(39,a39)]) S27 (Qblk 4 (Qblk 3 (QS cf c68_r0 Q)))))
 (Q (.exit 2) (mkf 48 [(0,a0),(2,a2),(3,a3),(4,a4),(5,a5),(6,a6),(10,a10),(20,x17),(39,a39)]) S)
theorem e68_1:wp cf c68_1 (fkill (mkf 48 [(0,a0),(2,a2),(3,a3),(4,a4),(5,a5),(6,a6),(10,a10),(20,a20),(39,a39)]) []) S Q=s68_1 cf a0 a2 a3 a4 a5 a6 a10 a20 a39 S Q:=wpS_of (by kernel_rfl)
def s68_r2 (cf:CallF) (a0 a2 a3 a4 a5 a6 a10 a20 a39:D) (S:Store) (Q:QT):Prop:=
 Q .ret (mkf 48 [(0,.top),(2,(.b false)),(3,.top),(4,a4),(5,a5),(6,a6),(10,.top),(20,a20),(39,a39)]) S
theorem e68_r2:wp cf c68_r2 (mkf 48 [(0,a0),(2,a2),(3,a3),(4,a4),(5,a5),(6,a6),(10,a10),(20,a20),(39,a39)]) S Q=s68_r2 cf a0 a2 a3 a4 a5 a6 a10 a20 a39 S Q:=wpS_of (by kernel_rfl)
def s68_2 (cf:CallF) (a0 a2 a3 a4 a5 a6 a10 a20 a39:D) (S:Store) (Q:QT):Prop:=
 OX (lenD false a0) fun x31=>OX (binD .lss .num a3 x31) fun x32=>WB x32
 (W cf (.loop [] c68_1) (mkf 48 [(0,a0),(2,a2),(3,a3),(4,(.i .i64 0)),(5,a5),(6,a6),(10,.top),(20,a20),(39,a39)]) S (Qblk 2 (Qblk 1 (QS cf c68_r1 Q))))
 (Q (.exit 0) (mkf 48 [(0,a0),(2,a2),(3,a3),(4,a4),(5,a5),(6,a6),(10,x32),(20,a20),(39,a39)]) S)
theorem e68_2:wp cf c68_2 (fkill (mkf 48 [(0,a0),(2,a2),(3,a3),(4,a4),(5,a5),(6,a6),(10,a10),(20,a20),(39,a39)]) []) S Q=s68_2 cf a0 a2 a3 a4 a5 a6 a10 a20 a39 S Q:=wpS_of (by kernel_rfl)
def s68 (cf:CallF) (a0:D) (S:Store) (Post:PT):Prop:=
 W cf (.loop [] c68_2) (mkf 48 [(0,a0),(2,.top),(3,(.i .i64 0)),(4,.top),(5,.top),(6,.top),(10,.top),(20,.top),(39,.top)]) S (Qblk 0 (QS cf c68_r2 (FinK [.t 2] Post)))
theorem e68:wp cf c68 (frame0 d68 [a0]) S (FinK d68.res Post)=s68 cf a0 S Post:=wpS_of (by kernel_rfl)
theorem i68 (a0:D) (r:D) (ha:noRefL (stripL [a0])=true) (hr:noRef r=true) (h:s68 (call dp) (strip a0) [] fun d _=>stripT d=r):isoCall (call dp) 68 [a0]=some r:=iso_s (f:=d68) rfl ⟨rfl,by decide⟩ ha hr (by rw [←e68] at h;exact h)
def s70_r0 (cf:CallF) (a0 a1 a2 a6 a7 a8 a9 a10 a11 a20 a33 a68:D) (S:Store) (Q:QT):Prop:=
 OX (isoCall cf 29 [a8,a10]) fun x1=>OX (isoCall cf 114 [a0,x1,a2]) fun x2=>OX (unD .not x2) fun x3=>WB x3
 (Q .ret (mkf 70 [(0,.top),(1,.top),(2,.top),(6,(.sl 1 true [] .ro)),(7,(.b false)),(8,.top),(9,.top),(10,.top),(11,.top),(20,a20),(33,.top),(68,.top)]) S)
 (Q .normal (mkf 70 [(0,a0),(1,a1),(2,a2),(6,a6),(7,a7),(8,x1),(9,a9),(10,.top),(11,.top),(20,a20),(33,.top),(68,x3)]) S)
theorem e70_r0:wp cf c70_r0 (mkf 70 [(0,a0),(1,a1),(2,a2),(6,a6),(7,a7),(8,a8),(9,a9),(10,a10),(11,a11),(20,a20),(33,a33),(68,a68)]) S Q=s70_r0 cf a0 a1 a2 a6 a7 a8 a9 a10 a11 a20 a33 a68 S Q:=wpS_of (by kernel_rfl)
def s70_r1 (cf:CallF) (a0 a1 a2 a6 a7 a8 a9 a10 a11 a20 a33 a68:D) (S:Store) (Q:QT):Prop:=
 OX (binD .add .num a9 (.i .i64 1)) fun x4=>Q .normal (mkf 70 [(0,a0),(1,a1),(2,a2),(6,a6),(7,a7),(8,a8),(9,x4),(10,a10),(11,a11),(20,a20),(33,a33),(68,.top)]) S
theorem e70_r1:wp cf c70_r1 (mkf 70 [(0,a0),(1,a1),(2,a2),(6,a6),(7,a7),(8,a8),(9,a9),(10,a10),(11,a11),(20,a20),(33,a33),(68,a68)]) S Q=s70_r1 cf a0 a1 a2 a6 a7 a8 a9 a10 a11 a20 a33 a68 S Q:=wpS_of (by kernel_rfl)
def s70_0 (cf:CallF) (a0 a1 a2 a6 a7 a8 a9 a10 a11 a20 a33 a68:D) (S:Store) (Q:QT):Prop:=
 OX (iaD 2 a1 a9) fun x5=>OX (faD 1 x5) fun x6=>OX (ldD S 1 false x6) fun x7=>OX (lenD false x7) fun x8=>OX (binD .lss .num a11 x8) fun x9=>WB x9
 (OX (iaD 2 a1 a9) fun x10=>OX (faD 1 x10) fun x11=>OX (ldD S 1 false x11) fun x12=>OX (iaD 11 x12 a11) fun x13=>OX (faD 0 x13) fun x14=>OX (ldD S 10 true x14) fun x15=>OX (isoCall cf 113 [a0,x15,a2]) fun x16=>OX (extD x16 0) fun x17=>OX (extD x16 1) fun x18=>OX (unD .not x18) fun x19=>WB x19
 (Q .ret (mkf 70 [(0,.top),(1,.top),(2,.top),(6,(.sl 1 true [] .ro)),(7,(.b false)),(8,.top),(9,.top),(10,.top),(11,.top),(20,a20),(33,.top),(68,a68)]) S)
 (OX (isoCall cf 28 [a10,x17]) fun x20=>OX (isoCall cf 114 [a0,x20,a2]) fun x21=>OX (unD .not x21) fun x22=>WB x22
 (Q .ret (mkf 70 [(0,.top),(1,.top),(2,.top),(6,(.sl 1 true [] .ro)),(7,(.b false)),(8,.top),(9,.top),(10,.top),(11,.top),(20,a20),(33,.top),(68,a68)]) S)
 (OX (binD .add .num a11 (.i .i64 1)) fun x23=>Q .normal (mkf 70 [(0,a0),(1,a1),(2,a2),(6,a6),(7,a7),(8,a8),(9,a9),(10,x20),(11,x23),(20,a20),(33,.top),(68,a68)]) S)))
 (Q (.exit 2) (mkf 70 [(0,a0),(1,a1),(2,a2),(6,a6),(7,a7),(8,a8),(9,a9),(10,a10),(11,a11),(20,a20),(33,x9),(68,a68)]) S)
theorem e70_0:wp cf c70_0 (fkill (mkf 70 [(0,a0),(1,a1),(2,a2),(6,a6),(7,a7),(8,a8),(9,a9),(10,a10),(11,a11),(20,a20),(33,a33),(68,a68)]) []) S Q=s70_0 cf a0 a1 a2 a6 a7 a8 a9 a10 a11 a20 a33 a68 S Q:=wpS_of (by kernel_rfl)
def s70_r2 (cf:CallF) (a0 a1 a2 a6 a7 a8 a9 a10 a11 a20 a33 a68:D) (S:Store) (Q:QT):Prop:=
 Q .ret (mkf 70 [(0,.top),(1,.top),(2,.top),(6,a8),(7,(.b true)),(8,.top),(9,.top),(10,a10),(11,a11),(20,.top),(33,a33),(68,a68)]) S
theorem e70_r2:wp cf c70_r2 (mkf 70 [(0,a0),(1,a1),(2,a2),(6,a6),(7,a7),(8,a8),(9,a9),(10,a10),(11,a11),(20,a20),(33,a33),(68,a68)]) S Q=s70_r2 cf a0 a1 a2 a6 a7 a8 a9 a10 a11 a20 a33 a68 S Q:=wpS_of (by kernel_rfl)
def s70_1 (cf:CallF) (a0 a1 a2 a6 a7 a8 a9 a10 a11 a20 a33 a68:D) (S:Store) (Q:QT):Prop:=
 OX (lenD false a1) fun x24=>OX (binD .lss .num a9 x24) fun x25=>WB x25
 (OX (lenD false a0) fun x26=>OX (isoCall cf 19 [x26,(.b true)]) fun x27=>W cf (.loop [] c70_0) (mkf 70 [(0,a0),(1,a1),(2,a2),(6,a6),(7,a7),(8,a8),(9,a9),(10,x27),(11,(.i .i64 0)),(20,.top),(33,a33),(68,a68)]) S (Qblk 2 (QS cf c70_r0 (Qblk 1 (QS cf c70_r1 Q)))))
 (Q (.exit 0) (mkf 70 [(0,a0),(1,a1),(2,a2),(6,a6),(7,a7),(8,a8),(9,a9),(10,a10),(11,a11),(20,x25),(33,a33),(68,a68)]) S)
theorem e70_1:wp cf c70_1 (fkill (mkf 70 [(0,a0),(1,a1),(2,a2),(6,a6),(7,a7),(8,a8),(9,a9),(10,a10),(11,a11),(20,a20),(33,a33),(68,a68)]) []) S Q=s70_1 cf a0 a1 a2 a6 a7 a8 a9 a10 a11 a20 a33 a68 S Q:=wpS_of (by kernel_rfl)
def s70 (cf:CallF) (a0 a1 a2:D) (S:Store) (Post:PT):Prop:=
 OX (lenD false a0) fun x28=>OX (isoCall cf 19 [x28,(.b false)]) fun x29=>W cf (.loop [] c70_1) (mkf 70 [(0,a0),(1,a1),(2,a2),(6,.top),(7,.top),(8,x29),(9,(.i .i64 0)),(10,.top),(11,.top),(20,.top),(33,.top),(68,.top)]) S (Qblk 0 (QS cf c70_r2 (FinK [.t 6,.t 7] Post)))
theorem e70:wp cf c70 (frame0 d70 [a0,a1,a2]) S (FinK d70.res Post)=s70 cf a0 a1 a2 S Post:=wpS_of (by kernel_rfl)
theorem j70 (a0 a1 a2:D) (Post:D→Prop) (ha:noRefL (stripL [a0,a1,a2])=true) (hr:∀ r,Post r→noRef r=true) (h:s70 (call dp) (strip a0) (strip a1) (strip a2) [] fun d _=>Post (stripT d)):∃ r,isoCall (call dp) 70 [a0,a1,a2]=some r∧Post r:=iso_x (f:=d70) rfl ⟨rfl,by decide⟩ ha hr (by rw [←e70] at h;exact h)
def s113 (cf:CallF) (a0 a1 a2:D) (S:Store) (Post:PT):Prop:=
 bxx 10 true a1 S fun x1 S2=>OX (faD 0 x1) fun x3=>OX (ldD S2 1 false x3) fun x4=>OX (binD .eql .num x4 (.i .i64 0)) fun x5=>WB x5
 (OX (lenD false a0) fun x6=>OX (faD 1 x1) fun x7=>OX (ldD S2 2 true x7) fun x8=>OX (isoCall cf 15 [a0,x8]) fun x9=>OX (isoCall cf 20 [x6,x9]) fun x10=>Post (.tup [x10,(.b true)]) S2)
 (OX (faD 3 x1) fun x11=>OX (ldD S2 1 false x11) fun x12=>OX (iaD 1 x12 (.i .i64 0)) fun x13=>OX (ldD S2 1 false x13) fun x14=>OX (isoCall cf 70 [a0,x14,a2]) fun x15=>OX (extD x15 0) fun x16=>OX (extD x15 1) fun x17=>OX (unD .not x17) fun x18=>WB x18
 (Post (.tup [(.sl 1 true [] .ro),(.b false)]) S2)
 (OX (faD 0 x1) fun x19=>OX (ldD S2 1 false x19) fun x20=>OX (binD .eql .num x20 (.i .i64 2)) fun x21=>WB x21
 (Post (.tup [x16,(.b true)]) S2)
 (OX (binD .eql .num x20 (.i .i64 3)) fun x22=>WB x22
 (OX (isoCall cf 26 [x16]) fun x23=>Post (.tup [x23,(.b true)]) S2)
 (OX (faD 3 x1) fun x24=>OX (ldD S2 1 false x24) fun x25=>OX (iaD 1 x25 (.i .i64 1)) fun x26=>OX (ldD S2 1 false x26) fun x27=>OX (isoCall cf 70 [a0,x27,a2]) fun x28=>OX (extD x28 0) fun x29=>OX (extD x28 1) fun x30=>OX (unD .not x30) fun x31=>WB x31
 (Post (.tup [(.sl 1 true [] .ro),(.b false)]) S2)
 (OX (isoCall cf 26 [x29]) fun x32=>OX (isoCall cf 28 [x16,x32]) fun x33=>OX (isoCall cf 114 [a0,x33,a2]) fun x34=>Post (.tup [x33,x34]) S2)))))
theorem e113:wp cf c113 (frame0 d113 [a0,a1,a2]) S (FinK d113.res Post)=s113 cf a0 a1 a2 S Post:=wpS_of (by kernel_rfl)
theorem j113 (a0 a1 a2:D) (Post:D→Prop) (ha:noRefL (stripL [a0,a1,a2])=true) (hr:∀ r,Post r→noRef r=true) (h:s113 (call dp) (strip a0) (strip a1) (strip a2) [] fun d _=>Post (stripT d)):∃ r,isoCall (call dp) 113 [a0,a1,a2]=some r∧Post r:=iso_x (f:=d113) rfl ⟨rfl,by decide⟩ ha hr (by rw [←e113] at h;exact h)
def s114 (cf:CallF) (a0 a1 a2:D) (S:Store) (Post:PT):Prop:=
 OX (isoCall cf 18 [a0,a1]) fun x1=>OX (fldD 1 1 false x1) fun x2=>OX (lenD false x2) fun x3=>OX (binD .leq .num x3 a2) fun x4=>Post x4 S
theorem e114:wp cf c114 (frame0 d114 [a0,a1,a2]) S (FinK d114.res Post)=s114 cf a0 a1 a2 S Post:=wpS_of (by kernel_rfl)
theorem i114 (a0 a1 a2:D) (r:D) (ha:noRefL (stripL [a0,a1,a2])=true) (hr:noRef r=true) (h:s114 (call dp) (strip a0) (strip a1) (strip a2) [] fun d _=>stripT d=r):isoCall (call dp) 114 [a0,a1,a2]=some r:=iso_s (f:=d114) rfl ⟨rfl,by decide⟩ ha hr (by rw [←e114] at h;exact h)
def s63 (cf:CallF) (a0:D) (S:Store) (Post:PT):Prop:=
 al [.sl 2 true [] .ro] S fun x1 S2=>OX (cf 103 [a0,(.fn 104 [x1])] S2) fun p4=>OX (ldD p4.2 1 false x1) fun x5=>OX (isoCall cf 81 [x5]) fun x6=>Post x6 p4.2
theorem e63:wp cf c63 (frame0 d63 [a0]) S (FinK d63.res Post)=s63 cf a0 S Post:=wpS_of (by kernel_rfl)
theorem j63 (a0:D) (Post:D→Prop) (ha:noRefL (stripL [a0])=true) (hr:∀ r,Post r→noRef r=true) (h:s63 (call dp) (strip a0) [] fun d _=>Post (stripT d)):∃ r,isoCall (call dp) 63 [a0]=some r∧Post r:=iso_x (f:=d63) rfl ⟨rfl,by decide⟩ ha hr (by rw [←e63] at h;exact h)
def s103_0 (cf:CallF) (a1 a7 a12 a13 a14 a15 a19 a20 a21 a22 a31 a32 a33 a34 a43 a44 a45 a46:D) (S:Store) (Q:QT):Prop:=
 OX (binD .lss .num a45 a44) fun x1=>WB x1
 (OX (iaD 4 a43 a45) fun x2=>OX (ldD S 4 true x2) fun x3=>al [.i .i64 0,.i .i64 0,.s [],.sl 2 true [] .ro] S fun x4 S5=>OX (stD S5 4 true x4 x3) fun S7=>OX (faD 3 x4) fun x8=>OX (ldD S7 1 false x8) fun x9=>OX (cf 103 [x9,a1] S7) fun p11=>OX (binD .add .num a45 (.i .i64 1)) fun x12=>Q .normal (mkf 56 [(1,a1),(7,a7),(12,a12),(13,a13),(14,a14),(15,a15),(19,a19),(20,a20),(21,a21),(22,a22),(31,a31),(32,a32),(33,a33),(34,a34),(43,a43),(44,a44),(45,x12),(46,.top)]) p11.2)
 (Q (.exit 6) (mkf 56 [(1,a1),(7,a7),(12,a12),(13,a13),(14,a14),(15,a15),(19,a19),(20,a20),(21,a21),(22,a22),(31,a31),(32,a32),(33,a33),(34,a34),(43,a43),(44,a44),(45,a45),(46,x1)]) S)
theorem e103_0:wp cf c103_0 (fkill (mkf 56 [(1,a1),(7,a7),(12,a12),(13,a13),(14,a14),(15,a15),(19,a19),(20,a20),(21,a21),(22,a22),(31,a31),(32,a32),(33,a33),(34,a34),(43,a43),(44,a44),(45,a45),(46,a46)]) []) S Q=s103_0 cf a1 a7 a12 a13 a14 a15 a19 a20 a21 a22 a31 a32 a33 a34 a43 a44 a45 a46 S Q:=wpS_of (by kernel_rfl)
def s103_r0 (cf:CallF) (a1 a7 a12 a13 a14 a15 a19 a20 a21 a22 a31 a32 a33 a34 a43 a44 a45 a46:D) (S:Store) (Q:QT):Prop:=
 OX (faD 0 a7) fun x13=>OX (faD 5 x13) fun x14=>OX (ldD S 1 false x14) fun x15=>OX (lenD false x15) fun x16=>W cf (.loop [] c103_0) (mkf 56 [(1,a1),(7,.top),(12,a12),(13,a13),(14,a14),(15,a15),(19,a19),(20,a20),(21,a21),(22,a22),(31,.top),(32,.top),(33,.top),(34,.top),(43,x15),(44,x16),(45,(.i .i64 0)),(46,a46)]) S (Qblk 6 Q)
theorem e103_r0:wp cf c103_r0 (mkf 56 [(1,a1),(7,a7),(12,a12),(13,a13),(14,a14),(15,a15),(19,a19),(20,a20),(21,a21),(22,a22),(31,a31),(32,a32),(33,a33),(34,a34),(43,a43),(44,a44),(45,a45),(46,a46)]) S Q=s103_r0 cf a1 a7 a12 a13 a14 a15 a19 a20 a21 a22 a31 a32 a33 a34 a43 a44 a45 a46 S Q:=wpS_of (by kernel_rfl)
def s103_r1 (cf:CallF) (a1 a7 a12 a13 a14 a15 a19 a20 a21 a22 a31 a32 a33 a34 a43 a44 a45 a46:D) (S:Store) (Q:QT):Prop:=
 OX (binD .add .num a21 (.i .i64 1)) fun x17=>Q .normal (mkf 56 [(1,a1),(7,a7),(12,a12),(13,a13),(14,a14),(15,a15),(19,a19),(20,a20),(21,x17),(22,a22),(31,a31),(32,a32),(33,a33),(34,a34),(43,.top),(44,.top),(45,.top),(46,.top)]) S
theorem e103_r1:wp cf c103_r1 (mkf 56 [(1,a1),(7,a7),(12,a12),(13,a13),(14,a14),(15,a15),(19,a19),(20,a20),(21,a21),(22,a22),(31,a31),(32,a32),(33,a33),(34,a34),(43,a43),(44,a44),(45,a45),(46,a46)]) S Q=s103_r1 cf a1 a7 a12 a13 a14 a15 a19 a20 a21 a22 a31 a32 a33 a34 a43 a44 a45 a46 S Q:=wpS_of (by kernel_rfl)
def s103_1 (cf:CallF) (a1 a7 a12 a13 a14 a15 a19 a20 a21 a22 a31 a32 a33 a34 a43 a44 a45 a46:D) (S:Store) (Q:QT):Prop:=
 OX (binD .lss .num a33 a32) fun x18=>WB x18
 (OX (iaD 1 a31 a33) fun x19=>OX (ldD S 1 false x19) fun x20=>OX (cf 103 [x20,a1] S) fun p22=>OX (binD .add .num a33 (.i .i64 1)) fun x23=>Q .normal (mkf 56 [(1,a1),(7,a7),(12,a12),(13,a13),(14,a14),(15,a15),(19,a19),(20,a20),(21,a21),(22,a22),(31,a31),(32,a32),(33,x23),(34,.top),(43,a43),(44,a44),(45,a45),(46,a46)]) p22.2)
 (Q (.exit 4) (mkf 56 [(1,a1),(7,a7),(12,a12),(13,a13),(14,a14),(15,a15),(19,a19),(20,a20),(21,a21),(22,a22),(31,a31),(32,a32),(33,a33),(34,x18),(43,a43),(44,a44),(45,a45),(46,a46)]) S)
theorem e103_1:wp cf c103_1 (fkill (mkf 56 [(1,a1),(7,a7),(12,a12),(13,a13),(14,a14),(15,a15),(19,a19),(20,a20),(21,a21),(22,a22),(31,a31),(32,a32),(33,a33),(34,a34),(43,a43),(44,a44),(45,a45),(46,a46)]) []) S Q=s103_1 cf a1 a7 a12 a13 a14 a15 a19 a20 a21 a22 a31 a32 a33 a34 a43 a44 a45 a46 S Q:=wpS_of (by kernel_rfl)
def s103_r2 (cf:CallF) (a1 a7 a12 a13 a14 a15 a19 a20 a21 a22 a31 a32 a33 a34 a43 a44 a45 a46:D) (S:Store) (Q:QT):Prop:=
 OX (binD .add .num a14 (.i .i64 1)) fun x24=>Q .normal (mkf 56 [(1,a1),(7,a7),(12,a12),(13,a13),(14,x24),(15,a15),(19,.top),(20,.top),(21,.top),(22,.top),(31,a31),(32,a32),(33,a33),(34,a34),(43,a43),(44,a44),(45,a45),(46,a46)]) S
theorem e103_r2:wp cf c103_r2 (mkf 56 [(1,a1),(7,a7),(12,a12),(13,a13),(14,a14),(15,a15),(19,a19),(20,a20),(21,a21),(22,a22),(31,a31),(32,a32),(33,a33),(34,a34),(43,a43),(44,a44),(45,a45),(46,a46)]) S Q=s103_r2 cf a1 a7 a12 a13 a14 a15 a19 a20 a21 a22 a31 a32 a33 a34 a43 a44 a45 a46 S Q:=wpS_of (by kernel_rfl)
def s103_2 (cf:CallF) (a1 a7 a12 a13 a14 a15 a19 a20 a21 a22 a31 a32 a33 a34 a43 a44 a45 a46:D) (S:Store) (Q:QT):Prop:=
 OX (binD .lss .num a21 a20) fun x25=>WB x25
 (OX (iaD 11 a19 a21) fun x26=>OX (ldD S 11 true x26) fun x27=>al [.i .i64 0,.i .i64 0,.i .i64 0,.sl 1 true [] .ro,.i .i64 0,.sl 4 true [] .ro,.i .i64 0,.i .i64 0,.i .i64 0,.s [],.i .i64 0] S fun x28 S29=>OX (stD S29 11 true x28 x27) fun S31=>OX (faD 0 x28) fun x32=>OX (ldD S31 10 true x32) fun x33=>OX (fnD a1) fun q35=>OX (cf q35.1 ([x33]++q35.2) S31) fun p36=>OX (faD 0 x28) fun x37=>OX (faD 3 x37) fun x38=>OX (ldD p36.2 1 false x38) fun x39=>OX (lenD false x39) fun x40=>W cf (.loop [] c103_1) (mkf 56 [(1,a1),(7,x28),(12,a12),(13,a13),(14,a14),(15,a15),(19,a19),(20,a20),(21,a21),(22,.top),(31,x39),(32,x40),(33,(.i .i64 0)),(34,a34),(43,a43),(44,a44),(45,a45),(46,a46)]) p36.2 (Qblk 4 (QS cf c103_r0 (Qblk 3 (QS cf c103_r1 Q)))))
 (Q (.exit 2) (mkf 56 [(1,a1),(7,a7),(12,a12),(13,a13),(14,a14),(15,a15),(19,a19),(20,a20),(21,a21),(22,x25),(31,a31),(32,a32),(33,a33),(34,a34),(43,a43),(44,a44),(45,a45),(46,a46)]) S)
theorem e103_2:wp cf c103_2 (fkill (mkf 56 [(1,a1),(7,a7),(12,a12),(13,a13),(14,a14),(15,a15),(19,a19),(20,a20),(21,a21),(22,a22),(31,a31),(32,a32),(33,a33),(34,a34),(43,a43),(44,a44),(45,a45),(46,a46)]) []) S Q=s103_2 cf a1 a7 a12 a13 a14 a15 a19 a20 a21 a22 a31 a32 a33 a34 a43 a44 a45 a46 S Q:=wpS_of (by kernel_rfl)
def s103_3 (cf:CallF) (a1 a7 a12 a13 a14 a15 a19 a20 a21 a22 a31 a32 a33 a34 a43 a44 a45 a46:D) (S:Store) (Q:QT):Prop:=
 OX (binD .lss .num a14 a13) fun x41=>WB x41
 (OX (iaD 2 a12 a14) fun x42=>OX (ldD S 2 true x42) fun x43=>al [.i .i64 0,.sl 11 true [] .ro] S fun x44 S45=>OX (stD S45 2 true x44 x43) fun S47=>OX (faD 1 x44) fun x48=>OX (ldD S47 1 false x48) fun x49=>OX (lenD false x49) fun x50=>W cf (.loop [] c103_2) (mkf 56 [(1,a1),(7,a7),(12,a12),(13,a13),(14,a14),(15,.top),(19,x49),(20,x50),(21,(.i .i64 0)),(22,a22),(31,a31),(32,a32),(33,a33),(34,a34),(43,a43),(44,a44),(45,a45),(46,a46)]) S47 (Qblk 2 (Qblk 1 (QS cf c103_r2 Q))))
 (Q (.exit 0) (mkf 56 [(1,a1),(7,a7),(12,a12),(13,a13),(14,a14),(15,x41),(19,a19),(20,a20),(21,a21),(22,a22),(31,a31),(32,a32),(33,a33),(34,a34),(43,a43),(44,a44),(45,a45),(46,a46)]) S)
theorem e103_3:wp cf c103_3 (fkill (mkf 56 [(1,a1),(7,a7),(12,a12),(13,a13),(14,a14),(15,a15),(19,a19),(20,a20),(21,a21),(22,a22),(31,a31),(32,a32),(33,a33),(34,a34),(43,a43),(44,a44),(45,a45),(46,a46)]) []) S Q=s103_3 cf a1 a7 a12 a13 a14 a15 a19 a20 a21 a22 a31 a32 a33 a34 a43 a44 a45 a46 S Q:=wpS_of (by kernel_rfl)
def s103 (cf:CallF) (a0 a1:D) (S:Store) (Post:PT):Prop:=
 OX (lenD false a0) fun x51=>W cf (.loop [] c103_3) (mkf 56 [(1,a1),(7,.top),(12,a0),(13,x51),(14,(.i .i64 0)),(15,.top),(19,.top),(20,.top),(21,.top),(22,.top),(31,.top),(32,.top),(33,.top),(34,.top),(43,.top),(44,.top),(45,.top),(46,.top)]) S (Qblk 0 (FinK [] Post))
theorem e103:wp cf c103 (frame0 d103 [a0,a1]) S (FinK d103.res Post)=s103 cf a0 a1 S Post:=wpS_of (by kernel_rfl)
theorem f103 (a0 a1:D) (S:Store) (Post:PT) (h:s103 (call dp) a0 a1 S Post):∃ r S',call dp 103 [a0,a1] S=some (r,S')∧Post r S':=call_s (f:=d103) rfl ⟨rfl,by decide⟩ (by rw [←e103] at h;exact h)
def s104 (cf:CallF) (a0 a1:D) (S:Store) (Post:PT):Prop:=
 bxx 10 true a0 S fun x1 S2=>OX (faD 0 x1) fun x3=>OX (ldD S2 1 false x3) fun x4=>OX (binD .eql .num x4 (.i .i64 0)) fun x5=>jn (fun (y7 y8 y9:D) (S10:Store)=>Post (.tup []) S10) fun k6=>WB x5
 (OX (ldD S2 1 false a1) fun x11=>OX (faD 1 x1) fun x12=>OX (ldD S2 2 true x12) fun x13=>OX (cellsV 2 true [x13]) fun x14=>OX (appD 2 false x11 (.sl 2 false x14 .ro) S2) fun p16=>OX (stD p16.2 1 false a1 p16.1) fun S18=>k6 D.top D.top D.top S18)
 (k6 a1 x1 x5 S2)
theorem e104:wp cf c104 (frame0 d104 [a0,a1]) S (FinK d104.res Post)=s104 cf a0 a1 S Post:=wpS_of (by kernel_rfl)
theorem f104 (a0 a1:D) (S:Store) (Post:PT) (h:s104 (call dp) a0 a1 S Post):∃ r S',call dp 104 [a0,a1] S=some (r,S')∧Post r S':=call_s (f:=d104) rfl ⟨rfl,by decide⟩ (by rw [←e104] at h;exact h)
def s61_r0 (cf:CallF) (a2 a7 a8 a9 a10 a14 a15 a16 a17:D) (S:Store) (Q:QT):Prop:=
 OX (binD .add .num a9 (.i .i64 1)) fun x1=>Q .normal (mkf 32 [(2,a2),(7,a7),(8,a8),(9,x1),(10,a10),(14,.top),(15,.top),(16,.top),(17,.top)]) S
theorem e61_r0:wp cf c61_r0 (mkf 32 [(2,a2),(7,a7),(8,a8),(9,a9),(10,a10),(14,a14),(15,a15),(16,a16),(17,a17)]) S Q=s61_r0 cf a2 a7 a8 a9 a10 a14 a15 a16 a17 S Q:=wpS_of (by kernel_rfl)
def s61_0 (cf:CallF) (a2 a7 a8 a9 a10 a14 a15 a16 a17:D) (S:Store) (Q:QT):Prop:=
 OX (binD .lss .num a16 a15) fun x2=>WB x2
 (OX (iaD 11 a14 a16) fun x3=>OX (ldD S 11 true x3) fun x4=>al [.i .i64 0,.i .i64 0,.i .i64 0,.sl 1 true [] .ro,.i .i64 0,.sl 4 true [] .ro,.i .i64 0,.i .i64 0,.i .i64 0,.s [],.i .i64 0] S fun x5 S6=>OX (stD S6 11 true x5 x4) fun S8=>OX (faD 0 x5) fun x9=>OX (faD 0 x9) fun x10=>OX (ldD S8 1 false x10) fun x11=>OX (binD .eql .num x11 (.i .i64 4)) fun x12=>OX (gsel x12 false (faD 0 x5)) fun x13=>OX (gsel x12 false (faD 3 x13)) fun x14=>OX (gsel x12 false (ldD S8 1 false x14)) fun x15=>OX (gsel x12 false (isoCall cf 101 [x15,(.fn 61 [])])) fun x16=>OX (pickD x12 (.b true) x16) fun x17=>WB x17
 (Q .ret (mkf 32 [(2,(.b true)),(7,.top),(8,.top),(9,.top),(10,a10),(14,.top),(15,.top),(16,.top),(17,.top)]) S8)
 (OX (binD .add .num a16 (.i .i64 1)) fun x18=>Q .normal (mkf 32 [(2,a2),(7,a7),(8,a8),(9,a9),(10,a10),(14,a14),(15,a15),(16,x18),(17,.top)]) S8))
 (Q (.exit 2) (mkf 32 [(2,a2),(7,a7),(8,a8),(9,a9),(10,a10),(14,a14),(15,a15),(16,a16),(17,x2)]) S)
theorem e61_0:wp cf c61_0 (fkill (mkf 32 [(2,a2),(7,a7),(8,a8),(9,a9),(10,a10),(14,a14),(15,a15),(16,a16),(17,a17)]) []) S Q=s61_0 cf a2 a7 a8 a9 a10 a14 a15 a16 a17 S Q:=wpS_of (by kernel_rfl)
def s61_r1 (cf:CallF) (a2 a7 a8 a9 a10 a14 a15 a16 a17:D) (S:Store) (Q:QT):Prop:=
 Q .ret (mkf 32 [(2,(.b false)),(7,.top),(8,.top),(9,.top),(10,.top),(14,a14),(15,a15),(16,a16),(17,a17)]) S
theorem e61_r1:wp cf c61_r1 (mkf 32 [(2,a2),(7,a7),(8,a8),(9,a9),(10,a10),(14,a14),(15,a15),(16,a16),(17,a17)]) S Q=s61_r1 cf a2 a7 a8 a9 a10 a14 a15 a16 a17 S Q:=wpS_of (by kernel_rfl)
def s61_1 (cf:CallF) (a2 a7 a8 a9 a10 a14 a15 a16 a17:D) (S:Store) (Q:QT):Prop:=
 OX (binD .lss .num a9 a8) fun x19=>WB x19
 (OX (iaD 2 a7 a9) fun x20=>OX (ldD S 2 true x20) fun x21=>al [.i .i64 0,.sl 11 true [] .ro] S fun x22 S23=>OX (stD S23 2 true x22 x21) fun S25=>OX (faD 1 x22) fun x26=>OX (ldD S25 1 false x26) fun x27=>OX (lenD false x27) fun x28=>W cf (.loop [] c61_0) (mkf 32 [(2,a2),(7,a7),(8,a8),(9,a9),(10,.top),(14,x27),(15,x28),(16,(.i .i64 0)),(17,a17)]) S25 (Qblk 2 (Qblk 1 (QS cf c61_r0 Q))))
 (Q (.exit 0) (mkf 32 [(2,a2),(7,a7),(8,a8),(9,a9),(10,x19),(14,a14),(15,a15),(16,a16),(17,a17)]) S)
theorem e61_1:wp cf c61_1 (fkill (mkf 32 [(2,a2),(7,a7),(8,a8),(9,a9),(10,a10),(14,a14),(15,a15),(16,a16),(17,a17)]) []) S Q=s61_1 cf a2 a7 a8 a9 a10 a14 a15 a16 a17 S Q:=wpS_of (by kernel_rfl)
def s61 (cf:CallF) (a0:D) (S:Store) (Post:PT):Prop:=
 OX (lenD false a0) fun x29=>W cf (.loop [] c61_1) (mkf 32 [(2,.top),(7,a0),(8,x29),(9,(.i .i64 0)),(10,.top),(14,.top),(15,.top),(16,.top),(17,.top)]) S (Qblk 0 (QS cf c61_r1 (FinK [.t 2] Post)))
theorem e61:wp cf c61 (frame0 d61 [a0]) S (FinK d61.res Post)=s61 cf a0 S Post:=wpS_of (by kernel_rfl)
theorem i61 (a0:D) (r:D) (ha:noRefL (stripL [a0])=true) (hr:noRef r=true) (h:s61 (call dp) (strip a0) [] fun d _=>stripT d=r):isoCall (call dp) 61 [a0]=some r:=iso_s (f:=d61) rfl ⟨rfl,by decide⟩ ha hr (by rw [←e61] at h;exact h)
def s62 (cf:CallF) (a0 a1:D) (S:Store) (Post:PT):Prop:=
 OX (cf 102 [a0,a1] S) fun p2=>OX (binD .geq .num p2.1 (.i .i64 0)) fun x3=>Post x3 p2.2
theorem e62:wp cf c62 (frame0 d62 [a0,a1]) S (FinK d62.res Post)=s62 cf a0 a1 S Post:=wpS_of (by kernel_rfl)
theorem f62 (a0 a1:D) (S:Store) (Post:PT) (h:s62 (call dp) a0 a1 S Post):∃ r S',call dp 62 [a0,a1] S=some (r,S')∧Post r S':=call_s (f:=d62) rfl ⟨rfl,by decide⟩ (by rw [←e62] at h;exact h)
def s102_r0 (cf:CallF) (a0 a1 a4 a7 a8 a9:D) (S:Store) (Q:QT):Prop:=
 Q .ret (mkf 19 [(0,.top),(1,.top),(4,(.i .i64 (-1))),(7,.top),(8,.top),(9,.top)]) S
theorem e102_r0:wp cf c102_r0 (mkf 19 [(0,a0),(1,a1),(4,a4),(7,a7),(8,a8),(9,a9)]) S Q=s102_r0 cf a0 a1 a4 a7 a8 a9 S Q:=wpS_of (by kernel_rfl)
def s102_0 (cf:CallF) (a0 a1 a4 a7 a8 a9:D) (S:Store) (Q:QT):Prop:=
 OX (binD .lss .num a8 a7) fun x1=>WB x1
 (OX (iaD 2 a0 a8) fun x2=>OX (ldD S 2 true x2) fun x3=>OX (fnD a1) fun q5=>OX (cf q5.1 ([x3]++q5.2) S) fun p6=>WB p6.1
 (Q .ret (mkf 19 [(0,.top),(1,.top),(4,a8),(7,.top),(8,.top),(9,.top)]) p6.2)
 (OX (binD .add .num a8 (.i .i64 1)) fun x7=>Q .normal (mkf 19 [(0,a0),(1,a1),(4,a4),(7,a7),(8,x7),(9,.top)]) p6.2))
 (Q (.exit 0) (mkf 19 [(0,a0),(1,a1),(4,a4),(7,a7),(8,a8),(9,x1)]) S)
theorem e102_0:wp cf c102_0 (fkill (mkf 19 [(0,a0),(1,a1),(4,a4),(7,a7),(8,a8),(9,a9)]) []) S Q=s102_0 cf a0 a1 a4 a7 a8 a9 S Q:=wpS_of (by kernel_rfl)
def s102 (cf:CallF) (a0 a1:D) (S:Store) (Post:PT):Prop:=
 OX (lenD false a0) fun x8=>W cf (.loop [] c102_0) (mkf 19 [(0,a0),(1,a1),(4,.top),(7,x8),(8,(.i .i64 0)),(9,.top)]) S (Qblk 0 (QS cf c102_r0 (FinK [.t 4] Post)))
theorem e102:wp cf c102 (frame0 d102 [a0,a1]) S (FinK d102.res Post)=s102 cf a0 a1 S Post:=wpS_of (by kernel_rfl)
theorem f102 (a0 a1:D) (S:Store) (Post:PT) (h:s102 (call dp) a0 a1 S Post):∃ r S',call dp 102 [a0,a1] S=some (r,S')∧Post r S':=call_s (f:=d102) rfl ⟨rfl,by decide⟩ (by rw [←e102] at h;exact h)
def s64 (cf:CallF) (a0 a1:D) (S:Store) (Post:PT):Prop:=
 bxx 2 true a0 S fun x1 S2=>OX (ldD S2 1 false a1) fun x3=>OX (ldD S2 2 true x1) fun x4=>OX (isoCall cf 65 [x3,x4]) fun x5=>OX (unD .not x5) fun x6=>Post x6 S2
theorem e64:wp cf c64 (frame0 d64 [a0,a1]) S (FinK d64.res Post)=s64 cf a0 a1 S Post:=wpS_of (by kernel_rfl)
theorem i64 (a0 a1:D) (r:D) (ha:noRefL (stripL [a0,a1])=true) (hr:noRef r=true) (h:s64 (call dp) (strip a0) (strip a1) [] fun d _=>stripT d=r):isoCall (call dp) 64 [a0,a1]=some r:=iso_s (f:=d64) rfl ⟨rfl,by decide⟩ ha hr (by rw [←e64] at h;exact h)
theorem f64 (a0 a1:D) (S:Store) (Post:PT) (h:s64 (call dp) a0 a1 S Post):∃ r S',call dp 64 [a0,a1] S=some (r,S')∧Post r S':=call_s (f:=d64) rfl ⟨rfl,by decide⟩ (by rw [←e64] at h;exact h)
def s66_r0 (cf:CallF) (a2 a4 a5 a6 a14 a15 a16 a17:D) (S:Store) (Q:QT):Prop:=
 OX (ldD S 3 true a6) fun x1=>OX (stD S 3 true a4 x1) fun S3=>Q .ret (mkf 46 [(2,.top),(4,a4),(5,(.i .i64 0)),(6,.top),(14,.top),(15,.top),(16,.top),(17,.top)]) S3
theorem e66_r0:wp cf c66_r0 (mkf 46 [(2,a2),(4,a4),(5,a5),(6,a6),(14,a14),(15,a15),(16,a16),(17,a17)]) S Q=s66_r0 cf a2 a4 a5 a6 a14 a15 a16 a17 S Q:=wpS_of (by kernel_rfl)
def s66_0 (cf:CallF) (a2 a4 a5 a6 a14 a15 a16 a17:D) (S:Store) (Q:QT):Prop:=
 OX (binD .lss .num a16 a15) fun x4=>WB x4
 (OX (iaD 2 a14 a16) fun x5=>OX (ldD S 2 true x5) fun x6=>al [.i .i64 0,.sl 11 true [] .ro] S fun x7 S8=>OX (stD S8 2 true x7 x6) fun S10=>OX (ldD S10 2 true a2) fun x11=>OX (ldD S10 2 true x7) fun x12=>OX (isoCall cf 105 [x11,x12]) fun x13=>OX (extD x13 0) fun x14=>OX (extD x13 1) fun x15=>al [.sl 2 true [] .ro,.sl 3 true [] .ro,.i .i64 0] S10 fun x16 S17=>OX (stD S17 3 true x16 x14) fun S19=>OX (binD .neq .num x15 (.i .i64 0)) fun x20=>WB x20
 (OX (bldV [.sl 2 true [] .ro,.sl 3 true [] .ro,.i .i64 0] []) fun x21=>OX (stD S19 3 true a4 (.agg x21)) fun S23=>Q .ret (mkf 46 [(2,.top),(4,a4),(5,x15),(6,.top),(14,.top),(15,.top),(16,.top),(17,.top)]) S23)
 (OX (ldD S19 2 true a2) fun x24=>OX (ldD S19 3 true a6) fun x25=>OX (ldD S19 3 true x16) fun x26=>OX (isoCall cf 22 [x25,x26]) fun x27=>OX (extD x27 0) fun x28=>OX (extD x27 1) fun x29=>OX (isoCall cf 106 [x24,x28,x29]) fun x30=>OX (extD x30 0) fun x31=>OX (extD x30 1) fun x32=>OX (stD S19 3 true a6 x31) fun S34=>OX (binD .neq .num x32 (.i .i64 0)) fun x35=>WB x35
 (OX (bldV [.sl 2 true [] .ro,.sl 3 true [] .ro,.i .i64 0] []) fun x36=>OX (stD S34 3 true a4 (.agg x36)) fun S38=>Q .ret (mkf 46 [(2,.top),(4,a4),(5,x32),(6,.top),(14,.top),(15,.top),(16,.top),(17,.top)]) S38)
 (OX (binD .add .num a16 (.i .i64 1)) fun x39=>Q .normal (mkf 46 [(2,a2),(4,a4),(5,a5),(6,a6),(14,a14),(15,a15),(16,x39),(17,.top)]) S34)))
 (Q (.exit 0) (mkf 46 [(2,a2),(4,a4),(5,a5),(6,a6),(14,a14),(15,a15),(16,a16),(17,x4)]) S)
theorem e66_0:wp cf c66_0 (fkill (mkf 46 [(2,a2),(4,a4),(5,a5),(6,a6),(14,a14),(15,a15),(16,a16),(17,a17)]) []) S Q=s66_0 cf a2 a4 a5 a6 a14 a15 a16 a17 S Q:=wpS_of (by kernel_rfl)
def s66 (cf:CallF) (a0 a1:D) (S:Store) (Post:PT):Prop:=
 bxx 2 true a0 S fun x40 S41=>al [.sl 2 true [] .ro,.sl 3 true [] .ro,.i .i64 0] S41 fun x42 S43=>OX (faD 0 x40) fun x44=>OX (ldD S43 1 false x44) fun x45=>OX (isoCall cf 13 [x45,(.b false)]) fun x46=>al [.sl 2 true [] .ro,.sl 3 true [] .ro,.i .i64 0] S43 fun x47 S48=>OX (stD S48 3 true x47 x46) fun S50=>OX (lenD false a1) fun x51=>W cf (.loop [] c66_0) (mkf 46 [(2,x40),(4,x42),(5,.top),(6,x47),(14,a1),(15,x51),(16,(.i .i64 0)),(17,.top)]) S50 (Qblk 0 (QS cf c66_r0 (FinK [.cell 4 3 true,.t 5] Post)))
theorem e66:wp cf c66 (frame0 d66 [a0,a1]) S (FinK d66.res Post)=s66 cf a0 a1 S Post:=wpS_of (by kernel_rfl)
theorem j66 (a0 a1:D) (Post:D→Prop) (ha:noRefL (stripL [a0,a1])=true) (hr:∀ r,Post r→noRef r=true) (h:s66 (call dp) (strip a0) (strip a1) [] fun d _=>Post (stripT d)):∃ r,isoCall (call dp) 66 [a0,a1]=some r∧Post r:=iso_x (f:=d66) rfl ⟨rfl,by decide⟩ ha hr (by rw [←e66] at h;exact h)
def s105_r0 (cf:CallF) (a2 a4 a5 a6 a15 a16 a17 a18:D) (S:Store) (Q:QT):Prop:=
 OX (ldD S 3 true a6) fun x1=>OX (stD S 3 true a4 x1) fun S3=>Q .ret (mkf 48 [(2,.top),(4,a4),(5,(.i .i64 0)),(6,.top),(15,.top),(16,.top),(17,.top),(18,.top)]) S3
theorem e105_r0:wp cf c105_r0 (mkf 48 [(2,a2),(4,a4),(5,a5),(6,a6),(15,a15),(16,a16),(17,a17),(18,a18)]) S Q=s105_r0 cf a2 a4 a5 a6 a15 a16 a17 a18 S Q:=wpS_of (by kernel_rfl)
def s105_0 (cf:CallF) (a2 a4 a5 a6 a15 a16 a17 a18:D) (S:Store) (Q:QT):Prop:=
 OX (binD .lss .num a17 a16) fun x4=>WB x4
 (OX (iaD 11 a15 a17) fun x5=>OX (ldD S 11 true x5) fun x6=>al [.i .i64 0,.i .i64 0,.i .i64 0,.sl 1 true [] .ro,.i .i64 0,.sl 4 true [] .ro,.i .i64 0,.i .i64 0,.i .i64 0,.s [],.i .i64 0] S fun x7 S8=>OX (stD S8 11 true x7 x6) fun S10=>OX (ldD S10 2 true a2) fun x11=>OX (faD 0 x7) fun x12=>OX (ldD S10 10 true x12) fun x13=>OX (isoCall cf 160 [x11,x13]) fun x14=>OX (extD x14 0) fun x15=>OX (extD x14 1) fun x16=>al [.sl 2 true [] .ro,.sl 3 true [] .ro,.i .i64 0] S10 fun x17 S18=>OX (stD S18 3 true x17 x15) fun S20=>OX (binD .neq .num x16 (.i .i64 0)) fun x21=>WB x21
 (OX (bldV [.sl 2 true [] .ro,.sl 3 true [] .ro,.i .i64 0] []) fun x22=>OX (stD S20 3 true a4 (.agg x22)) fun S24=>Q .ret (mkf 48 [(2,.top),(4,a4),(5,x16),(6,.top),(15,.top),(16,.top),(17,.top),(18,.top)]) S24)
 (OX (ldD S20 2 true a2) fun x25=>OX (ldD S20 3 true a6) fun x26=>OX (ldD S20 3 true x17) fun x27=>OX (isoCall cf 21 [x26,x27]) fun x28=>OX (extD x28 0) fun x29=>OX (extD x28 1) fun x30=>OX (isoCall cf 106 [x25,x29,x30]) fun x31=>OX (extD x31 0) fun x32=>OX (extD x31 1) fun x33=>OX (stD S20 3 true a6 x32) fun S35=>OX (binD .neq .num x33 (.i .i64 0)) fun x36=>WB x36
 (OX (bldV [.sl 2 true [] .ro,.sl 3 true [] .ro,.i .i64 0] []) fun x37=>OX (stD S35 3 true a4 (.agg x37)) fun S39=>Q .ret (mkf 48 [(2,.top),(4,a4),(5,x33),(6,.top),(15,.top),(16,.top),(17,.top),(18,.top)]) S39)
 (OX (binD .add .num a17 (.i .i64 1)) fun x40=>Q .normal (mkf 48 [(2,a2),(4,a4),(5,a5),(6,a6),(15,a15),(16,a16),(17,x40),(18,.top)]) S35)))
 (Q (.exit 0) (mkf 48 [(2,a2),(4,a4),(5,a5),(6,a6),(15,a15),(16,a16),(17,a17),(18,x4)]) S)
theorem e105_0:wp cf c105_0 (fkill (mkf 48 [(2,a2),(4,a4),(5,a5),(6,a6),(15,a15),(16,a16),(17,a17),(18,a18)]) []) S Q=s105_0 cf a2 a4 a5 a6 a15 a16 a17 a18 S Q:=wpS_of (by kernel_rfl)
def s105 (cf:CallF) (a0 a1:D) (S:Store) (Post:PT):Prop:=
 bxx 2 true a0 S fun x41 S42=>bxx 2 true a1 S42 fun x43 S44=>al [.sl 2 true [] .ro,.sl 3 true [] .ro,.i .i64 0] S44 fun x45 S46=>OX (faD 0 x41) fun x47=>OX (ldD S46 1 false x47) fun x48=>OX (isoCall cf 13 [x48,(.b true)]) fun x49=>al [.sl 2 true [] .ro,.sl 3 true [] .ro,.i .i64 0] S46 fun x50 S51=>OX (stD S51 3 true x50 x49) fun S53=>OX (faD 1 x43) fun x54=>OX (ldD S53 1 false x54) fun x55=>OX (lenD false x55) fun x56=>W cf (.loop [] c105_0) (mkf 48 [(2,x41),(4,x45),(5,.top),(6,x50),(15,x55),(16,x56),(17,(.i .i64 0)),(18,.top)]) S53 (Qblk 0 (QS cf c105_r0 (FinK [.cell 4 3 true,.t 5] Post)))
theorem e105:wp cf c105 (frame0 d105 [a0,a1]) S (FinK d105.res Post)=s105 cf a0 a1 S Post:=wpS_of (by kernel_rfl)
theorem j105 (a0 a1:D) (Post:D→Prop) (ha:noRefL (stripL [a0,a1])=true) (hr:∀ r,Post r→noRef r=true) (h:s105 (call dp) (strip a0) (strip a1) [] fun d _=>Post (stripT d)):∃ r,isoCall (call dp) 105 [a0,a1]=some r∧Post r:=iso_x (f:=d105) rfl ⟨rfl,by decide⟩ ha hr (by rw [←e105] at h;exact h)
def s106 (cf:CallF) (a0 a1 a2:D) (S:Store) (Post:PT):Prop:=
 bxx 2 true a0 S fun x1 S2=>bxx 3 true a1 S2 fun x3 S4=>al [.sl 2 true [] .ro,.sl 3 true [] .ro,.i .i64 0] S4 fun x5 S6=>OX (binD .eql .num a2 (.i .i64 0)) fun x7=>OX (gsel x7 true (faD 1 x3)) fun x8=>OX (gsel x7 true (ldD S6 1 false x8)) fun x9=>OX (gsel x7 true (lenD false x9)) fun x10=>OX (gsel x7 true (faD 1 x1)) fun x11=>OX (gsel x7 true (ldD S6 1 false x11)) fun x12=>OX (gsel x7 true (binD .gtr .num x10 x12)) fun x13=>OX (pickD x7 x13 (.b false)) fun x14=>WB x14
 (OX (bldV [.sl 2 true [] .ro,.sl 3 true [] .ro,.i .i64 0] []) fun x15=>OX (stD S6 3 true x5 (.agg x15)) fun S17=>OX (ldc S17 3 true x5) fun x18=>Post (.tup [x18,(.i .i64 6)]) S17)
 (OX (ldD S6 3 true x3) fun x19=>OX (stD S6 3 true x5 x19) fun S21=>OX (ldc S21 3 true x5) fun x22=>Post (.tup [x22,a2]) S21)
theorem e106:wp cf c106 (frame0 d106 [a0,a1,a2]) S (FinK d106.res Post)=s106 cf a0 a1 a2 S Post:=wpS_of (by kernel_rfl)
theorem i106 (a0 a1 a2:D) (r:D) (ha:noRefL (stripL [a0,a1,a2])=true) (hr:noRef r=true) (h:s106 (call dp) (strip a0) (strip a1) (strip a2) [] fun d _=>stripT d=r):isoCall (call dp) 106 [a0,a1,a2]=some r:=iso_s (f:=d106) rfl ⟨rfl,by decide⟩ ha hr (by rw [←e106] at h;exact h)
def s160 (cf:CallF) (a0 a1:D) (S:Store) (Post:PT):Prop:=
 bxx 2 true a0 S fun x1 S2=>bxx 10 true a1 S2 fun x3 S4=>al [.sl 2 true [] .ro,.sl 3 true [] .ro,.i .i64 0] S4 fun x5 S6=>OX (faD 0 x3) fun x7=>OX (ldD S6 1 false x7) fun x8=>OX (binD .eql .num x8 (.i .i64 0)) fun x9=>WB x9
 (OX (faD 0 x1) fun x10=>OX (ldD S6 1 false x10) fun x11=>OX (faD 1 x3) fun x12=>OX (ldD S6 2 true x12) fun x13=>OX (isoCall cf 14 [x11,x13]) fun x14=>OX (extD x14 0) fun x15=>OX (extD x14 1) fun x16=>OX (stD S6 3 true x5 x15) fun S18=>OX (ldc S18 3 true x5) fun x19=>Post (.tup [x19,x16]) S18)
 (OX (ldD S6 2 true x1) fun x20=>OX (faD 3 x3) fun x21=>OX (ldD S6 1 false x21) fun x22=>OX (iaD 1 x22 (.i .i64 0)) fun x23=>OX (ldD S6 1 false x23) fun x24=>OX (isoCall cf 66 [x20,x24]) fun x25=>OX (extD x25 0) fun x26=>OX (extD x25 1) fun x27=>al [.sl 2 true [] .ro,.sl 3 true [] .ro,.i .i64 0] S6 fun x28 S29=>OX (ldD S29 2 true x1) fun x30=>deq x30 x20=true ∧
 (OX (ldD S29 1 false x21) fun x31=>deq x31 x22=true ∧
 (OX (ldD S29 1 false x23) fun x32=>deq x32 x24=true ∧
 (OX (stD S29 3 true x28 x26) fun S34=>OX (binD .neq .num x27 (.i .i64 0)) fun x35=>OX (gsel x35 false (faD 0 x3)) fun x36=>OX (gsel x35 false (ldD S34 1 false x36)) fun x37=>OX (gsel x35 false (binD .eql .num x37 (.i .i64 2))) fun x38=>OX (pickD x35 (.b true) x38) fun x39=>WB x39
 (OX (ldD S34 3 true x28) fun x40=>OX (stD S34 3 true x5 x40) fun S42=>OX (ldc S42 3 true x5) fun x43=>Post (.tup [x43,x27]) S42)
 (OX (faD 0 x3) fun x44=>OX (ldD S34 1 false x44) fun x45=>OX (binD .eql .num x45 (.i .i64 3)) fun x46=>WB x46
 (OX (ldD S34 3 true x28) fun x47=>OX (isoCall cf 23 [x47]) fun x48=>OX (stD S34 3 true x5 x48) fun S50=>OX (ldc S50 3 true x5) fun x51=>Post (.tup [x51,(.i .i64 0)]) S50)
 (OX (ldD S34 2 true x1) fun x52=>OX (faD 3 x3) fun x53=>OX (ldD S34 1 false x53) fun x54=>OX (iaD 1 x54 (.i .i64 1)) fun x55=>OX (ldD S34 1 false x55) fun x56=>OX (isoCall cf 66 [x52,x56]) fun x57=>OX (extD x57 0) fun x58=>OX (extD x57 1) fun x59=>al [.sl 2 true [] .ro,.sl 3 true [] .ro,.i .i64 0] S34 fun x60 S61=>OX (ldD S61 2 true x1) fun x62=>deq x62 x52=true ∧
 (OX (ldD S61 1 false x53) fun x63=>deq x63 x54=true ∧
 (OX (ldD S61 1 false x55) fun x64=>deq x64 x56=true ∧
 (OX (stD S61 3 true x60 x58) fun S66=>OX (binD .neq .num x59 (.i .i64 0)) fun x67=>WB x67
 (OX (bldV [.sl 2 true [] .ro,.sl 3 true [] .ro,.i .i64 0] []) fun x68=>OX (stD S66 3 true x5 (.agg x68)) fun S70=>OX (ldc S70 3 true x5) fun x71=>Post (.tup [x71,x59]) S70)
 (OX (ldD S66 2 true x1) fun x72=>OX (ldD S66 3 true x28) fun x73=>OX (ldD S66 3 true x60) fun x74=>OX (isoCall cf 23 [x74]) fun x75=>OX (isoCall cf 21 [x73,x75]) fun x76=>OX (extD x76 0) fun x77=>OX (extD x76 1) fun x78=>OX (isoCall cf 106 [x72,x77,x78]) fun x79=>OX (extD x79 0) fun x80=>OX (extD x79 1) fun x81=>OX (stD S66 3 true x5 x80) fun S83=>OX (ldc S83 3 true x5) fun x84=>Post (.tup [x84,x81]) S83))))))))))
theorem e160:wp cf c160 (frame0 d160 [a0,a1]) S (FinK d160.res Post)=s160 cf a0 a1 S Post:=wpS_of (by kernel_rfl)
theorem j160 (a0 a1:D) (Post:D→Prop) (ha:noRefL (stripL [a0,a1])=true) (hr:∀ r,Post r→noRef r=true) (h:s160 (call dp) (strip a0) (strip a1) [] fun d _=>Post (stripT d)):∃ r,isoCall (call dp) 160 [a0,a1]=some r∧Post r:=iso_x (f:=d160) rfl ⟨rfl,by decide⟩ ha hr (by rw [←e160] at h;exact h)
end Go.Proofs.YtjlmeikcfdanmaaGreatDoor.DE

namespace Go.Proofs.YtjlmeikcfdanmaaGreatDoor.DE.V
open Go BT
set_option linter.unusedSimpArgs false
set_option linter.unusedVariables false
def emA:(n:Nat)→Ann n→Bool
 | 0,x=>nomatch x
 | _+1,x=>decide (x.ts.length=0)
def isCA:(n:Nat)→Ann n→Bool
 | 0,x=>nomatch x
 | _+1,x=>isC x
def isUA:(n:Nat)→Ann n→Bool
 | 0,x=>nomatch x
 | _+1,x=>isU x
def hasCA:(n:Nat)→Ann n→Bool
 | 0,x=>nomatch x
 | _+1,x=>hasC x
noncomputable def validAnn:(n:Nat)→Ann n→Bool
 | 0,x=>nomatch x
 | n+1,x=>vAn ⟨validAnn n,emA n,isCA n,isUA n,hasCA n,cmpAnn n⟩ (eAnn n) x
noncomputable def prm (n:Nat):Prm (Ann n):=⟨validAnn n,emA n,isCA n,isUA n,hasCA n,cmpAnn n⟩
theorem prmOk:∀ n,PrmOk (eAnn n) (OkAnn n) (prm n)
 | 0=>⟨GE_eAnn 0,(fun a=>nomatch a),(fun a=>nomatch a),(fun a=>nomatch a),(fun a=>nomatch a),(fun a=>nomatch a),(fun a=>nomatch a),(fun a=>nomatch a)⟩
 | n+1=>{
   he:=GE_eAnn (n+1)
   len:=fun a=>⟨a.ts.length,lenD_eAn (eAnn n) a,rfl⟩
   V:=fun a h=>v60s (prmOk n) (v136t (n+1)) (v135t (n+1)) a h
   isC:=fun a=>v152 (GE_eAnn n) a
   isU:=fun a=>v153 (GE_eAnn n) a
   hasC:=fun a h=>v154 (GE_eAnn n) a (OkAn.len h)
   c:=v146 (n+1)
   eq:=fun a b h=>v151 (n+1) a b h }
noncomputable def validS (p:SA):Bool:=validAnn p.1 p.2
theorem v60S (p:SA) (h:okS p):isoCall (call dp) 60 [eS p]=some (.b (validS p)):=(prmOk p.1).V p.2 h
section
variable {α:Type}
def teFc (T:α→Bool) (f:Fc α):Bool:=decide (f.kind=4) || f.args.any T
def teTm (T:α→Bool) (t:Tm α):Bool:=t.fs.any (teFc T)
def teAn (T:α→Bool) (x:An α):Bool:=x.ts.any (teTm T)
end
def teAnn:(n:Nat)→Ann n→Bool
 | 0,x=>nomatch x
 | n+1,x=>teAn (teAnn n) x
def Tsts {α:Type} (e:α→D) (ok:α→Prop) (T:α→Bool):Prop:=∀ a,ok a→isoCall (call dp) 61 [e a]=some (.b (T a))
set_option maxHeartbeats 1000000 in
theorem v61s {α:Type} {e:α→D} {ok:α→Prop} {T:α→Bool} (he:GE e) (H:Tsts e ok T):Tsts (eAn e) (OkAn ok) (teAn T):=by
 intro x hx
 have hxl:=hx.len
 apply i61 _ _ (by simp [noRefL,noRef_eAn he]) rfl
 simp [s61]
 let J:Nat→List D→Store→Prop:=fun q fr S=>∃ k b2 b10 b14 b15 b16 b17,fr=mkf 32 [(2,b2),(7,eAn e x),(8,.i .i64 x.ts.length),(9,.i .i64 (k:Nat)),(10,b10),(14,b14),(15,b15),(16,b16),(17,b17)]∧k+q=x.ts.length∧teAn T x=(x.ts.drop k).any (teTm T)
 refine W_loop J ?_ x.ts.length _ _ ⟨0,_,_,_,_,_,_,rfl,by simp,rfl⟩
 intro q fr S hJ;obtain ⟨k,b2,b10,b14,b15,b16,b17,hfr,hk,hv⟩:=hJ;rw [hfr]
 rw [←wp_W,e61_1]
 simp [s61_1]
 split
 ·rename_i h
  obtain ⟨t,ht⟩:=get_lt (l:=x.ts) (k:=k) (by omega)
  have hot:=hx.ts t (List.mem_of_getElem? ht)
  have htl:=hot.len
  rw [drop_get ht,List.any_cons] at hv
  simp [iaD_eAn e _ ht]
  let J2:Nat→List D→Store→Prop:=fun q fr S=>∃ i b2 b10 b17,fr=mkf 32 [(2,b2),(7,eAn e x),(8,.i .i64 x.ts.length),(9,.i .i64 (k:Nat)),(10,b10),(14,eFcs e t.nl t.fs),(15,.i .i64 t.fs.length),(16,.i .i64 (i:Nat)),(17,b17)]∧i+q=t.fs.length∧teTm T t=(t.fs.drop i).any (teFc T)
  refine W_loop J2 ?_ t.fs.length _ _ ⟨0,_,_,_,rfl,by simp,rfl⟩
  intro q2 fr S hJ;obtain ⟨i,b2,b10,b17,hfr,hi,hv2⟩:=hJ;rw [hfr]
  rw [←wp_W,e61_0]
  simp [s61_0]
  split
  ·rename_i h2
   obtain ⟨f,hf⟩:=get_lt (l:=t.fs) (k:=i) (by omega)
   have hof:=hot.fs f (List.mem_of_getElem? hf)
   rw [drop_get hf,List.any_cons] at hv2
   have hA:=v101 he T 61 f.anl f.args hof.alen fun a ha=>H a (hof.args a ha)
   have hfc:teFc T f=(decide (f.kind=4) || f.args.any T):=rfl
   generalize f.args.any T=A at *
   simp [iaD_eFcs e _ hf]
   by_cases k4:f.kind=4
   ·simp only [hfc,k4,decide_true,Bool.true_or] at hv2
    rw [hv2,Bool.true_or] at hv
    simp [k4,hv]
   ·cases A with
    | true=>
     simp only [hfc,k4,decide_false,Bool.false_or,Bool.true_or] at hv2
     rw [hv2,Bool.true_or] at hv
     simp [k4,hA,hv]
    | false=>
     simp only [hfc,k4,decide_false,Bool.or_self,Bool.false_or] at hv2
     simp [k4,hA]
     rw [wrapL (k:=i) h2 htl]
     exact ⟨q2-1,by omega,⟨i+1,_,_,_,rfl,by omega,hv2⟩⟩
  ·rename_i h2
   rw [List.drop_eq_nil_of_le (show t.fs.length≤i by omega),List.any_nil] at hv2
   rw [hv2,Bool.false_or] at hv
   simp [e61_r0,s61_r0]
   rw [wrapL (k:=k) h hxl]
   exact ⟨q-1,by omega,⟨k+1,_,_,_,_,_,_,rfl,by omega,hv⟩⟩
 ·rename_i h
  rw [List.drop_eq_nil_of_le (show x.ts.length≤k by omega),List.any_nil] at hv
  simp [e61_r1,s61_r1,hv]
theorem v61:∀ n,Tsts (eAnn n) (OkAnn n) (teAnn n)
 | 0=>fun x=>nomatch x
 | n+1=>v61s (GE_eAnn n) (v61 n)
end Go.Proofs.YtjlmeikcfdanmaaGreatDoor.DE.V

namespace Go.Proofs.YtjlmeikcfdanmaaGreatDoor.DE.V
open Go Go.ChangeShapes Go.WideShapes Go.RowKit
set_option maxRecDepth 100000
set_option linter.unusedVariables false
set_option linter.unusedSimpArgs false
theorem list_of {α:Type} {p:Nat→α→Prop}:∀ n,(∀ i,i<n→∃ x,p i x)→∃ l:List α,l.length=n∧∀ i x,l[i]? = some x→p i x
 | 0,_=>⟨[],rfl,fun _ _ h=>by simp at h⟩
 | n+1,h=>by
  obtain ⟨l,h1,h2⟩:=list_of n fun i hi=>h i (by omega)
  obtain ⟨x,hx⟩:=h n (by omega)
  refine ⟨l++[x],by simp [h1],fun i y hy=>?_⟩
  rw [List.getElem?_append] at hy
  split at hy
  ·exact h2 i y hy
  ·rename_i hlt
   have:i=l.length:=by
    have:=(List.getElem?_eq_some_iff.1 hy).1
    simp at this;omega
   subst this
   simp at hy;subst hy;rw [h1];exact hx
def RelL (dp:Nat→Option Fn) (w:World) (cs:List Value) (ds:List D):Prop:=cs.length=ds.length∧∀ (m:Nat) (v:Value) (d:D),cs[m]? = some v→ds[m]? = some d→v.oneCell'=true∧Rel dp (there w) [] w v d
section
variable {dp:Nat→Option Fn} {w:World}
theorem RelL.nil:RelL dp w [] []:=⟨rfl,fun _ _ _ h=>by simp at h⟩
theorem RelL.cons {v:Value} {d:D} {cs:List Value} {ds:List D} (h1:v.oneCell'=true) (h2:Rel dp (there w) [] w v d) (h:RelL dp w cs ds):RelL dp w (v::cs) (d::ds):=
 ⟨by simp [h.1],fun m u e hu he=>by
  match m with
  | 0=>simp at hu he;subst hu he;exact ⟨h1,h2⟩
  | m+1=>exact h.2 m u e (by simpa using hu) (by simpa using he)⟩
theorem RelL.app {cs cs':List Value} {ds ds':List D} (h:RelL dp w cs ds) (h':RelL dp w cs' ds'):RelL dp w (cs++cs') (ds++ds'):=by
 refine ⟨by simp [h.1,h'.1],fun m u e hu he=>?_⟩
 rw [List.getElem?_append] at hu he
 rw [h.1] at hu
 split at hu
 ·rename_i hlt
  rw [if_pos hlt] at he
  exact h.2 m u e hu he
 ·rename_i hlt
  rw [if_neg hlt] at he
  exact h'.2 _ u e hu he
variable {H:Type} {enc:TypeId × Value→H} {base:Nat} {spare:Nat→Bool} {held:Bool} {fuel:Nat} {cs:List Value} {x:DataW H × List MemPlace}
theorem rd_sliceG {t e k:Nat} {α:Type} (en:α→List D) (P:α→Prop) (ht:Tryz.prog.underlying t=some (.slice e)) (hk:Tryz.prog.cellsOf e=k) (hk0:0<k) (hen:∀ a,(en a).length=k)
  (helem:∀ (n:Nat) (cs:List Value) (x:DataW H × List MemPlace),n<fuel→DataW.trod enc Tryz.prog w base spare held n e cs=some x→∃ a,P a∧RelL dp w cs (en a))
  (h:DataW.trod enc Tryz.prog w base spare held fuel t cs=some x) :
  ∃ nl l v,(nl=true→l=[])∧(∀ a∈l,P a)∧l.length≤maxLen∧cs=[v]∧v.oneCell'=true∧Rel dp (there w) [] w v (.sl k nl (l.map en) .ro):=by
 rcases DataW.trod_slice ht h with ⟨rfl,_⟩ | ⟨a,len,cap,elems,rest,n,rfl,rfl,_,hb,hl,hm,hel,hx,_,_⟩
 ·exact ⟨true,[],_,fun _=>rfl,fun _ h=>by (cases h),Nat.zero_le _,rfl,rfl,.nil k .ro⟩
 ·obtain ⟨l,hll,hl2⟩:=list_of (α:=List Value × α) (p:=fun i y=>w.cells? base (a.add (i * k)) k=some y.1∧P y.2∧RelL dp w y.1 (en y.2)) len (fun i hi=>by
   have h1:=hx i hi
   rw [hk] at h1
   obtain ⟨y,hy⟩:∃ y,elems[i]? = some y:=⟨_,List.getElem?_eq_getElem (by omega)⟩
   rw [hy] at h1
   cases hc:w.cells? base (a.add (i * k)) k with
   | none=>rw [hc] at h1;cases h1
   | some cs'=>
    rw [hc] at h1
    obtain ⟨z,p1,p2⟩:=helem n cs' y (Nat.lt_succ_self n) h1
    exact ⟨(cs',z),rfl,p1,p2⟩)
  refine ⟨false,l.map (·.2),_,fun h=>by (cases h),?_,by simp;omega,rfl,rfl,?_⟩
  ·intro y hy
   obtain ⟨z,hz,rfl⟩:=List.mem_map.1 hy
   obtain ⟨i,hi⟩:=List.mem_iff_getElem?.1 hz
   exact (hl2 i z hi).2.1
  ·rcases Nat.eq_zero_or_pos len with h0 | h0
   ·subst h0
    have:l=[]:=List.length_eq_zero_iff.1 hll
    subst this
    exact .emp k a cap
   ·obtain ⟨blk,off,spot⟩:=a
    have hspot:spot=none:=by
     obtain ⟨z,hz⟩:∃ z,l[0]? = some z:=⟨_,List.getElem?_eq_getElem (by omega)⟩
     obtain ⟨h1,_⟩:=hl2 0 z hz
     obtain ⟨_,hlen,h3⟩:=World.cells?_some h1
     have:=h3 0 hk0
     have hz0:z.1[0]? ≠ none:=by
      intro hn
      rw [List.getElem?_eq_none_iff] at hn
      omega
     simp only [Nat.zero_mul,Addr.add,if_true] at this
     cases spot with
     | none=>rfl
     | some b=>
      exfalso
      apply hz0
      rw [←this]
      unfold World.cell?
      split <;> simp_all
    subst hspot
    have hadd:∀ i j,((Addr.mk blk off none).add i).add j=⟨blk,off+i+j,none⟩:=by
     intro i j
     unfold Addr.add
     by_cases hi:i=0 <;> by_cases hj:j=0 <;> simp [hi,hj,Nat.add_assoc]
    have hcell:∀ i z,l[i]? = some z→∀ j,j<k→w.cell? ⟨blk,off+i * k+j,none⟩=z.1[j]?:=by
     intro i z hz j hj
     obtain ⟨h1,_⟩:=hl2 i z hz
     obtain ⟨_,_,h3⟩:=World.cells?_some h1
     have:=h3 j hj
     rwa [hadd] at this
    have hget:∀ (j:Nat) (y:List D),((l.map (·.2)).map en)[j]? = some y→∃ z,l[j]? = some z∧y=en z.2:=by
     intro j y hj
     rw [List.getElem?_map,List.getElem?_map] at hj
     cases hz:l[j]? with
     | none=>rw [hz] at hj;simp at hj
     | some z=>rw [hz] at hj;simp at hj;exact ⟨z,rfl,hj.symm⟩
    have key:=Rel.sl (dp:=dp) (F:=there w) (G:=[]) (w:=w) k ((l.map (·.2)).map en) .ro blk off cap (fun j m=>((l[j]?).bind fun z=>z.1[m]?).getD .nilIface)
     (by
      intro y hy
      obtain ⟨z,_,rfl⟩:=List.mem_map.1 hy
      exact hen _) (by simp;omega)
     (by
      intro j y m d hj hd
      obtain ⟨z,hz,rfl⟩:=hget j y hj
      have hmk:m<k:=by
       have:=(List.getElem?_eq_some_iff.1 hd).1
       rwa [hen] at this
      obtain ⟨_,_,hr⟩:=hl2 j z hz
      obtain ⟨v,hv⟩:∃ v,z.1[m]? = some v:=⟨_,List.getElem?_eq_getElem (by rw [hr.1,hen];exact hmk)⟩
      have hc:=hcell j z hz m hmk
      rw [hv] at hc
      simp only [hz,Option.bind_some,hv,Option.getD_some]
      exact ⟨⟨v,hc⟩,hc,(hr.2 m v d hv hd).1⟩)
     (by
      intro j y m d hj hd
      obtain ⟨z,hz,rfl⟩:=hget j y hj
      have hmk:m<k:=by
       have:=(List.getElem?_eq_some_iff.1 hd).1
       rwa [hen] at this
      obtain ⟨_,_,hr⟩:=hl2 j z hz
      obtain ⟨v,hv⟩:∃ v,z.1[m]? = some v:=⟨_,List.getElem?_eq_getElem (by rw [hr.1,hen];exact hmk)⟩
      simp only [hz,Option.bind_some,hv,Option.getD_some]
      exact (hr.2 m v d hv hd).2)
     trivial
    have hlen:((l.map (·.2)).map en).length=len:=by simp [hll]
    rw [hlen] at key
    exact key
theorem cells2:Tryz.prog.cellsOf 2=1:=by kernel_rfl
theorem cells9:Tryz.prog.cellsOf 9=1:=by kernel_rfl
theorem cells49:Tryz.prog.cellsOf 49=1:=by kernel_rfl
theorem cells85:Tryz.prog.cellsOf 85=1:=by kernel_rfl
theorem cells111:Tryz.prog.cellsOf 111=1:=by kernel_rfl
theorem cells113:Tryz.prog.cellsOf 113=2:=by kernel_rfl
theorem cells115:Tryz.prog.cellsOf 115=1:=by kernel_rfl
theorem cells117:Tryz.prog.cellsOf 117=3:=by kernel_rfl
theorem cells119:Tryz.prog.cellsOf 119=10:=by kernel_rfl
theorem cells121:Tryz.prog.cellsOf 121=11:=by kernel_rfl
theorem cells139:Tryz.prog.cellsOf 139=4:=by kernel_rfl
theorem rd_int2 (h:DataW.trod enc Tryz.prog w base spare held fuel 2 cs=some x):∃ n,cs=[.int .i64 n]∧in64 n:=by
 obtain ⟨n,h1,_,h2⟩:=DataW.trod_int Tryz.underlying2 h
 exact ⟨n,h1,wf64 h2⟩
theorem rd_str (h:DataW.trod enc Tryz.prog w base spare held fuel 9 cs=some x):∃ l:List UInt8,Len63 l.length∧RelL dp w cs [.s l]:=by
 obtain ⟨s,rfl,_,h2⟩:=DataW.trod_string Tryz.underlying9 h
 refine ⟨s.data.toList,by simpa [maxLen] using h2,RelL.cons rfl ?_ RelL.nil⟩
 have:=Rel.s (dp:=dp) (F:=there w) (G:=[]) (w:=w) s.data.toList
 simpa using this
theorem rd_vl (h:DataW.trod enc Tryz.prog w base spare held fuel 117 cs=some x):∃ v:Vl,okVl v∧RelL dp w cs (eVl v):=by
 obtain ⟨y0,y1,y2,n,_,hl,h0,h1,h2⟩:=Go.Deep.trod_struct3 Tryz.underlying117 h
 rw [cells117] at hl
 simp only [cells3,cells2,cells9] at h0 h1 h2
 match cs,hl with
 | [a,b,c],_=>
  obtain ⟨n0,e0,w0⟩:=rd_int h0
  obtain ⟨n1,e1,w1⟩:=rd_int2 h1
  obtain ⟨l,k2,r2⟩:=rd_str (dp:=dp) h2
  simp at e0 e1 r2
  subst e0 e1
  exact ⟨⟨n0,n1,l⟩,⟨w0,w1,k2⟩,RelL.cons rfl (.i _ _) (RelL.cons rfl (.i _ _) r2)⟩
theorem rd_rowL (h:DataW.trod enc Tryz.prog w base spare held fuel 27 cs=some x):∃ r:Row,okRow r∧RelL dp w cs (eRow r):=by
 obtain ⟨r,rfl,k⟩:=rd_row h
 exact ⟨r,k,rfl,fun m v d h1 h2=>rel_row r m v d h1 h2⟩
variable {F:Nat} {α:Type} {e:α→D} {ok:α→Prop}
def Rds (enc:TypeId × Value→H) (dp:Nat→Option Fn) (w:World) (base:Nat) (spare:Nat→Bool) (held:Bool) (F:Nat) (e:α→D) (ok:α→Prop):Prop:=
 ∀ n cs x,n≤F→DataW.trod enc Tryz.prog w base spare held n 49 cs=some x→∃ a:α,ok a∧∃ v,cs=[v]∧v.oneCell'=true∧Rel dp (there w) [] w v (e a)
theorem rd_item (HA:Rds enc dp w base spare held F e ok) (hF:fuel≤F+1) (h:DataW.trod enc Tryz.prog w base spare held fuel 139 cs=some x):∃ p:Vl × α,(okVl p.1∧ok p.2)∧RelL dp w cs (eIt e p):=by
 obtain ⟨xs,n,rfl,_,hl,hxl,hf⟩:=DataW.trod_struct Tryz.underlying139 h
 rw [cells139] at hl
 obtain ⟨y0,hy0⟩:∃ y,xs[0]? = some y:=⟨_,List.getElem?_eq_getElem (by rw [hxl];decide)⟩
 obtain ⟨y1,hy1⟩:∃ y,xs[1]? = some y:=⟨_,List.getElem?_eq_getElem (by rw [hxl];decide)⟩
 have h0:DataW.trod enc Tryz.prog w base spare held n 117 ((cs.drop 0).take (Tryz.prog.cellsOf 117))=xs[0]?:=hf 0 _ rfl
 have h1:DataW.trod enc Tryz.prog w base spare held n 49 ((cs.drop 3).take (Tryz.prog.cellsOf 49))=xs[1]?:=hf 1 _ rfl
 rw [hy0] at h0;rw [hy1] at h1
 simp only [cells117,cells49] at h0 h1
 match cs,hl with
 | [a,b,c,d],_=>
  obtain ⟨v,kv,rv⟩:=rd_vl (dp:=dp) h0
  obtain ⟨z,kz,u,eu,ou,ru⟩:=HA _ _ _ (by omega) h1
  simp at eu rv
  subst eu
  exact ⟨(v,z),⟨kv,kz⟩,RelL.app rv (RelL.cons ou ru RelL.nil)⟩
theorem rd_atom (HA:Rds enc dp w base spare held F e ok) (hF:fuel≤F+1) (h:DataW.trod enc Tryz.prog w base spare held fuel 119 cs=some x) (ex:Int) (hex:in64 ex):∃ f:Fc α,f.exp=ex∧OkFc ok f∧RelL dp w cs (eAt e f):=by
 obtain ⟨xs,n,rfl,_,hl,hxl,hf⟩:=DataW.trod_struct Tryz.underlying119 h
 rw [cells119] at hl
 have hy:∀ i,i<7→∃ y,xs[i]? = some y:=fun i hi=>⟨_,List.getElem?_eq_getElem (by rw [hxl];exact hi)⟩
 obtain ⟨y0,hy0⟩:=hy 0 (by omega)
 obtain ⟨y1,hy1⟩:=hy 1 (by omega)
 obtain ⟨y2,hy2⟩:=hy 2 (by omega)
 obtain ⟨y3,hy3⟩:=hy 3 (by omega)
 obtain ⟨y4,hy4⟩:=hy 4 (by omega)
 obtain ⟨y5,hy5⟩:=hy 5 (by omega)
 obtain ⟨y6,hy6⟩:=hy 6 (by omega)
 have h0:DataW.trod enc Tryz.prog w base spare held n 3 ((cs.drop 0).take (Tryz.prog.cellsOf 3))=xs[0]?:=hf 0 _ rfl
 have h1:DataW.trod enc Tryz.prog w base spare held n 27 ((cs.drop 1).take (Tryz.prog.cellsOf 27))=xs[1]?:=hf 1 _ rfl
 have h2:DataW.trod enc Tryz.prog w base spare held n 85 ((cs.drop 3).take (Tryz.prog.cellsOf 85))=xs[2]?:=hf 2 _ rfl
 have h3:DataW.trod enc Tryz.prog w base spare held n 3 ((cs.drop 4).take (Tryz.prog.cellsOf 3))=xs[3]?:=hf 3 _ rfl
 have h4:DataW.trod enc Tryz.prog w base spare held n 115 ((cs.drop 5).take (Tryz.prog.cellsOf 115))=xs[4]?:=hf 4 _ rfl
 have h5:DataW.trod enc Tryz.prog w base spare held n 3 ((cs.drop 6).take (Tryz.prog.cellsOf 3))=xs[5]?:=hf 5 _ rfl
 have h6:DataW.trod enc Tryz.prog w base spare held n 117 ((cs.drop 7).take (Tryz.prog.cellsOf 117))=xs[6]?:=hf 6 _ rfl
 rw [hy0] at h0;rw [hy1] at h1;rw [hy2] at h2;rw [hy3] at h3;rw [hy4] at h4;rw [hy5] at h5;rw [hy6] at h6
 simp only [cells3,cells27,cells85,cells115,cells117] at h0 h1 h2 h3 h4 h5 h6
 match cs,hl with
 | [c0,c1,c2,c3,c4,c5,c6,c7,c8,c9],_=>
  obtain ⟨n0,e0,w0⟩:=rd_int h0
  obtain ⟨r,kr,rr⟩:=rd_rowL (dp:=dp) h1
  obtain ⟨anl,al,av,a1,a2,a3,a4,a5,a6⟩:=rd_sliceG (dp:=dp) (α:=α) (fun a=>[e a]) ok Tryz.underlying85 cells49 (by omega) (fun _=>rfl) (fun n' cs' x' hn' hx'=>by
   obtain ⟨z,kz,u,rfl,ou,ru⟩:=HA _ _ _ (by omega) hx'
   exact ⟨z,kz,RelL.cons ou ru RelL.nil⟩) h2
  obtain ⟨n3,e3,w3⟩:=rd_int h3
  obtain ⟨inl,il,iv,i1,i2,i3,i4,i5,i6⟩:=rd_sliceG (dp:=dp) (α:=Vl × α) (eIt e) (fun p=>okVl p.1∧ok p.2) Tryz.underlying115 cells139 (by omega) (fun _=>rfl) (fun n' cs' x' hn' hx'=>rd_item HA (by omega) hx') h4
  obtain ⟨n5,e5,w5⟩:=rd_int h5
  obtain ⟨v,kv,rv⟩:=rd_vl (dp:=dp) h6
  simp at e0 rr a4 e3 i4 e5 rv
  subst e0 a4 e3 i4 e5
  refine ⟨⟨n0,r,anl,al,n3,inl,il,n5,v,ex⟩,rfl,⟨w0,kr,a1,by simpa [maxLen] using a3,a2,w3,i1,by simpa [maxLen] using i3,i2,w5,kv,hex⟩,?_⟩
  exact RelL.cons rfl (.i _ _) (RelL.app rr (RelL.cons a5 a6 (RelL.cons rfl (.i _ _) (RelL.cons i5 i6 (RelL.cons rfl (.i _ _) rv)))))
theorem rd_fac (HA:Rds enc dp w base spare held F e ok) (hF:fuel≤F+1) (h:DataW.trod enc Tryz.prog w base spare held fuel 121 cs=some x):∃ f:Fc α,OkFc ok f∧RelL dp w cs (eFc e f):=by
 obtain ⟨xs,n,rfl,_,hl,hxl,hf⟩:=DataW.trod_struct Tryz.underlying121 h
 rw [cells121] at hl
 have hy:∀ i,i<2→∃ y,xs[i]? = some y:=fun i hi=>⟨_,List.getElem?_eq_getElem (by rw [hxl];exact hi)⟩
 obtain ⟨y0,hy0⟩:=hy 0 (by omega)
 obtain ⟨y1,hy1⟩:=hy 1 (by omega)
 have h0:DataW.trod enc Tryz.prog w base spare held n 119 ((cs.drop 0).take (Tryz.prog.cellsOf 119))=xs[0]?:=hf 0 _ rfl
 have h1:DataW.trod enc Tryz.prog w base spare held n 3 ((cs.drop 10).take (Tryz.prog.cellsOf 3))=xs[1]?:=hf 1 _ rfl
 rw [hy0] at h0;rw [hy1] at h1
 simp only [cells119,cells3] at h0 h1
 match cs,hl with
 | [c0,c1,c2,c3,c4,c5,c6,c7,c8,c9,c10],_=>
  obtain ⟨n1,e1,w1⟩:=rd_int h1
  obtain ⟨f,hfe,kf,rf⟩:=rd_atom (dp:=dp) HA (by omega) h0 n1 w1
  simp at e1 rf
  subst e1
  refine ⟨f,kf,?_⟩
  have:=RelL.app rf (RelL.cons (v:=.int .i64 n1) rfl (.i _ _) RelL.nil)
  rw [←hfe] at this ⊢
  exact this
theorem rd_term (HA:Rds enc dp w base spare held F e ok) (hF:fuel≤F+1) (h:DataW.trod enc Tryz.prog w base spare held fuel 113 cs=some x):∃ t:Tm α,OkTm ok t∧RelL dp w cs (eTm e t):=by
 obtain ⟨xs,n,rfl,_,hl,hxl,hf⟩:=DataW.trod_struct Tryz.underlying113 h
 rw [cells113] at hl
 have hy:∀ i,i<2→∃ y,xs[i]? = some y:=fun i hi=>⟨_,List.getElem?_eq_getElem (by rw [hxl];exact hi)⟩
 obtain ⟨y0,hy0⟩:=hy 0 (by omega)
 obtain ⟨y1,hy1⟩:=hy 1 (by omega)
 have h0:DataW.trod enc Tryz.prog w base spare held n 2 ((cs.drop 0).take (Tryz.prog.cellsOf 2))=xs[0]?:=hf 0 _ rfl
 have h1:DataW.trod enc Tryz.prog w base spare held n 111 ((cs.drop 1).take (Tryz.prog.cellsOf 111))=xs[1]?:=hf 1 _ rfl
 rw [hy0] at h0;rw [hy1] at h1
 simp only [cells2,cells111] at h0 h1
 match cs,hl with
 | [c0,c1],_=>
  obtain ⟨n0,e0,w0⟩:=rd_int2 h0
  obtain ⟨nl,l,v,a1,a2,a3,a4,a5,a6⟩:=rd_sliceG (dp:=dp) (α:=Fc α) (eFc e) (OkFc ok) Tryz.underlying111 cells121 (by omega) (fun _=>rfl) (fun n' cs' x' hn' hx'=>rd_fac HA (by omega) hx') h1
  simp at e0 a4
  subst e0 a4
  exact ⟨⟨n0,nl,l⟩,⟨w0,a1,by simpa [maxLen] using a3,a2⟩,RelL.cons rfl (.i _ _) (RelL.cons a5 a6 RelL.nil)⟩
theorem rd_anns (HA:Rds enc dp w base spare held F e ok):Rds enc dp w base spare held (F+1) (eAn e) (OkAn ok):=by
 intro n cs x hn h
 obtain ⟨nl,l,v,a1,a2,a3,a4,a5,a6⟩:=rd_sliceG (dp:=dp) (α:=Tm α) (eTm e) (OkTm ok) Tryz.underlying49 cells113 (by omega) (fun _=>rfl) (fun n' cs' x' hn' hx'=>rd_term HA (by omega) hx') h
 exact ⟨⟨nl,l⟩,⟨a1,by simpa [maxLen] using a3,a2⟩,v,a4,a5,a6⟩
theorem rd_ann:∀ F,Rds enc dp w base spare held F (eAnn F) (OkAnn F)
 | 0=>fun n cs x hn h=>by
  obtain rfl:n=0:=by omega
  simp [DataW.trod] at h
 | F+1=>rd_anns (rd_ann F)
theorem rd_annArg {r:Reach} {b0:Nat} {v:Value} {d:DataW H} {ps:List MemPlace} (hv:Value.okWide Tryz.prog w r b0 49 v) (h:DataW.Trod enc Tryz.prog w base spare held 49 v d ps) :
  ∃ a:SA,okS a∧Rel dp (there w) [] w v (eS a):=by
 obtain ⟨fuel,h⟩:=h
 have hc:v.cells.toList=[v]:=by
  simp only [Value.okWide,Tryz.underlying49] at hv
  cases v <;> first | rfl | (simp only [Cell.okWide,Tryz.underlying49,Cell.ok] at hv)
 obtain ⟨a,ka,u,eu,_,ru⟩:=rd_ann (dp:=dp) fuel fuel _ _ (Nat.le_refl _) h
 rw [hc] at eu
 injection eu with eu
 subst eu
 exact ⟨⟨fuel,a⟩,ka,ru⟩
end
end Go.Proofs.YtjlmeikcfdanmaaGreatDoor.DE.V

namespace Go.Proofs.YtjlmeikcfdanmaaGreatDoor.DE.V
open Go BT
set_option linter.unusedSimpArgs false
set_option linter.unusedVariables false
theorem v163 (a b:Int):isoCall (call dp) 163 [.i .i64 a,.i .i64 b]=some (.i .i64 (cmpI a b)):=by
 apply i163 _ _ _ rfl rfl
 simp [s163]
 rcases cmpI_cases a b with ⟨h,e⟩ | ⟨h,e⟩ | ⟨h,e⟩ <;> rw [e]
 ·simp [h]
 ·simp [h]
 ·have:¬a<b:=by omega
  simp [h,this]
theorem v170 (r s:Row):isoCall (call dp) 170 [.agg (eRow r),.agg (eRow s)]=some (.i .i64 (orL [cmpI r.1 s.1,cmpI r.2 s.2])):=by
 apply i170 _ _ _ rfl rfl
 simp [s170,v163,orL]
 by_cases h:cmpI r.1 s.1=0
 ·simp [h]
 ·simp [h]
theorem v197 (c:Bool):isoCall (call dp) 197 [.b c]=some (.i .i64 (if c then -1 else 1)):=by
 apply i197 _ _ rfl rfl
 cases c <;> simp [s197]
theorem bin_s_lss (l m:List UInt8):binD .lss .str (.s l) (.s m)=some (.b (Op.bytesLess l m)):=rfl
theorem v172 (a b:Vl):isoCall (call dp) 172 [.agg (eVl a),.agg (eVl b)]=some (.i .i64 (cmpVl a b)):=by
 apply i172 _ _ _ rfl rfl
 unfold cmpVl
 have g:∀ x y:Int,cmpI x y=0↔x=y:=fun x y=>by rcases cmpI_cases x y with ⟨h,e⟩ | ⟨h,e⟩ | ⟨h,e⟩ <;> rw [e] <;> constructor <;> intro h' <;> omega
 have g':∀ x y:Int,¬x=y→cmpI x y=if decide (x<y) then -1 else 1:=fun x y hn=>by
  rcases cmpI_cases x y with ⟨h,e⟩ | ⟨h,e⟩ | ⟨h,e⟩ <;> rw [e]
  ·simp [h]
  ·exact absurd h hn
  ·have:¬x<y:=by omega
   simp [this]
 by_cases h1:a.kind=b.kind
 ·by_cases h2:a.int=b.int
  ·by_cases h3:a.text=b.text
   ·have:Op.bytesLess b.text b.text=false:=by
     generalize b.text=l
     induction l with
     | nil=>rfl
     | cons x l ih=>simp [Op.bytesLess,ih]
    simp [s172,h1,h2,h3,orL,(g _ _).2,cmpB,this]
   ·have hb:(a.text == b.text)=false:=by simpa using h3
    simp [-OX_b,s172,h1,h2,h3,hb,bin_s_lss,v197,orL,(g _ _).2,cmpB]
  ·have z:¬cmpI a.int b.int=0:=fun h=>h2 ((g _ _).1 h)
   have z':=g' _ _ h2
   simp [-OX_b,s172,h1,h2,v197,orL,(g _ _).2,z]
   rw [z']
   by_cases hh:a.int<b.int <;> simp [hh]
 ·have z:¬cmpI a.kind b.kind=0:=fun h=>h1 ((g _ _).1 h)
  have z':=g' _ _ h1
  simp [-OX_b,s172,h1,v197,orL,z]
  rw [z']
  by_cases hh:a.kind<b.kind <;> simp [hh]
theorem cmpL_end {α:Type} (c:α→α→Int) {l m:List α} {k:Nat} (h:l.length≤k∨m.length≤k) (h1:k≤l.length) (h2:k≤m.length):cmpL c (l.drop k) (m.drop k)=cmpI l.length m.length:=by
 rcases Nat.lt_trichotomy l.length m.length with q | q | q
 ·rw [List.drop_eq_nil_of_le (show l.length≤k by omega)]
  obtain ⟨y,hy⟩:=get_lt (l:=m) (k:=k) (by omega)
  rw [drop_get hy,cmpL]
  unfold cmpI;rw [if_pos (by omega)]
 ·rw [List.drop_eq_nil_of_le (show l.length≤k by omega),List.drop_eq_nil_of_le (show m.length≤k by omega),cmpL]
  unfold cmpI;rw [if_neg (by omega),if_neg (by omega)]
 ·rw [List.drop_eq_nil_of_le (show m.length≤k by omega)]
  obtain ⟨y,hy⟩:=get_lt (l:=l) (k:=k) (by omega)
  rw [drop_get hy,cmpL]
  unfold cmpI;rw [if_neg (by omega),if_pos (by omega)]
def CmpsR {α:Type} (e:α→D) (ok:α→Prop) (c:α→α→Int):Prop:=∀ a b,ok a→isoCall (call dp) 171 [e a,e b]=some (.i .i64 (c a b))
section
variable {α:Type} {e:α→D} {ok:α→Prop} {c:α→α→Int}
theorem v169 (he:GE e) (H:CmpsR e ok c) (nl nl':Bool) (l m:List (Vl × α)) (hl:Len63 l.length) (ho:∀ p,p∈l→ok p.2):isoCall (call dp) 169 [eItems e nl l,eItems e nl' m]=some (.i .i64 (cmpL (cmpIt c) l m)):=by
 apply i169 _ _ _ (by simp [noRefL,noRef_eItems he]) rfl
 simp only [s169,strip_eItems]
 let J:Nat→List D→Store→Prop:=fun q fr S=>∃ k b4 b17,fr=mkf 53 [(0,eItems e nl l),(1,eItems e nl' m),(4,b4),(5,.i .i64 (k:Nat)),(17,b17)]∧k+q=l.length∧k≤m.length∧cmpL (cmpIt c) l m=cmpL (cmpIt c) (l.drop k) (m.drop k)
 refine W_loop J ?_ l.length _ _ ⟨0,_,_,rfl,by simp,by omega,by simp⟩
 intro q fr S hJ;obtain ⟨k,b4,b17,hfr,hk,hkm,hc⟩:=hJ;rw [hfr]
 rw [←wp_W,e169_0]
 by_cases hend:l.length≤k∨m.length≤k
 ·rw [cmpL_end _ hend (by omega) hkm] at hc
  have hf:(decide ((k:Int)<l.length)&&decide ((k:Int)<m.length))=false:=by
   rcases hend with h | h
   ·have:¬(k:Int)<l.length:=by omega
    simp [this]
   ·have:¬(k:Int)<m.length:=by omega
    simp [this]
  have h163:=v163 (l.length:Int) (m.length:Int)
  rw [←hc] at h163
  by_cases h1:(k:Int)<l.length
  ·have h2:¬(k:Int)<m.length:=by omega
   have h1':k<l.length:=by omega
   have h2':¬k<m.length:=by omega
   simp [s169_0,h1',h2',e169_r0,s169_r0,h163]
  ·have h1':¬k<l.length:=by omega
   simp [s169_0,h1',e169_r0,s169_r0,h163]
 ·have h1':k<l.length:=by omega
  have h2':k<m.length:=by omega
  obtain ⟨x,hx⟩:=get_lt h1'
  obtain ⟨y,hy⟩:=get_lt h2'
  rw [drop_get hx,drop_get hy,cmpL] at hc
  have ha:isoCall (call dp) 172 [.agg (eVl x.1),.agg (eVl y.1)]=some (.i .i64 (cmpVl x.1 y.1)):=v172 _ _
  have hb:isoCall (call dp) 171 [e x.2,e y.2]=some (.i .i64 (c x.2 y.2)):=H _ _ (ho x (List.mem_of_getElem? hx))
  have hor:cmpIt c x y=if cmpVl x.1 y.1=0 then (if c x.2 y.2=0 then 0 else c x.2 y.2) else cmpVl x.1 y.1:=rfl
  rw [hor] at hc
  by_cases z1:cmpVl x.1 y.1=0
  ·by_cases z2:c x.2 y.2=0
   ·simp only [z1,z2,if_true] at hc
    simp [s169_0,h1',h2',iaD_eItems e _ hx,iaD_eItems e _ hy,ha,hb,z1,z2]
    rw [wrapL (k:=k) h1' hl]
    exact ⟨q-1,by omega,⟨k+1,_,_,rfl,by omega,by omega,hc⟩⟩
   ·simp only [z1,z2,if_true,if_false] at hc
    simp [s169_0,h1',h2',iaD_eItems e _ hx,iaD_eItems e _ hy,ha,hb,z1,z2,hc]
  ·simp only [z1,if_false] at hc
   simp [s169_0,h1',h2',iaD_eItems e _ hx,iaD_eItems e _ hy,ha,hb,z1,hc]
theorem v110 (he:GE e) (H:CmpsR e ok c) (f g:Fc α) (h:OkFc ok f):isoCall (call dp) 110 [.agg (eAt e f),.agg (eAt e g)]=some (.i .i64 (cmpAt c f g)):=by
 have h169:=v169 he H f.inl g.inl f.items g.items h.ilen fun p hp=>(h.items p hp).2
 have h170:=v170 f.row g.row
 have hun:cmpAt c f g=orL [cmpI f.kind g.kind,orL [cmpI f.row.1 g.row.1,cmpI f.row.2 g.row.2],cmpL c f.args g.args,cmpI f.fn g.fn,cmpL (cmpIt c) f.items g.items,cmpI f.op g.op,cmpVl f.bound g.bound]:=by
  simp only [cmpAt,orL]
  by_cases q1:cmpI f.row.1 g.row.1=0 <;> by_cases q2:cmpI f.row.2 g.row.2=0 <;> simp [q1,q2]
 apply i110 _ _ _ (by simp [noRefL,noRef_agAt he]) rfl
 rw [hun]
 generalize hRo:orL [cmpI f.row.1 g.row.1,cmpI f.row.2 g.row.2]=Ro at *
 by_cases z1:cmpI f.kind g.kind=0
 case neg=>simp [s110,v163,z1,orL]
 by_cases z2:Ro=0
 case neg=>simp [s110,v163,z1,h170,z2,orL]
 simp [s110,v163,z1,h170,z2]
 let J:Nat→List D→Store→Prop:=fun q fr S=>∃ k b4 b40,fr=mkf 96 [(2,.bx 0 0),(3,.bx 1 0),(4,b4),(7,.i .i64 (k:Nat)),(40,b40)]∧k+q=f.args.length∧k≤g.args.length∧cmpL c f.args g.args=cmpL c (f.args.drop k) (g.args.drop k)∧sget S 0=some (.box (eAt e f))∧sget S 1=some (.box (eAt e g))
 refine W_loop J ?_ f.args.length _ _ ⟨0,_,_,rfl,by simp,by omega,by simp,rfl,rfl⟩
 intro q fr S hJ;obtain ⟨k,b4,b40,hfr,hk,hkm,hc,hS0,hS1⟩:=hJ;rw [hfr]
 rw [←wp_W,e110_0]
 by_cases hend:f.args.length≤k∨g.args.length≤k
 ·rw [cmpL_end _ hend (by omega) hkm] at hc
  have last:wp (call dp) c110_r0 (mkf 96 [(2,.bx 0 0),(3,.bx 1 0),(4,b4),(7,.i .i64 (k:Nat)),(40,.b false)]) S (FinK [.t 4] fun d _=>stripT d = .i .i64 (orL [0,0,cmpL c f.args g.args,cmpI f.fn g.fn,cmpL (cmpIt c) f.items g.items,cmpI f.op g.op,cmpVl f.bound g.bound])):=by
   have h163:=v163 (f.args.length:Int) (g.args.length:Int)
   rw [←hc] at h163
   generalize cmpL c f.args g.args=A at *
   by_cases y1:A=0
   case neg=>simp [e110_r0,s110_r0,hS0,hS1,h163,y1,orL]
   by_cases y2:cmpI f.fn g.fn=0
   case neg=>simp [e110_r0,s110_r0,hS0,hS1,h163,y1,v163,y2,orL]
   by_cases y3:cmpL (cmpIt c) f.items g.items=0
   case neg=>simp [e110_r0,s110_r0,hS0,hS1,h163,y1,v163,y2,h169,y3,orL]
   by_cases y4:cmpI f.op g.op=0
   case neg=>simp [e110_r0,s110_r0,hS0,hS1,h163,y1,v163,y2,h169,y3,y4,orL]
   simp [e110_r0,s110_r0,hS0,hS1,h163,y1,v163,y2,h169,y3,y4,v172,orL]
  by_cases h1':k<f.args.length
  ·have h2':¬k<g.args.length:=by omega
   simp [s110_0,hS0,hS1,h1',h2']
   exact last
  ·simp [s110_0,hS0,hS1,h1']
   exact last
 ·have h1':k<f.args.length:=by omega
  have h2':k<g.args.length:=by omega
  obtain ⟨x,hx⟩:=get_lt h1'
  obtain ⟨y,hy⟩:=get_lt h2'
  rw [drop_get hx,drop_get hy,cmpL] at hc
  have ha:=H x y (h.args x (List.mem_of_getElem? hx))
  by_cases y1:c x y=0
  ·rw [if_pos y1] at hc
   simp [s110_0,hS0,hS1,h1',h2',iaD_eArgs e _ hx,iaD_eArgs e _ hy,ha,y1]
   rw [wrapL (k:=k) h1' h.alen]
   exact ⟨q-1,by omega,⟨k+1,_,_,rfl,by omega,by omega,hc,hS0,hS1⟩⟩
  ·rw [if_neg y1] at hc
   simp [s110_0,hS0,hS1,h1',h2',iaD_eArgs e _ hx,iaD_eArgs e _ hy,ha,y1,hc,orL]
theorem v108 (he:GE e) (H:CmpsR e ok c) (nl nl':Bool) (l m:List (Fc α)) (hl:Len63 l.length) (ho:∀ p,p∈l→OkFc ok p):isoCall (call dp) 108 [eFcs e nl l,eFcs e nl' m]=some (.i .i64 (cmpL (cmpFc c) l m)):=by
 apply i108 _ _ _ (by simp [noRefL,noRef_eFcs he]) rfl
 simp only [s108,strip_eFcs]
 let J:Nat→List D→Store→Prop:=fun q fr S=>∃ k b4 b17,fr=mkf 53 [(0,eFcs e nl l),(1,eFcs e nl' m),(4,b4),(5,.i .i64 (k:Nat)),(17,b17)]∧k+q=l.length∧k≤m.length∧cmpL (cmpFc c) l m=cmpL (cmpFc c) (l.drop k) (m.drop k)
 refine W_loop J ?_ l.length _ _ ⟨0,_,_,rfl,by simp,by omega,by simp⟩
 intro q fr S hJ;obtain ⟨k,b4,b17,hfr,hk,hkm,hc⟩:=hJ;rw [hfr]
 rw [←wp_W,e108_0]
 by_cases hend:l.length≤k∨m.length≤k
 ·rw [cmpL_end _ hend (by omega) hkm] at hc
  have hf:(decide ((k:Int)<l.length)&&decide ((k:Int)<m.length))=false:=by
   rcases hend with h | h
   ·have:¬(k:Int)<l.length:=by omega
    simp [this]
   ·have:¬(k:Int)<m.length:=by omega
    simp [this]
  have h163:=v163 (l.length:Int) (m.length:Int)
  rw [←hc] at h163
  by_cases h1:(k:Int)<l.length
  ·have h2:¬(k:Int)<m.length:=by omega
   have h1':k<l.length:=by omega
   have h2':¬k<m.length:=by omega
   simp [s108_0,h1',h2',e108_r0,s108_r0,h163]
  ·have h1':¬k<l.length:=by omega
   simp [s108_0,h1',e108_r0,s108_r0,h163]
 ·have h1':k<l.length:=by omega
  have h2':k<m.length:=by omega
  obtain ⟨x,hx⟩:=get_lt h1'
  obtain ⟨y,hy⟩:=get_lt h2'
  rw [drop_get hx,drop_get hy,cmpL] at hc
  have ha:isoCall (call dp) 110 [.agg (eAt e x),.agg (eAt e y)]=some (.i .i64 (cmpAt c x y)):=v110 he H x y (ho x (List.mem_of_getElem? hx))
  have hb:isoCall (call dp) 163 [.i .i64 x.exp,.i .i64 y.exp]=some (.i .i64 (cmpI x.exp y.exp)):=v163 _ _
  have hor:cmpFc c x y=if cmpAt c x y=0 then (if cmpI x.exp y.exp=0 then 0 else cmpI x.exp y.exp) else cmpAt c x y:=rfl
  rw [hor] at hc
  by_cases z1:cmpAt c x y=0
  ·by_cases z2:cmpI x.exp y.exp=0
   ·simp only [z1,z2,if_true] at hc
    simp [s108_0,h1',h2',iaD_eFcs e _ hx,iaD_eFcs e _ hy,ha,hb,z1,z2]
    rw [wrapL (k:=k) h1' hl]
    exact ⟨q-1,by omega,⟨k+1,_,_,rfl,by omega,by omega,hc⟩⟩
   ·simp only [z1,z2,if_true,if_false] at hc
    simp [s108_0,h1',h2',iaD_eFcs e _ hx,iaD_eFcs e _ hy,ha,hb,z1,z2,hc]
  ·simp only [z1,if_false] at hc
   simp [s108_0,h1',h2',iaD_eFcs e _ hx,iaD_eFcs e _ hy,ha,hb,z1,hc]
theorem v171s (he:GE e) (H:CmpsR e ok c):CmpsR (eAn e) (OkAn ok) (cmpAn c):=by
 intro a b hab
 obtain ⟨nl,l⟩:=a
 obtain ⟨nl',m⟩:=b
 have hl:Len63 l.length:=hab.len
 have ho:∀ t,t∈l→OkTm ok t:=hab.ts
 show isoCall (call dp) 171 [eTms e nl l,eTms e nl' m]=some (.i .i64 (cmpL (cmpTm c) l m))
 apply i171 _ _ _ (by simp [noRefL,noRef_eTms he]) rfl
 simp only [s171,strip_eTms]
 let J:Nat→List D→Store→Prop:=fun q fr S=>∃ k b4 b17,fr=mkf 53 [(0,eTms e nl l),(1,eTms e nl' m),(4,b4),(5,.i .i64 (k:Nat)),(17,b17)]∧k+q=l.length∧k≤m.length∧cmpL (cmpTm c) l m=cmpL (cmpTm c) (l.drop k) (m.drop k)
 refine W_loop J ?_ l.length _ _ ⟨0,_,_,rfl,by simp,by omega,by simp⟩
 intro q fr S hJ;obtain ⟨k,b4,b17,hfr,hk,hkm,hc⟩:=hJ;rw [hfr]
 rw [←wp_W,e171_0]
 by_cases hend:l.length≤k∨m.length≤k
 ·rw [cmpL_end _ hend (by omega) hkm] at hc
  have hf:(decide ((k:Int)<l.length)&&decide ((k:Int)<m.length))=false:=by
   rcases hend with h | h
   ·have:¬(k:Int)<l.length:=by omega
    simp [this]
   ·have:¬(k:Int)<m.length:=by omega
    simp [this]
  have h163:=v163 (l.length:Int) (m.length:Int)
  rw [←hc] at h163
  by_cases h1:(k:Int)<l.length
  ·have h2:¬(k:Int)<m.length:=by omega
   have h1':k<l.length:=by omega
   have h2':¬k<m.length:=by omega
   simp [s171_0,h1',h2',e171_r0,s171_r0,h163]
  ·have h1':¬k<l.length:=by omega
   simp [s171_0,h1',e171_r0,s171_r0,h163]
 ·have h1':k<l.length:=by omega
  have h2':k<m.length:=by omega
  obtain ⟨x,hx⟩:=get_lt h1'
  obtain ⟨y,hy⟩:=get_lt h2'
  rw [drop_get hx,drop_get hy,cmpL] at hc
  have ha:isoCall (call dp) 108 [eFcs e x.nl x.fs,eFcs e y.nl y.fs]=some (.i .i64 (cmpTl c x y)):=v108 he H _ _ _ _ (ho x (List.mem_of_getElem? hx)).len (ho x (List.mem_of_getElem? hx)).fs
  have hb:isoCall (call dp) 163 [.i .i64 x.c,.i .i64 y.c]=some (.i .i64 (cmpI x.c y.c)):=v163 _ _
  have hor:cmpTm c x y=if cmpTl c x y=0 then (if cmpI x.c y.c=0 then 0 else cmpI x.c y.c) else cmpTl c x y:=rfl
  rw [hor] at hc
  by_cases z1:cmpTl c x y=0
  ·by_cases z2:cmpI x.c y.c=0
   ·simp only [z1,z2,if_true] at hc
    simp [s171_0,h1',h2',iaD_eTms e _ hx,iaD_eTms e _ hy,ha,hb,z1,z2]
    rw [wrapL (k:=k) h1' hl]
    exact ⟨q-1,by omega,⟨k+1,_,_,rfl,by omega,by omega,hc⟩⟩
   ·simp only [z1,z2,if_true,if_false] at hc
    simp [s171_0,h1',h2',iaD_eTms e _ hx,iaD_eTms e _ hy,ha,hb,z1,z2,hc]
  ·simp only [z1,if_false] at hc
   simp [s171_0,h1',h2',iaD_eTms e _ hx,iaD_eTms e _ hy,ha,hb,z1,hc]
end
theorem v171:∀ n,CmpsR (eAnn n) (OkAnn n) (cmpAnn n)
 | 0=>fun x=>nomatch x
 | n+1=>v171s (GE_eAnn n) (v171 n)
end Go.Proofs.YtjlmeikcfdanmaaGreatDoor.DE.V

namespace Go.Proofs.YtjlmeikcfdanmaaGreatDoor.DE.V
open Go BT
set_option linter.unusedSimpArgs false
set_option linter.unusedVariables false
def SizesR {α:Type} (e:α→D) (ok:α→Prop) (w s:α→Nat):Prop:=∀ a,ok a→w a≤40→isoCall (call dp) 162 [e a]=some (.i .i64 (s a))
def NestsR {α:Type} (e:α→D) (ok:α→Prop) (w d:α→Nat):Prop:=∀ a,ok a→w a≤40→isoCall (call dp) 161 [e a]=some (.i .i64 (d a))
set_option maxHeartbeats 1000000 in
theorem v162s {α:Type} {e:α→D} {ok:α→Prop} {w s:α→Nat} (he:GE e) (hsw:∀ a,s a≤w a) (H:SizesR e ok w s):SizesR (eAn e) (OkAn ok) (wAn w) (szAn s):=by
 intro x hx hw
 have hsz:=szAn_le hsw x
 have hlen:=wLe_ts hw
 apply i162 _ _ (by simp [noRefL,noRef_eAn he]) rfl
 simp only [s162,strip_eAn]
 let J:Nat→List D→Store→Prop:=fun q fr S=>∃ k m b2 b5 b6 b7 b8 b12 b24 b42 b57,fr=mkf 71 [(0,eAn e x),(2,b2),(3,.i .i64 (m:Nat)),(4,.i .i64 (k:Nat)),(5,b5),(6,b6),(7,b7),(8,b8),(12,b12),(24,b24),(42,b42),(57,b57)]∧k+q=x.ts.length∧m=sumT (szTm s) x.ts k
 refine W_loop J ?_ x.ts.length _ _ ⟨0,0,_,_,_,_,_,_,_,_,_,rfl,by simp,by simp [sumT]⟩
 intro q fr S hJ;obtain ⟨k,m,b2,b5,b6,b7,b8,b12,b24,b42,b57,hfr,hk,hm⟩:=hJ;rw [hfr]
 rw [←wp_W,e162_3]
 simp [s162_3]
 split
 ·rename_i h
  obtain ⟨t,ht⟩:=get_lt (l:=x.ts) (k:=k) (by omega)
  have htm:=List.mem_of_getElem? ht
  have hot:=hx.ts t htm
  have hwt:=wLe_tm hw htm
  have hfl:=wLe_fs hwt
  have htot:m+szTm s t≤40:=by
   have:=sumT_le (szTm s) x.ts (k+1)
   rw [sumT_succ _ ht] at this
   unfold szAn at hsz;omega
  have hst:szTm s t=1+t.fs.length+(t.fs.map (szFc s)).sum:=rfl
  have hso:=sum_one (szFc s) t.fs
  rw [wrapS (k:=m) (by unfold Bd;omega)]
  obtain ⟨B,hB⟩:∃ B,B=m+1:=⟨_,rfl⟩
  rw [←hB]
  let J2:Nat→List D→Store→Prop:=fun q fr S=>∃ i m2 b2 b6 b7 b8 b12 b24 b42 b57,fr=mkf 71 [(0,eAn e x),(2,b2),(3,.i .i64 (m2:Nat)),(4,.i .i64 (k:Nat)),(5,.i .i64 (i:Nat)),(6,b6),(7,b7),(8,b8),(12,b12),(24,b24),(42,b42),(57,b57)]∧i+q=t.fs.length∧m2=B+sumT (fun f=>1+szFc s f) t.fs i
  refine W_loop J2 ?_ t.fs.length _ _ ⟨0,_,_,_,_,_,_,_,_,_,rfl,by simp,by simp [sumT]⟩
  intro q2 fr S hJ;obtain ⟨i,m2,b2,b6,b7,b8,b12,b24,b42,b57,hfr,hi,hm2⟩:=hJ;rw [hfr]
  rw [←wp_W,e162_2]
  simp [s162_2,iaD_eAn e _ ht]
  split
  ·rename_i h2
   obtain ⟨f,hf⟩:=get_lt (l:=t.fs) (k:=i) (by omega)
   have hfm:=List.mem_of_getElem? hf
   have hof:=hot.fs f hfm
   have hwf:=wLe_fc hwt hfm
   have hal:=wLe_args hwf
   have hil:=wLe_items hwf
   have htot2:m2+(1+szFc s f)≤41:=by
    have:=sumT_le (fun f=>1+szFc s f) t.fs (i+1)
    rw [sumT_succ _ hf] at this
    omega
   have hsf:szFc s f=(f.args.map s).sum+(f.items.map (szIt s)).sum:=rfl
   simp [iaD_eFcs e _ hf]
   rw [wrapS (k:=m2) (by unfold Bd;omega)]
   obtain ⟨B2,hB2⟩:∃ B2,B2=m2+1:=⟨_,rfl⟩
   rw [←hB2]
   obtain ⟨id,hid⟩:∃ id,id=S.length:=⟨_,rfl⟩
   rw [←hid]
   let J3:Nat→List D→Store→Prop:=fun q fr S=>∃ j m3 b2 b8 b12 b24 b42 b57,fr=mkf 71 [(0,eAn e x),(2,b2),(3,.i .i64 (m3:Nat)),(4,.i .i64 (k:Nat)),(5,.i .i64 (i:Nat)),(6,.bx id 0),(7,.i .i64 (j:Nat)),(8,b8),(12,b12),(24,b24),(42,b42),(57,b57)]∧j+q=f.args.length∧sget S id=some (.box (eAt e f))∧m3=B2+sumT s f.args j
   refine W_loop J3 ?_ f.args.length _ _ ⟨0,_,_,_,_,_,_,_,rfl,by simp,by simp [hid],by simp [sumT]⟩
   intro q3 fr S hJ;obtain ⟨j,m3,b2,b8,b12,b24,b42,b57,hfr,hj,hS,hm3⟩:=hJ;rw [hfr]
   rw [←wp_W,e162_1]
   simp [s162_1,hS]
   split
   ·rename_i h3
    obtain ⟨a,ha⟩:=get_lt (l:=f.args) (k:=j) (by omega)
    have ham:=List.mem_of_getElem? ha
    have hc:=H a (hof.args a ham) (wLe_arg hwf ham)
    have htot3:sumT s f.args (j+1)≤(f.args.map s).sum:=sumT_le s f.args (j+1)
    rw [sumT_succ _ ha] at htot3
    simp [iaD_eArgs e _ ha,hc]
    rw [wrapA (by unfold Bd;omega),wrapL (k:=j) h3 hof.alen]
    exact ⟨q3-1,by omega,⟨j+1,_,_,_,_,_,_,_,rfl,by omega,hS,by rw [sumT_succ _ ha];omega⟩⟩
   ·simp [e162_r0,s162_r0]
    have hje:=sumT_all s (show f.args.length≤j by omega)
    rw [hje] at hm3
    let J4:Nat→List D→Store→Prop:=fun q fr S=>∃ j4 m4 b2 b7 b12 b24 b42 b57,fr=mkf 71 [(0,eAn e x),(2,b2),(3,.i .i64 (m4:Nat)),(4,.i .i64 (k:Nat)),(5,.i .i64 (i:Nat)),(6,.bx id 0),(7,b7),(8,.i .i64 (j4:Nat)),(12,b12),(24,b24),(42,b42),(57,b57)]∧j4+q=f.items.length∧sget S id=some (.box (eAt e f))∧m4=m3+sumT (szIt s) f.items j4
    refine W_loop J4 ?_ f.items.length _ _ ⟨0,_,_,_,_,_,_,_,rfl,by simp,hS,by simp [sumT]⟩
    intro q4 fr S hJ;obtain ⟨j4,m4,b2,b7,b12,b24,b42,b57,hfr,hj4,hS4,hm4⟩:=hJ;rw [hfr]
    rw [←wp_W,e162_0]
    simp [s162_0,hS4]
    split
    ·rename_i h4
     obtain ⟨p,hp⟩:=get_lt (l:=f.items) (k:=j4) (by omega)
     have hpm:=List.mem_of_getElem? hp
     have hc:=H p.2 (hof.items p hpm).2 (wLe_item hwf hpm)
     have htot3:sumT (szIt s) f.items (j4+1)≤(f.items.map (szIt s)).sum:=sumT_le (szIt s) f.items (j4+1)
     rw [sumT_succ _ hp] at htot3
     have hsi:szIt s p=1+s p.2:=rfl
     rw [wrapS (k:=m4) (by unfold Bd;omega)]
     simp [iaD_eItems e _ hp,hc]
     rw [show IntKind.i64.wrap ((m4:Int)+1+(s p.2:Int))=((m4+1+s p.2:Nat):Int) from by rw [wrap64 ⟨by omega,by omega⟩];omega,wrapL (k:=j4) h4 hof.ilen]
     exact ⟨q4-1,by omega,⟨j4+1,_,_,_,_,_,_,_,rfl,by omega,hS4,by rw [sumT_succ _ hp];omega⟩⟩
    ·simp [e162_r1,s162_r1]
     have hje:=sumT_all (szIt s) (show f.items.length≤j4 by omega)
     rw [hje] at hm4
     rw [wrapL (k:=i) h2 hot.len]
     exact ⟨q2-1,by omega,⟨i+1,_,_,_,_,_,_,_,_,_,rfl,by omega,by rw [sumT_succ _ hf,hsf];omega⟩⟩
  ·simp [e162_r2,s162_r2]
   have hje:=sumT_all (fun f=>1+szFc s f) (show t.fs.length≤i by omega)
   rw [hje,hso] at hm2
   rw [wrapL (k:=k) h hx.len]
   exact ⟨q-1,by omega,⟨k+1,_,_,_,_,_,_,_,_,_,_,rfl,by omega,by rw [sumT_succ _ ht];omega⟩⟩
 ·have hje:=sumT_all (szTm s) (show x.ts.length≤k by omega)
  rw [hje] at hm
  simp [e162_r3,s162_r3,szAn,hm]
set_option maxHeartbeats 1000000 in
theorem v162t_s {α:Type} {e:α→D} {ok:α→Prop} (he:GE e) (H:EndI 162 e ok):EndI 162 (eAn e) (OkAn ok):=by
 intro x hx
 suffices hh:∃ d,isoCall (call dp) 162 [eAn e x]=some d∧∃ z:Int,d = .i .i64 z by
  obtain ⟨d,h1,z,rfl⟩:=hh
  exact ⟨z,h1⟩
 apply j162 _ _ (by simp [noRefL,noRef_eAn he]) (by rintro d ⟨z,rfl⟩;rfl)
 simp only [s162,strip_eAn]
 let J:Nat→List D→Store→Prop:=fun q fr S=>∃ k m b2 b5 b6 b7 b8 b12 b24 b42 b57,fr=mkf 71 [(0,eAn e x),(2,b2),(3,.i .i64 (m:Int)),(4,.i .i64 (k:Nat)),(5,b5),(6,b6),(7,b7),(8,b8),(12,b12),(24,b24),(42,b42),(57,b57)]∧k+q=x.ts.length
 refine W_loop J ?_ x.ts.length _ _ ⟨0,_,_,_,_,_,_,_,_,_,_,rfl,by simp⟩
 intro q fr S hJ;obtain ⟨k,m,b2,b5,b6,b7,b8,b12,b24,b42,b57,hfr,hk⟩:=hJ;rw [hfr]
 rw [←wp_W,e162_3]
 simp [s162_3]
 split
 ·rename_i h
  obtain ⟨t,ht⟩:=get_lt (l:=x.ts) (k:=k) (by omega)
  have htm:=List.mem_of_getElem? ht
  have hot:=hx.ts t htm
  let J2:Nat→List D→Store→Prop:=fun q fr S=>∃ i m2 b2 b6 b7 b8 b12 b24 b42 b57,fr=mkf 71 [(0,eAn e x),(2,b2),(3,.i .i64 (m2:Int)),(4,.i .i64 (k:Nat)),(5,.i .i64 (i:Nat)),(6,b6),(7,b7),(8,b8),(12,b12),(24,b24),(42,b42),(57,b57)]∧i+q=t.fs.length
  refine W_loop J2 ?_ t.fs.length _ _ ⟨0,_,_,_,_,_,_,_,_,_,rfl,by simp⟩
  intro q2 fr S hJ;obtain ⟨i,m2,b2,b6,b7,b8,b12,b24,b42,b57,hfr,hi⟩:=hJ;rw [hfr]
  rw [←wp_W,e162_2]
  simp [s162_2,iaD_eAn e _ ht]
  split
  ·rename_i h2
   obtain ⟨f,hf⟩:=get_lt (l:=t.fs) (k:=i) (by omega)
   have hfm:=List.mem_of_getElem? hf
   have hof:=hot.fs f hfm
   simp [iaD_eFcs e _ hf]
   obtain ⟨id,hid⟩:∃ id,id=S.length:=⟨_,rfl⟩
   rw [←hid]
   let J3:Nat→List D→Store→Prop:=fun q fr S=>∃ j m3 b2 b8 b12 b24 b42 b57,fr=mkf 71 [(0,eAn e x),(2,b2),(3,.i .i64 (m3:Int)),(4,.i .i64 (k:Nat)),(5,.i .i64 (i:Nat)),(6,.bx id 0),(7,.i .i64 (j:Nat)),(8,b8),(12,b12),(24,b24),(42,b42),(57,b57)]∧j+q=f.args.length∧sget S id=some (.box (eAt e f))
   refine W_loop J3 ?_ f.args.length _ _ ⟨0,_,_,_,_,_,_,_,rfl,by simp,by simp [hid]⟩
   intro q3 fr S hJ;obtain ⟨j,m3,b2,b8,b12,b24,b42,b57,hfr,hj,hS⟩:=hJ;rw [hfr]
   rw [←wp_W,e162_1]
   simp [s162_1,hS]
   split
   ·rename_i h3
    obtain ⟨a,ha⟩:=get_lt (l:=f.args) (k:=j) (by omega)
    have ham:=List.mem_of_getElem? ha
    obtain ⟨z,hc⟩:=H a (hof.args a ham)
    simp [iaD_eArgs e _ ha,hc]
    rw [wrapL (k:=j) h3 hof.alen]
    exact ⟨q3-1,by omega,⟨j+1,_,_,_,_,_,_,_,rfl,by omega,hS⟩⟩
   ·simp [e162_r0,s162_r0]
    let J4:Nat→List D→Store→Prop:=fun q fr S=>∃ j4 m4 b2 b7 b12 b24 b42 b57,fr=mkf 71 [(0,eAn e x),(2,b2),(3,.i .i64 (m4:Int)),(4,.i .i64 (k:Nat)),(5,.i .i64 (i:Nat)),(6,.bx id 0),(7,b7),(8,.i .i64 (j4:Nat)),(12,b12),(24,b24),(42,b42),(57,b57)]∧j4+q=f.items.length∧sget S id=some (.box (eAt e f))
    refine W_loop J4 ?_ f.items.length _ _ ⟨0,_,_,_,_,_,_,_,rfl,by simp,hS⟩
    intro q4 fr S hJ;obtain ⟨j4,m4,b2,b7,b12,b24,b42,b57,hfr,hj4,hS4⟩:=hJ;rw [hfr]
    rw [←wp_W,e162_0]
    simp [s162_0,hS4]
    split
    ·rename_i h4
     obtain ⟨p,hp⟩:=get_lt (l:=f.items) (k:=j4) (by omega)
     have hpm:=List.mem_of_getElem? hp
     obtain ⟨z,hc⟩:=H p.2 (hof.items p hpm).2
     simp [iaD_eItems e _ hp,hc]
     rw [wrapL (k:=j4) h4 hof.ilen]
     exact ⟨q4-1,by omega,⟨j4+1,_,_,_,_,_,_,_,rfl,by omega,hS4⟩⟩
    ·simp [e162_r1,s162_r1]
     rw [wrapL (k:=i) h2 hot.len]
     exact ⟨q2-1,by omega,⟨i+1,_,_,_,_,_,_,_,_,_,rfl,by omega⟩⟩
  ·simp [e162_r2,s162_r2]
   rw [wrapL (k:=k) h hx.len]
   exact ⟨q-1,by omega,⟨k+1,_,_,_,_,_,_,_,_,_,_,rfl,by omega⟩⟩
 ·simp [e162_r3,s162_r3]
set_option maxHeartbeats 1000000 in
theorem v161s {α:Type} {e:α→D} {ok:α→Prop} {w d:α→Nat} (he:GE e) (hdw:∀ a,d a≤w a) (H:NestsR e ok w d):NestsR (eAn e) (OkAn ok) (wAn w) (neAn d):=by
 intro x hx hw
 have hlen:=wLe_ts hw
 apply i161 _ _ (by simp [noRefL,noRef_eAn he]) rfl
 simp only [s161,strip_eAn]
 let J:Nat→List D→Store→Prop:=fun q fr S=>∃ k m b2 b5 b6 b7 b8 b9 b13 b23 b37 b42 b58,fr=mkf 75 [(0,eAn e x),(2,b2),(3,.i .i64 (m:Nat)),(4,.i .i64 (k:Nat)),(5,b5),(6,b6),(7,b7),(8,b8),(9,b9),(13,b13),(23,b23),(37,b37),(42,b42),(58,b58)]∧k+q=x.ts.length∧m=maxT (neTm d) x.ts k
 refine W_loop J ?_ x.ts.length _ _ ⟨0,0,_,_,_,_,_,_,_,_,_,_,_,rfl,by simp,by simp [maxT,maxL]⟩
 intro q fr S hJ;obtain ⟨k,m,b2,b5,b6,b7,b8,b9,b13,b23,b37,b42,b58,hfr,hk,hm⟩:=hJ;rw [hfr]
 rw [←wp_W,e161_3]
 simp [s161_3]
 split
 ·rename_i h
  obtain ⟨t,ht⟩:=get_lt (l:=x.ts) (k:=k) (by omega)
  have htm:=List.mem_of_getElem? ht
  have hot:=hx.ts t htm
  have hwt:=wLe_tm hw htm
  have hfl:=wLe_fs hwt
  have hst:neTm d t=maxL (neFc d) t.fs:=rfl
  let J2:Nat→List D→Store→Prop:=fun q fr S=>∃ i m2 b2 b6 b7 b8 b9 b13 b23 b37 b42 b58,fr=mkf 75 [(0,eAn e x),(2,b2),(3,.i .i64 (m2:Nat)),(4,.i .i64 (k:Nat)),(5,.i .i64 (i:Nat)),(6,b6),(7,b7),(8,b8),(9,b9),(13,b13),(23,b23),(37,b37),(42,b42),(58,b58)]∧i+q=t.fs.length∧m2=max m (maxT (neFc d) t.fs i)
  refine W_loop J2 ?_ t.fs.length _ _ ⟨0,_,_,_,_,_,_,_,_,_,_,_,rfl,by simp,by simp [maxT,maxL]⟩
  intro q2 fr S hJ;obtain ⟨i,m2,b2,b6,b7,b8,b9,b13,b23,b37,b42,b58,hfr,hi,hm2⟩:=hJ;rw [hfr]
  rw [←wp_W,e161_2]
  simp [s161_2,iaD_eAn e _ ht]
  split
  ·rename_i h2
   obtain ⟨f,hf⟩:=get_lt (l:=t.fs) (k:=i) (by omega)
   have hfm:=List.mem_of_getElem? hf
   have hof:=hot.fs f hfm
   have hwf:=wLe_fc hwt hfm
   simp [iaD_eFcs e _ hf]
   obtain ⟨id,hid⟩:∃ id,id=S.length:=⟨_,rfl⟩
   rw [←hid]
   split
   ·rename_i h0
    simp [s161_r2]
    rw [wrapL (k:=i) h2 hot.len]
    exact ⟨q2-1,by omega,⟨i+1,_,_,_,_,_,_,_,_,_,_,_,rfl,by omega,by rw [maxT_succ _ hf,neFc,if_pos h0];omega⟩⟩
   ·rename_i h0
    have hsf:neFc d f=1+max (maxL d f.args) (maxL (neIt d) f.items):=by rw [neFc,if_neg h0]
    let J3:Nat→List D→Store→Prop:=fun q fr S=>∃ j m3 b2 b9 b13 b23 b37 b42 b58,fr=mkf 75 [(0,eAn e x),(2,b2),(3,.i .i64 (m2:Nat)),(4,.i .i64 (k:Nat)),(5,.i .i64 (i:Nat)),(6,.bx id 0),(7,.i .i64 (m3:Nat)),(8,.i .i64 (j:Nat)),(9,b9),(13,b13),(23,b23),(37,b37),(42,b42),(58,b58)]∧j+q=f.args.length∧sget S id=some (.box (eAt e f))∧m3=1+maxT d f.args j
    refine W_loop J3 ?_ f.args.length _ _ ⟨0,1,_,_,_,_,_,_,_,rfl,by simp,by simp [hid],by simp [maxT,maxL]⟩
    intro q3 fr S hJ;obtain ⟨j,m3,b2,b9,b13,b23,b37,b42,b58,hfr,hj,hS,hm3⟩:=hJ;rw [hfr]
    rw [←wp_W,e161_1]
    simp [s161_1,hS]
    split
    ·rename_i h3
     obtain ⟨a,ha⟩:=get_lt (l:=f.args) (k:=j) (by omega)
     have ham:=List.mem_of_getElem? ha
     have hc:=H a (hof.args a ham) (wLe_arg hwf ham)
     have hda:=hdw a
     have hwa:=wLe_arg hwf ham
     simp [iaD_eArgs e _ ha,hc]
     rw [wrap1 (by unfold Bd;omega),mx_nat]
     simp only [OX_some,bin_add]
     rw [wrapL (k:=j) h3 hof.alen]
     exact ⟨q3-1,by omega,⟨j+1,_,_,_,_,_,_,_,_,rfl,by omega,hS,by rw [maxT_succ _ ha];omega⟩⟩
    ·simp [e161_r1,s161_r1]
     have hje:=maxT_all d (show f.args.length≤j by omega)
     rw [hje] at hm3
     let J4:Nat→List D→Store→Prop:=fun q fr S=>∃ j4 m4 b2 b8 b13 b23 b37 b42 b58,fr=mkf 75 [(0,eAn e x),(2,b2),(3,.i .i64 (m2:Nat)),(4,.i .i64 (k:Nat)),(5,.i .i64 (i:Nat)),(6,.bx id 0),(7,.i .i64 (m4:Nat)),(8,b8),(9,.i .i64 (j4:Nat)),(13,b13),(23,b23),(37,b37),(42,b42),(58,b58)]∧j4+q=f.items.length∧sget S id=some (.box (eAt e f))∧m4=max m3 (1+maxT (neIt d) f.items j4)
     refine W_loop J4 ?_ f.items.length _ _ ⟨0,_,_,_,_,_,_,_,_,rfl,by simp,hS,by simp [maxT,maxL];omega⟩
     intro q4 fr S hJ;obtain ⟨j4,m4,b2,b8,b13,b23,b37,b42,b58,hfr,hj4,hS4,hm4⟩:=hJ;rw [hfr]
     rw [←wp_W,e161_0]
     simp [s161_0,hS4]
     split
     ·rename_i h4
      obtain ⟨p,hp⟩:=get_lt (l:=f.items) (k:=j4) (by omega)
      have hpm:=List.mem_of_getElem? hp
      have hc:=H p.2 (hof.items p hpm).2 (wLe_item hwf hpm)
      have hda:=hdw p.2
      have hwa:=wLe_item hwf hpm
      have hsi:neIt d p=d p.2:=rfl
      simp [iaD_eItems e _ hp,hc]
      rw [wrap1 (by unfold Bd;omega),mx_nat]
      simp only [OX_some,bin_add]
      rw [wrapL (k:=j4) h4 hof.ilen]
      exact ⟨q4-1,by omega,⟨j4+1,_,_,_,_,_,_,_,_,rfl,by omega,hS4,by rw [maxT_succ _ hp];omega⟩⟩
     ·have hje:=maxT_all (neIt d) (show f.items.length≤j4 by omega)
      rw [hje] at hm4
      simp [e161_r0,s161_r0,mx_nat,e161_r2,s161_r2]
      rw [wrapL (k:=i) h2 hot.len]
      exact ⟨q2-1,by omega,⟨i+1,_,_,_,_,_,_,_,_,_,_,_,rfl,by omega,by rw [maxT_succ _ hf,hsf];omega⟩⟩
  ·simp [e161_r3,s161_r3]
   have hje:=maxT_all (neFc d) (show t.fs.length≤i by omega)
   rw [hje] at hm2
   rw [wrapL (k:=k) h hx.len]
   exact ⟨q-1,by omega,⟨k+1,_,_,_,_,_,_,_,_,_,_,_,_,rfl,by omega,by rw [maxT_succ _ ht];omega⟩⟩
 ·have hje:=maxT_all (neTm d) (show x.ts.length≤k by omega)
  rw [hje] at hm
  simp [e161_r4,s161_r4,neAn,hm]
set_option maxHeartbeats 1000000 in
theorem v161t_s {α:Type} {e:α→D} {ok:α→Prop} (he:GE e) (H:EndI 161 e ok):EndI 161 (eAn e) (OkAn ok):=by
 intro x hx
 suffices hh:∃ d,isoCall (call dp) 161 [eAn e x]=some d∧∃ z:Int,d = .i .i64 z by
  obtain ⟨d,h1,z,rfl⟩:=hh
  exact ⟨z,h1⟩
 apply j161 _ _ (by simp [noRefL,noRef_eAn he]) (by rintro d ⟨z,rfl⟩;rfl)
 simp only [s161,strip_eAn]
 let J:Nat→List D→Store→Prop:=fun q fr S=>∃ k m b2 b5 b6 b7 b8 b9 b13 b23 b37 b42 b58,fr=mkf 75 [(0,eAn e x),(2,b2),(3,.i .i64 (m:Int)),(4,.i .i64 (k:Nat)),(5,b5),(6,b6),(7,b7),(8,b8),(9,b9),(13,b13),(23,b23),(37,b37),(42,b42),(58,b58)]∧k+q=x.ts.length
 refine W_loop J ?_ x.ts.length _ _ ⟨0,_,_,_,_,_,_,_,_,_,_,_,_,rfl,by simp⟩
 intro q fr S hJ;obtain ⟨k,m,b2,b5,b6,b7,b8,b9,b13,b23,b37,b42,b58,hfr,hk⟩:=hJ;rw [hfr]
 rw [←wp_W,e161_3]
 simp [s161_3]
 split
 ·rename_i h
  obtain ⟨t,ht⟩:=get_lt (l:=x.ts) (k:=k) (by omega)
  have htm:=List.mem_of_getElem? ht
  have hot:=hx.ts t htm
  let J2:Nat→List D→Store→Prop:=fun q fr S=>∃ i m2 b2 b6 b7 b8 b9 b13 b23 b37 b42 b58,fr=mkf 75 [(0,eAn e x),(2,b2),(3,.i .i64 (m2:Int)),(4,.i .i64 (k:Nat)),(5,.i .i64 (i:Nat)),(6,b6),(7,b7),(8,b8),(9,b9),(13,b13),(23,b23),(37,b37),(42,b42),(58,b58)]∧i+q=t.fs.length
  refine W_loop J2 ?_ t.fs.length _ _ ⟨0,_,_,_,_,_,_,_,_,_,_,_,rfl,by simp⟩
  intro q2 fr S hJ;obtain ⟨i,m2,b2,b6,b7,b8,b9,b13,b23,b37,b42,b58,hfr,hi⟩:=hJ;rw [hfr]
  rw [←wp_W,e161_2]
  simp [s161_2,iaD_eAn e _ ht]
  split
  ·rename_i h2
   obtain ⟨f,hf⟩:=get_lt (l:=t.fs) (k:=i) (by omega)
   have hfm:=List.mem_of_getElem? hf
   have hof:=hot.fs f hfm
   simp [iaD_eFcs e _ hf]
   obtain ⟨id,hid⟩:∃ id,id=S.length:=⟨_,rfl⟩
   rw [←hid]
   split
   ·rename_i h0
    simp [s161_r2]
    rw [wrapL (k:=i) h2 hot.len]
    exact ⟨q2-1,by omega,⟨i+1,_,_,_,_,_,_,_,_,_,_,_,rfl,by omega⟩⟩
   ·rename_i h0
    let J3:Nat→List D→Store→Prop:=fun q fr S=>∃ j m3 b2 b9 b13 b23 b37 b42 b58,fr=mkf 75 [(0,eAn e x),(2,b2),(3,.i .i64 (m2:Int)),(4,.i .i64 (k:Nat)),(5,.i .i64 (i:Nat)),(6,.bx id 0),(7,.i .i64 (m3:Int)),(8,.i .i64 (j:Nat)),(9,b9),(13,b13),(23,b23),(37,b37),(42,b42),(58,b58)]∧j+q=f.args.length∧sget S id=some (.box (eAt e f))
    refine W_loop J3 ?_ f.args.length _ _ ⟨0,_,_,_,_,_,_,_,_,rfl,by simp,by simp [hid]⟩
    intro q3 fr S hJ;obtain ⟨j,m3,b2,b9,b13,b23,b37,b42,b58,hfr,hj,hS⟩:=hJ;rw [hfr]
    rw [←wp_W,e161_1]
    simp [s161_1,hS]
    split
    ·rename_i h3
     obtain ⟨a,ha⟩:=get_lt (l:=f.args) (k:=j) (by omega)
     have ham:=List.mem_of_getElem? ha
     obtain ⟨z,hc⟩:=H a (hof.args a ham)
     simp [iaD_eArgs e _ ha,hc,mx_int]
     rw [wrapL (k:=j) h3 hof.alen]
     exact ⟨q3-1,by omega,⟨j+1,_,_,_,_,_,_,_,_,rfl,by omega,hS⟩⟩
    ·simp [e161_r1,s161_r1]
     let J4:Nat→List D→Store→Prop:=fun q fr S=>∃ j4 m4 b2 b8 b13 b23 b37 b42 b58,fr=mkf 75 [(0,eAn e x),(2,b2),(3,.i .i64 (m2:Int)),(4,.i .i64 (k:Nat)),(5,.i .i64 (i:Nat)),(6,.bx id 0),(7,.i .i64 (m4:Int)),(8,b8),(9,.i .i64 (j4:Nat)),(13,b13),(23,b23),(37,b37),(42,b42),(58,b58)]∧j4+q=f.items.length∧sget S id=some (.box (eAt e f))
     refine W_loop J4 ?_ f.items.length _ _ ⟨0,_,_,_,_,_,_,_,_,rfl,by simp,hS⟩
     intro q4 fr S hJ;obtain ⟨j4,m4,b2,b8,b13,b23,b37,b42,b58,hfr,hj4,hS4⟩:=hJ;rw [hfr]
     rw [←wp_W,e161_0]
     simp [s161_0,hS4]
     split
     ·rename_i h4
      obtain ⟨p,hp⟩:=get_lt (l:=f.items) (k:=j4) (by omega)
      have hpm:=List.mem_of_getElem? hp
      obtain ⟨z,hc⟩:=H p.2 (hof.items p hpm).2
      simp [iaD_eItems e _ hp,hc,mx_int]
      rw [wrapL (k:=j4) h4 hof.ilen]
      exact ⟨q4-1,by omega,⟨j4+1,_,_,_,_,_,_,_,_,rfl,by omega,hS4⟩⟩
     ·simp [e161_r0,s161_r0,mx_int,e161_r2,s161_r2]
      rw [wrapL (k:=i) h2 hot.len]
      exact ⟨q2-1,by omega,⟨i+1,_,_,_,_,_,_,_,_,_,_,_,rfl,by omega⟩⟩
  ·simp [e161_r3,s161_r3]
   rw [wrapL (k:=k) h hx.len]
   exact ⟨q-1,by omega,⟨k+1,_,_,_,_,_,_,_,_,_,_,_,_,rfl,by omega⟩⟩
 ·simp [e161_r4,s161_r4]
theorem v162:∀ n,SizesR (eAnn n) (OkAnn n) (wAnn n) (szAnn n)
 | 0=>fun x=>nomatch x
 | n+1=>v162s (GE_eAnn n) (szAnn_le n) (v162 n)
theorem v162t:∀ n,EndI 162 (eAnn n) (OkAnn n)
 | 0=>fun x=>nomatch x
 | n+1=>v162t_s (GE_eAnn n) (v162t n)
theorem v161:∀ n,NestsR (eAnn n) (OkAnn n) (wAnn n) (neAnn n)
 | 0=>fun x=>nomatch x
 | n+1=>v161s (GE_eAnn n) (neAnn_le n) (v161 n)
theorem v161t:∀ n,EndI 161 (eAnn n) (OkAnn n)
 | 0=>fun x=>nomatch x
 | n+1=>v161t_s (GE_eAnn n) (v161t n)
end Go.Proofs.YtjlmeikcfdanmaaGreatDoor.DE.V

namespace Go.Proofs.YtjlmeikcfdanmaaGreatDoor.DE.V
open Go BT
set_option linter.unusedSimpArgs false
set_option linter.unusedVariables false
theorem v196 (v:Vl):isoCall (call dp) 196 [.agg (eVl v)]=some (.b (vlOk v)):=by
 apply i196 _ _ rfl rfl
 simp [s196,vlOk]
 by_cases h0:v.kind=0
 ·simp [h0,-OX_b]
 ·by_cases h1:v.kind=1
  ·simp [h1]
   by_cases h:v.int=0 <;> by_cases h':v.text.length≤255 <;> simp [h,h'] <;> omega
  ·by_cases h2:v.kind=2
   ·simp [h2]
    by_cases h:v.int=0 <;> by_cases h':v.int=1 <;> by_cases h3:v.text=[] <;> simp_all
   ·simp [h0,h1,h2]
section
variable {α:Type} {e:α→D} {ok:α→Prop}
theorem bin_eql_vl (r:Vl):binD .eql (.agg [.i,.i,.s]) (.agg (eVl r)) (.agg [.i .i64 0,.i .i64 0,.s []])=some (.b (vlZ r)):=by simp only [binD,seqL_vl,eqD]
theorem v164 (he:GE e) (f:Fc α):isoCall (call dp) 164 [.agg (eAt e f)]=some (.b (plain0 f)):=by
 apply i164 _ _ (by simp [noRefL,noRef_agAt he]) rfl
 have hbl:bldV [.i .i64 0,.i .i64 0,.s []] []=some [.i .i64 0,.i .i64 0,.s []]:=rfl
 unfold plain0
 by_cases a1:f.fn=0
 ·by_cases a2:f.items=[]
  ·by_cases a3:f.op=0
   ·simp [-OX_b,s164,hbl,a1,a2,a3,bin_eql_vl]
   ·simp [s164,hbl,a1,a2,a3]
  ·simp [s164,hbl,a1,a2]
 ·simp [s164,hbl,a1]
theorem v166 (he:GE e) (x:An α) (hb:Len63 x.ts.length):isoCall (call dp) 166 [eAn e x]=some (.b (hasC x)):=by
 apply i166 _ _ (by simp [noRefL,noRef_eAn he]) rfl
 unfold hasC
 simp only [s166,strip_eAn]
 let J:Nat→List D→Store→Prop:=fun q fr S=>∃ k b2 b7,fr=mkf 17 [(0,eAn e x),(2,b2),(3,.i .i64 (k:Nat)),(7,b7)]∧k+q=x.ts.length∧x.ts.any (fun t=>decide (t.fs.length=0))=(x.ts.drop k).any (fun t=>decide (t.fs.length=0))
 refine W_loop J ?_ x.ts.length _ _ ⟨0,_,_,rfl,by simp,by simp⟩
 intro q fr S hJ;obtain ⟨k,b2,b7,hfr,hk,hc⟩:=hJ;rw [hfr]
 generalize hG:x.ts.any (fun t=>decide (t.fs.length=0))=G at *
 rw [←wp_W,e166_0]
 simp [s166_0]
 split
 ·rename_i h
  obtain ⟨t,ht⟩:=get_lt (l:=x.ts) (k:=k) (by omega)
  rw [drop_get ht,List.any_cons] at hc
  simp [iaD_eAn e _ ht]
  by_cases h0:t.fs=[]
  ·simp [h0] at hc
   simp [h0,hc]
  ·have h0':decide (t.fs.length=0)=false:=by simp [h0]
   rw [h0',Bool.false_or] at hc
   simp [h0]
   rw [wrapL (k:=k) h hb]
   exact ⟨q-1,by omega,⟨k+1,_,_,rfl,by omega,by rw [hG];exact hc⟩⟩
 ·rename_i h
  rw [List.drop_eq_nil_of_le (show x.ts.length≤k by omega),List.any_nil] at hc
  simp [e166_r0,s166_r0,hc]
def biU (x:An α):Bool:=match x.ts with
 | [t]=>decide (t.c=1)&&(match t.fs with
  | [f]=>decide (2≤f.kind)&&decide (f.exp=1)
  | _=>false)
 | _=>false
theorem v167 (he:GE e) (x:An α):isoCall (call dp) 167 [eAn e x]=some (.b (biU x)):=by
 apply i167 _ _ (by simp [noRefL,noRef_eAn he]) rfl
 obtain ⟨nl,ts⟩:=x
 match ts with
 | []=>simp [s167,eAn,biU]
 | [⟨c,fnl,fs⟩]=>
  by_cases hc:c=1
  ·match fs with
   | []=>simp [s167,eAn,biU,hc]
   | [f]=>
    by_cases h2:2≤f.kind
    ·by_cases h1:f.exp=1
     ·simp [s167,eAn,biU,hc,h1,h2]
     ·simp [s167,eAn,biU,hc,h1,h2]
    ·simp [s167,eAn,biU,hc,h2]
   | f::g::l=>
    have:¬((l.length:Int)+1+1=1):=by omega
    simp [s167,eAn,biU,hc,this]
  ·simp [s167,eAn,biU,hc]
 | t::u::l=>
  have:¬((l.length:Int)+1+1=1):=by omega
  simp [s167,eAn,biU,this]
theorem v168 (
       he:GE e) (fn op:Int) (b:Vl) (nl:Bool) (l:List (Vl × α)) (hb:Len63 l.length):isoCall (call dp) 168 [.i .i64 fn,eItems e nl l,.i .i64 op,.agg (eVl b)]=some (.b (fitg fn l op b)):=by
 apply i168 _ _ _ _ _ (by simp [noRefL,noRef_eItems he]) rfl
 unfold fitg
 by_cases k1:fn<0
 ·simp [s168,k1,show ¬0≤fn by omega]
 by_cases k2:3<fn
 ·simp [s168,k1,k2,show ¬fn≤3 by omega]
 by_cases k3:op<5
 ·simp [s168,k1,k2,k3,show ¬5≤op by omega]
 by_cases k4:10<op
 ·simp [s168,k1,k2,k3,k4,show ¬op≤10 by omega]
 by_cases k5:vlOk b=true
 case neg=>simp [s168,k1,k2,k3,k4,v196,k5]
 have d1:decide (0≤fn)=true:=by simp;omega
 have d2:decide (fn≤3)=true:=by simp;omega
 have d3:decide (5≤op)=true:=by simp;omega
 have d4:decide (op≤10)=true:=by simp;omega
 rw [d1,d2,d3,d4,k5]
 have loop:(fn≤1→b.kind=0)→∀ R:Bool,R = !l.any (badV fn b)→W (call dp) (.loop [] c168_0) (mkf 69 [(0,.i .i64 fn),(1,eItems e nl l),(7,.bx 0 0),(8,.top),(9,.i .i64 0),(42,.top)]) [Ent.box (eVl b)] (Qblk 0 (QS (call dp) c168_r0 (FinK [.t 8] fun d _=>stripT d = .b R))):=by
  intro hfb R hR
  let J:Nat→List D→Store→Prop:=fun q fr S=>∃ k b8 b42,fr=mkf 69 [(0,.i .i64 fn),(1,eItems e nl l),(7,.bx 0 0),(8,b8),(9,.i .i64 (k:Nat)),(42,b42)]∧k+q=l.length∧l.any (badV fn b)=(l.drop k).any (badV fn b)∧sget S 0=some (.box (eVl b))
  refine W_loop J ?_ l.length _ _ ⟨0,_,_,rfl,by simp,by simp,rfl⟩
  intro q fr S hJ;obtain ⟨k,b8,b42,hfr,hk,hc,hS⟩:=hJ;rw [hfr]
  generalize hG:l.any (badV fn b)=G at *
  rw [←wp_W,e168_0]
  simp [s168_0]
  split
  ·rename_i h
   obtain ⟨p,hp⟩:=get_lt (l:=l) (k:=k) (by omega)
   rw [drop_get hp,List.any_cons] at hc
   have n0:=sget_lt hS
   have hne:¬0=S.length:=by omega
   have bad:badV fn b p=true→R=false:=by
    intro hb'
    rw [hR,hc,hb'];rfl
   have good:badV fn b p=false→∀ Sx,sget Sx 0=some (.box (eVl b))→∃ m'<q,J m' (mkf 69 [(0,.i .i64 fn),(1,eItems e nl l),(7,.bx 0 0),(8,b8),(9,.i .i64 (k+1:Nat)),(42,.top)]) Sx:=by
    intro hb' Sx hSx
    rw [hb',Bool.false_or] at hc
    exact ⟨q-1,by omega,⟨k+1,_,_,rfl,by omega,by rw [hG];exact hc,hSx⟩⟩
   have w1:=wrapL h hb
   unfold badV at bad good
   have hpush:sget (Ent.box (eVl p.1)::S) 0=_:=sget_push hS
   by_cases q1:vlOk p.1=true
   ·by_cases q2:p.1.kind=b.kind
    ·by_cases q3:fn=0
     ·by_cases q4:p.1.int=1
      ·subst q3
       simp [-sget_cons,iaD_eItems e _ hp,v196,q1,q2,q4,hpush,w1]
       exact good (by simp [q1,q2,q4]) _ hpush
      ·subst q3
       simp [-sget_cons,iaD_eItems e _ hp,v196,q1,q2,q4,hpush,w1]
       rw [bad (by simp [q1,q2,q4])]
     ·simp [-sget_cons,iaD_eItems e _ hp,v196,q1,q2,q3,hpush,w1]
      exact good (by simp [q1,q2,q3]) _ hpush
    ·simp [-sget_cons,iaD_eItems e _ hp,v196,q1,q2,hpush,w1]
     rw [bad (by simp [q1,q2])]
   ·simp [-sget_cons,iaD_eItems e _ hp,v196,q1,hpush,w1]
    rw [bad (by simp [q1])]
  ·rename_i h
   rw [List.drop_eq_nil_of_le (show l.length≤k by omega),List.any_nil] at hc
   simp [e168_r0,s168_r0,hR,hc]
 by_cases k6:fn≤1
 ·have k6':fn=0∨fn=1:=by omega
  by_cases k7:b.kind=0
  ·have hR:(true&&true&&true&&true&&true && !(decide (fn=0∨fn=1) && !decide (b.kind=0)) && !l.any (badV fn b)) = !l.any (badV fn b):=by simp [k7]
   rw [hR]
   simp [-OX_b,s168,k1,k2,k3,k4,v196,k5,k6,k7]
   exact loop (fun _=>k7) _ rfl
  ·have hR:(true&&true&&true&&true&&true && !(decide (fn=0∨fn=1) && !decide (b.kind=0)) && !l.any (badV fn b))=false:=by simp [k7,k6']
   rw [hR]
   simp [s168,k1,k2,k3,k4,v196,k5,k6,k7]
 ·have k6':¬(fn=0∨fn=1):=by omega
  have hR:(true&&true&&true&&true&&true && !(decide (fn=0∨fn=1) && !decide (b.kind=0)) && !l.any (badV fn b)) = !l.any (badV fn b):=by simp [k6']
  rw [hR]
  simp [-OX_b,s168,k1,k2,k3,k4,v196,k5,k6]
  exact loop (fun h=>absurd h k6) _ rfl
noncomputable def fitAnR (e:α→D) (x:An α):Bool:=decide (x.ts.length≤512)&&decide (callI 161 (eAn e x)≤8)&&decide (callI 162 (eAn e x)≤4096)&&x.ts.all fiTm
theorem v107 (he:GE e) (hs:EndI 162 (eAn e) (OkAn ok)) (hd:EndI 161 (eAn e) (OkAn ok)) (x:An α) (hx:OkAn ok x):isoCall (call dp) 107 [eAn e x]=some (.b (fitAnR e x)):=by
 apply i107 _ _ (by simp [noRefL,noRef_eAn he]) rfl
 unfold fitAnR
 obtain ⟨z1,e1⟩:=hs x hx
 obtain ⟨z2,e2⟩:=hd x hx
 rw [callI_eq e1,callI_eq e2]
 generalize hA:x.ts.all fiTm=A
 by_cases h1:512<x.ts.length
 ·have:decide (x.ts.length≤512)=false:=by simp;omega
  simp [s107,h1,this]
  intro hc;omega
 by_cases h2:8<z2
 ·have:decide (z2≤8)=false:=by simp;omega
  simp [s107,h1,e2,h2,this]
 by_cases h3:4096<z1
 ·have:decide (z1≤4096)=false:=by simp;omega
  simp [s107,h1,e2,h2,e1,h3,this]
 have k1:decide (x.ts.length≤512)=true:=by simp;omega
 have k2:decide (z2≤8)=true:=by simp;omega
 have k3:decide (z1≤4096)=true:=by simp;omega
 rw [k1,k2,k3,Bool.true_and,Bool.true_and,Bool.true_and]
 have h1':¬(512:Int)<x.ts.length:=by omega
 simp [s107,h1',e2,h2,e1,h3]
 let J:Nat→List D→Store→Prop:=fun q fr S=>∃ k b2 b4 b21 b38,fr=mkf 65 [(0,eAn e x),(2,b2),(3,.i .i64 (k:Nat)),(4,b4),(21,b21),(38,b38)]∧k+q=x.ts.length∧A=(x.ts.drop k).all fiTm
 refine W_loop J ?_ x.ts.length _ _ ⟨0,_,_,_,_,rfl,by simp,by simp [hA]⟩
 intro q fr S hJ;obtain ⟨k,b2,b4,b21,b38,hfr,hk,hc⟩:=hJ;rw [hfr]
 rw [←wp_W,e107_1]
 simp [s107_1]
 split
 ·rename_i h
  obtain ⟨t,ht⟩:=get_lt (l:=x.ts) (k:=k) (by omega)
  have hot:=hx.ts t (List.mem_of_getElem? ht)
  rw [drop_get ht,List.all_cons] at hc
  by_cases g1:64<t.fs.length
  ·have:fiTm t=false:=by
                 unfold fiTm;have:decide (t.fs.length≤64)=false:=by simp;omega
                 rw [this];rfl
   rw [this,Bool.false_and] at hc
   have g1':(64:Int)<t.fs.length:=by omega
   simp [iaD_eAn e _ ht,g1',hc]
  ·have hfi:fiTm t=t.fs.all fiFc:=by
                       unfold fiTm;have:decide (t.fs.length≤64)=true:=by simp;omega
                       rw [this];rfl
   rw [hfi] at hc
   have g1':¬(64:Int)<t.fs.length:=by omega
   simp [iaD_eAn e _ ht,g1']
   let J2:Nat→List D→Store→Prop:=fun q fr S=>∃ i b2 b21 b38,fr=mkf 65 [(0,eAn e x),(2,b2),(3,.i .i64 (k:Nat)),(4,.i .i64 (i:Nat)),(21,b21),(38,b38)]∧i+q=t.fs.length∧t.fs.all fiFc=(t.fs.drop i).all fiFc
   refine W_loop J2 ?_ t.fs.length _ _ ⟨0,_,_,_,rfl,by simp,by simp⟩
   intro q2 fr S hJ;obtain ⟨i,b2,b21,b38,hfr,hi,hc2⟩:=hJ;rw [hfr]
   generalize hG:t.fs.all fiFc=G at *
   rw [←wp_W,e107_0]
   simp [s107_0,iaD_eAn e _ ht]
   split
   ·rename_i h2
    obtain ⟨f,hf⟩:=get_lt (l:=t.fs) (k:=i) (by omega)
    rw [drop_get hf,List.all_cons] at hc2
    by_cases b1:64<f.exp
    ·have:fiFc f=false:=by
                   unfold fiFc;have:decide (f.exp≤64)=false:=by simp;omega
                   rw [this];rfl
     rw [this,Bool.false_and] at hc2
     rw [hc2,Bool.false_and] at hc
     simp [iaD_eFcs e _ hf,iaD_eAn e _ ht,b1,hc]
    ·by_cases b2:1024<f.items.length
     ·have:fiFc f=false:=by
                    unfold fiFc;have:decide (f.items.length≤1024)=false:=by simp;omega
                    rw [this];simp
      rw [this,Bool.false_and] at hc2
      rw [hc2,Bool.false_and] at hc
      have b2':(1024:Int)<f.items.length:=by omega
      simp [iaD_eFcs e _ hf,iaD_eAn e _ ht,b1,b2',hc]
     ·have:fiFc f=true:=by unfold fiFc;simp;omega
      rw [this,Bool.true_and] at hc2
      have b2':¬(1024:Int)<f.items.length:=by omega
      simp [iaD_eFcs e _ hf,iaD_eAn e _ ht,b1,b2']
      rw [wrapL (k:=i) h2 hot.len]
      exact ⟨q2-1,by omega,⟨i+1,_,_,_,rfl,by omega,by rw [hG];exact hc2⟩⟩
   ·rename_i h2
    rw [List.drop_eq_nil_of_le (show t.fs.length≤i by omega),List.all_nil] at hc2
    rw [hc2,Bool.true_and] at hc
    simp [e107_r0,s107_r0]
    rw [wrapL (k:=k) h hx.len]
    exact ⟨q-1,by omega,⟨k+1,_,_,_,_,rfl,by omega,hc⟩⟩
 ·rename_i h
  rw [List.drop_eq_nil_of_le (show x.ts.length≤k by omega),List.all_nil] at hc
  simp [e107_r1,s107_r1,hc]
end
end Go.Proofs.YtjlmeikcfdanmaaGreatDoor.DE.V

namespace Go.Proofs.YtjlmeikcfdanmaaGreatDoor.DE.V
open Go BT
set_option linter.unusedSimpArgs false
set_option linter.unusedVariables false
def Anti {α:Type} (c:α→α→Int):Prop:=∀ a b,c b a = - c a b
theorem anti_I:Anti cmpI:=fun a b=>by
 rcases cmpI_cases a b with ⟨h,e⟩ | ⟨h,e⟩ | ⟨h,e⟩ <;> rcases cmpI_cases b a with ⟨h',e'⟩ | ⟨h',e'⟩ | ⟨h',e'⟩ <;> rw [e,e'] <;> omega
theorem orL_neg:∀ l:List Int,orL (l.map fun x=>-x) = - orL l
 | []=>rfl
 | x::l=>by
  simp only [List.map_cons,orL,orL_neg l]
  by_cases h:x=0
  ·simp [h]
  ·rw [if_neg (by omega),if_neg h]
theorem bless_cases:∀ l m:List UInt8,(Op.bytesLess l m=true∧Op.bytesLess m l=false∧(l == m)=false∧(m == l)=false)∨(l=m∧Op.bytesLess l m=false)∨(Op.bytesLess m l=true∧Op.bytesLess l m=false∧(l == m)=false∧(m == l)=false)
 | [],[]=>.inr (.inl ⟨rfl,rfl⟩)
 | [],_::_=>.inl ⟨rfl,rfl,rfl,rfl⟩
 | _::_,[]=>.inr (.inr ⟨rfl,rfl,rfl,rfl⟩)
 | a::l,b::m=>by
  have ih:=bless_cases l m
  simp only [Op.bytesLess,List.cons_beq_cons]
  by_cases h:a=b
  ·subst h
   have:¬a<a:=by rw [UInt8.lt_iff_toNat_lt];omega
   simp only [this,decide_false,Bool.false_or,BEq.rfl,Bool.true_and,List.cons.injEq,true_and]
   exact ih
  ·have hn:¬a.toNat=b.toNat:=fun e=>h (UInt8.toNat_inj.1 e)
   have h1:(a == b)=false:=by simpa using h
   have h2:(b == a)=false:=by simpa using fun e=>h e.symm
   simp only [h1,h2,Bool.false_and,Bool.or_false]
   rcases Nat.lt_or_gt_of_ne hn with q | q
   ·have d1:decide (a<b)=true:=by rw [decide_eq_true_iff,UInt8.lt_iff_toNat_lt];exact q
    have d2:decide (b<a)=false:=by rw [decide_eq_false_iff_not,UInt8.lt_iff_toNat_lt];omega
    exact .inl ⟨d1,d2,trivial,trivial⟩
   ·have d1:decide (b<a)=true:=by rw [decide_eq_true_iff,UInt8.lt_iff_toNat_lt];exact q
    have d2:decide (a<b)=false:=by rw [decide_eq_false_iff_not,UInt8.lt_iff_toNat_lt];omega
    exact .inr (.inr ⟨d1,d2,trivial,trivial⟩)
theorem anti_B:Anti cmpB:=fun l m=>by
 unfold cmpB
 rcases bless_cases l m with ⟨a,b,c,d⟩ | ⟨rfl,b⟩ | ⟨a,b,c,d⟩
 ·rw [a,b,d];rfl
 ·simp [b]
 ·rw [a,b,c];rfl
theorem anti_L {α:Type} {c:α→α→Int} (h:Anti c):Anti (cmpL c):=by
 intro l
 induction l with
 | nil=>intro m;cases m <;> rfl
 | cons x l ih=>
  intro m
  cases m with
  | nil=>rfl
  | cons y m=>
   simp only [cmpL,h x y,ih m]
   by_cases z:c x y=0
   ·simp [z]
   ·rw [if_neg (by omega),if_neg z]
theorem anti_V:Anti cmpVl:=fun a b=>by
 have:=orL_neg [cmpI a.kind b.kind,cmpI a.int b.int,cmpB a.text b.text]
 simp only [List.map_cons,List.map_nil] at this
 unfold cmpVl
 rw [anti_I a.kind b.kind,anti_I a.int b.int,anti_B a.text b.text];exact this
section
variable {α:Type} {c:α→α→Int}
theorem anti_It (h:Anti c):Anti (cmpIt c):=fun p q=>by
 have:=orL_neg [cmpVl p.1 q.1,c p.2 q.2]
 simp only [List.map_cons,List.map_nil] at this
 unfold cmpIt
 rw [anti_V p.1 q.1,h p.2 q.2];exact this
theorem anti_At (h:Anti c):Anti (cmpAt c):=fun f g=>by
 have:=orL_neg [cmpI f.kind g.kind,cmpI f.row.1 g.row.1,cmpI f.row.2 g.row.2,cmpL c f.args g.args,cmpI f.fn g.fn,cmpL (cmpIt c) f.items g.items,cmpI f.op g.op,cmpVl f.bound g.bound]
 simp only [List.map_cons,List.map_nil] at this
 unfold cmpAt
 rw [anti_I f.kind g.kind,anti_I f.row.1 g.row.1,anti_I f.row.2 g.row.2,anti_L h f.args g.args,anti_I f.fn g.fn,anti_L (anti_It h) f.items g.items,anti_I f.op g.op,anti_V f.bound g.bound];exact this
theorem anti_Fc (h:Anti c):Anti (cmpFc c):=fun f g=>by
 have:=orL_neg [cmpAt c f g,cmpI f.exp g.exp]
 simp only [List.map_cons,List.map_nil] at this
 unfold cmpFc
 rw [anti_At h f g,anti_I f.exp g.exp];exact this
theorem anti_Tm (h:Anti c):Anti (cmpTm c):=fun s t=>by
 have:=orL_neg [cmpTl c s t,cmpI s.c t.c]
 simp only [List.map_cons,List.map_nil] at this
 unfold cmpTm
 rw [show cmpTl c t s = - cmpTl c s t from anti_L (anti_Fc h) s.fs t.fs,anti_I s.c t.c];exact this
theorem anti_An (h:Anti c):Anti (cmpAn c):=fun x y=>anti_L (anti_Tm h) x.ts y.ts
end
theorem anti_Ann:∀ n,Anti (cmpAnn n)
 | 0=>fun x=>nomatch x
 | n+1=>anti_An (anti_Ann n)
section
variable {α:Type} {e:α→D} {ok:α→Prop} {P:Prm α}
structure PrmOkR (e:α→D) (ok:α→Prop) (P:Prm α):Prop where
 he:GE e
 len:∀ a,∃ n:Nat,lenD false (e a)=some (.i .i64 n)∧P.em a=decide (n=0)∧P.isC a=(decide (n=1)&&P.hasC a)
 V:∀ a,ok a→isoCall (call dp) 67 [e a]=some (.b (P.V a))
 isU:∀ a,ok a→P.V a=true→isoCall (call dp) 167 [e a]=some (.b (P.isU a))
 hasC:∀ a,ok a→isoCall (call dp) 166 [e a]=some (.b (P.hasC a))
 c:CmpsR e ok P.c
 anti:Anti P.c
theorem v165 (H:PrmOkR e ok P) (a b:α) (h:ok a):isoCall (call dp) 165 [e a,e b]=some (.b (decide (P.c a b=0))):=by
 apply i165 _ _ _ (by simp [noRefL,H.he.noRef,H.he.strip]) rfl
 simp [-OX_b,s165,H.he.strip,H.c a b h]
def okP (c:α→α→Int) (p:Option (Vl × α)) (q:Vl × α):Bool:=match p with
 | none=>true
 | some g=>!decide (0<cmpIt c g q)
def siL (P:Prm α):Option (Vl × α)→List (Vl × α)→Bool
 | _,[]=>true
 | p,q::l=>(!(!P.V q.2 || P.em q.2)&&okP P.c p q)&&siL P (some q) l
theorem siL_nil (p:Option (Vl × α)):siL P p []=true:=by cases p <;> rfl
theorem siL_cons (p:Option (Vl × α)) (q:Vl × α) (l:List (Vl × α)):siL P p (q::l)=((!(!P.V q.2 || P.em q.2)&&okP P.c p q)&&siL P (some q) l):=by cases p <;> rfl
open Classical in
theorem siL_eq (ha:Anti P.c):∀ (l:List (Vl × α)) (p:Option (Vl × α)),siL P p l=(!l.any (fun q=>!P.V q.2 || P.em q.2)&&decide ((∀ q,l[0]? = some q→okP P.c p q=true)∧Srt (cmpIt P.c) l))
 | [],p=>by
  rw [siL_nil]
  simp [Srt]
 | q::l,p=>by
  rw [siL_cons,siL_eq ha l (some q),List.any_cons]
  have key:((∀ r,(q::l)[0]? = some r→okP P.c p r=true)∧Srt (cmpIt P.c) (q::l))↔(okP P.c p q=true∧((∀ r,l[0]? = some r→okP P.c (some q) r=true)∧Srt (cmpIt P.c) l)):=by
   constructor
   ·rintro ⟨h1,h2⟩
    refine ⟨h1 q rfl,fun r hr=>?_,fun j x y hx hy=>h2 (j+1) x y (by simpa using hx) (by simpa using hy)⟩
    have h3:=h2 0 q r rfl (by simpa using hr)
    have h4:=anti_It ha q r
    simp only [okP,Bool.not_eq_true',decide_eq_false_iff_not]
    omega
   ·rintro ⟨h1,h2,h3⟩
    refine ⟨fun r hr=>by injection hr with hr;exact hr ▸ h1,fun j x y hx hy=>?_⟩
    cases j with
    | zero=>
     simp at hx hy
     subst hx
     have h5:=h2 y (by simpa using hy)
     have h4:=anti_It ha q y
     simp only [okP,Bool.not_eq_true',decide_eq_false_iff_not] at h5
     omega
    | succ j=>exact h3 j x y (by simpa using hx) (by simpa using hy)
  have key':decide ((∀ r,(q::l)[0]? = some r→okP P.c p r=true)∧Srt (cmpIt P.c) (q::l))=(okP P.c p q&&decide ((∀ r,l[0]? = some r→okP P.c (some q) r=true)∧Srt (cmpIt P.c) l)):=by
   rw [Bool.eq_iff_iff,decide_eq_true_iff,key,Bool.and_eq_true,decide_eq_true_iff]
  rw [key']
  cases (!P.V q.2 || P.em q.2) <;> cases okP P.c p q <;> cases l.any (fun q=>!P.V q.2 || P.em q.2) <;> simp
theorem slc_items {nl:Bool} {l:List (Vl × α)} {a b:Nat} {x:Vl × α} (hx:l[a]? = some x) (hb:b=a+1):slcD 4 (eItems e nl l) (some (.i .i64 (a:Nat))) (some (.i .i64 (b:Nat)))=some (eItems e nl [x]):=by
 have hlt:=(List.getElem?_eq_some_iff.1 hx).1
 subst hb
 have h1:((l.map (eIt e)).drop a).take (a+1-a)=[eIt e x]:=by
  rw [←List.map_drop,drop_get hx,List.map_cons]
  simp
 simp only [slcD,eItems,if_true,bounds,List.length_map]
 rw [if_pos ⟨by omega,by omega⟩,if_pos ⟨by omega,by omega⟩]
 simp only [Int.toNat_natCast,h1]
 rfl
open Classical in
theorem vAt_tail (ha:Anti P.c) (f:Fc α) (k0:¬f.kind=0) (hz:f.row=(0,0)) (hA:f.args.any (fun a=>!P.V a || P.em a)=false):vAt P f =
  if f.kind=1 then plain0 f&&mon2 P f.args else if f.kind=2 then plain0 f&&del1 P f.args else if f.kind=3 then plain0 f&&abs1 P f.args else if f.kind=4 then
   decide (f.args.length=0)&&decide (0<f.items.length)&&siL P none f.items&&fitg f.fn f.items f.op f.bound else false:=by
 have hsi:siL P none f.items=(!f.items.any (fun q=>!P.V q.2 || P.em q.2)&&decide (Srt (cmpIt P.c) f.items)):=by
  rw [siL_eq ha]
  congr 1
  rw [Bool.eq_iff_iff,decide_eq_true_iff,decide_eq_true_iff]
  exact ⟨fun h=>h.2,fun h=>⟨fun _ _=>rfl,h⟩⟩
 rw [hsi]
 unfold vAt
 rw [hA]
 generalize f.items.any (fun q=>!P.V q.2 || P.em q.2)=B
 cases hp:plain0 f
 ·by_cases k4:f.kind=4
  ·simp [k4,hz,Bool.and_assoc]
  ·simp [k4]
 ·by_cases k1:f.kind=1
  ·simp [k1,hz]
  ·by_cases k2:f.kind=2
   ·simp [k2,hz]
   ·by_cases k3:f.kind=3
    ·simp [k3,hz]
    ·by_cases k4:f.kind=4
     ·simp [k4,hz,Bool.and_assoc]
     ·simp [k0,k1,k2,k3,k4,hz]
end
end Go.Proofs.YtjlmeikcfdanmaaGreatDoor.DE.V

namespace Go.Proofs.YtjlmeikcfdanmaaGreatDoor.DE.V
open Go BT
set_option linter.unusedSimpArgs false
set_option linter.unusedVariables false
section
variable {α:Type} {e:α→D} {ok:α→Prop} {P:Prm α}
theorem vAt_zero (f:Fc α) (k0:f.kind=0):vAt P f=(rowOk f.row&&decide (f.args.length=0)&&plain0 f):=by
 unfold vAt
 cases hp:plain0 f
 ·simp [k0]
 ·by_cases ha:f.args=[]
  ·simp [k0,ha]
  ·simp [k0,ha]
theorem vAt_row (f:Fc α) (k0:¬f.kind=0) (hz:¬f.row=(0,0)):vAt P f=false:=by
 unfold vAt
 cases hp:plain0 f
 ·by_cases k4:f.kind=4
  ·simp [k0,k4,hz]
  ·simp [k4]
 ·simp [k0,hz]
theorem vAt_args (f:Fc α) (k0:¬f.kind=0) (h:f.args.any (fun a=>!P.V a || P.em a)=true):vAt P f=false:=by
 unfold vAt
 rw [h]
 simp
theorem v109i (H:PrmOkR e ok P) (f:Fc α) (h:OkFc ok f) (R:Bool) (hR:siL P none f.items=R) (a2 a165:D) {S0:Store} (hS0:sget S0 0=some (.box (eAt e f))) :
  W (call dp) (.loop [] c109_0) (mkf 206 [(1,.bx 0 0),(2,a2),(3,.top),(4,.i .i64 0),(36,.top),(131,.top),(165,a165)]) S0 (Qblk 3 (QS (call dp) c109_r0 (Qblk 2 (QS (call dp) c109_r1 (FinK [.t 2] fun d _=>stripT d = .b R))))):=by
 have he:=H.he
 let J2:Nat→List D→Store→Prop:=fun q fr S=>∃ i b2 b3 b36 b131 b165,fr=mkf 206 [(1,.bx 0 0),(2,b2),(3,b3),(4,.i .i64 (i:Nat)),(36,b36),(131,b131),(165,b165)]∧i+q=f.items.length∧R=siL P (pre f.items i) (f.items.drop i)∧sget S 0=some (.box (eAt e f))
 refine W_loop J2 ?_ f.items.length _ _ ⟨0,_,_,_,_,_,rfl,by simp,by rw [←hR];simp [pre_zero],hS0⟩
 intro q2 fr S hJ;obtain ⟨i,b2,b3,b36,b131,b165,hfr,hi2,hv,hS2⟩:=hJ;rw [hfr]
 rw [←wp_W,e109_0]
 simp [s109_0,hS2]
 split
 ·rename_i h3
  obtain ⟨p,hp⟩:=get_lt (l:=f.items) (k:=i) (by omega)
  have hpm:=List.mem_of_getElem? hp
  have hpo:=(h.items p hpm).2
  obtain ⟨n,l1,l2,_⟩:=H.len p.2
  have e67:=H.V p.2 hpo
  rw [drop_get hp,siL_cons] at hv
  have w1:=wrapL h3 h.ilen
  have good:(!P.V p.2 || P.em p.2)=false→okP P.c (pre f.items i) p=true→∃ m'<q2,J2 m' (mkf 206 [(1,.bx 0 0),(2,b2),(3,b3),(4,.i .i64 (i+1:Nat)),(36,b36),(131,b131),(165,.top)]) S:=by
   intro g1 g2
   rw [g1,g2] at hv
   exact ⟨q2-1,by omega,⟨i+1,_,_,_,_,_,rfl,by omega,by rw [pre_succ hp];exact hv,hS2⟩⟩
  by_cases n0:n=0
  ·have hb:(!P.V p.2 || P.em p.2)=true:=by rw [l2,n0];simp
   rw [hb] at hv
   simp only [Bool.not_true,Bool.false_and] at hv
   subst n0
   simp [hS2,iaD_eItems e _ hp,l1,hv]
  ·have n0':¬(n:Int)=0:=by omega
   have hem:P.em p.2=false:=by rw [l2];simp [n0]
   cases hV:P.V p.2 with
   | false=>
    rw [hV] at e67
    simp only [hV,Bool.not_false,Bool.true_or,Bool.not_true,Bool.false_and] at hv
    simp [hS2,iaD_eItems e _ hp,l1,n0,e67,hv]
   | true=>
    rw [hV] at e67
    have hg:(!P.V p.2 || P.em p.2)=false:=by rw [hV,hem];rfl
    rw [hg] at hv
    rcases Nat.eq_zero_or_pos i with i0 | i0
    ·have i0':¬0<i:=by omega
     have hok:okP P.c (pre f.items i) p=true:=by rw [i0];rfl
     simp [hS2,iaD_eItems e _ hp,l1,n0,e67,i0',w1]
     exact good hg hok
    ·obtain ⟨k',hk'⟩:∃ k',i=k'+1:=⟨i-1,by omega⟩
     obtain ⟨g,hgk⟩:=get_lt (l:=f.items) (k:=k') (by omega)
     have w2:IntKind.i64.wrap ((i:Int)-1)=(k':Int):=by have:=h.ilen;unfold Len63 at this;rw [wrap64 ⟨by omega,by omega⟩];omega
     have w3:IntKind.i64.wrap ((i:Int)+1)=((i+1:Nat):Int):=w1
     have s1:=slc_items (e:=e) (nl:=f.inl) hgk hk'
     have s2:=slc_items (e:=e) (nl:=f.inl) hp (rfl:i+1=i+1)
     have e169:=v169 he H.c f.inl f.inl [g] [p] (by simp [Len63]) (by intro z hz;rw [List.mem_singleton.1 hz];exact (h.items g (List.mem_of_getElem? hgk)).2)
     have hcm:cmpL (cmpIt P.c) [g] [p]=cmpIt P.c g p:=by
      simp only [cmpL]
      split
      ·rename_i hz;exact hz.symm
      ·rfl
     rw [hcm] at e169
     have hok:okP P.c (pre f.items i) p = !decide (0<cmpIt P.c g p):=by rw [hk',pre_succ hgk];rfl
     have i0':0<i:=i0
     by_cases hpos:0<cmpIt P.c g p
     ·rw [hok] at hv
      simp only [hpos,decide_true,Bool.not_true,Bool.and_false,Bool.false_and] at hv
      simp [hS2,iaD_eItems e _ hp,l1,n0,e67,i0',w2]
      rw [w3,s1,s2]
      simp [e169,hpos,hv]
     ·simp [hS2,iaD_eItems e _ hp,l1,n0,e67,i0',w2]
      rw [w3,s1,s2]
      simp [e169,hpos]
      exact good hg (by rw [hok];simp [hpos])
 ·rename_i h3
  rw [List.drop_eq_nil_of_le (show f.items.length≤i by omega),siL_nil] at hv
  simp [e109_r0,s109_r0,hv]
theorem v109 (
       H:PrmOkR e ok P) (f:Fc α) (h:OkFc ok f) (hi:f.items.length≤1024):isoCall (call dp) 109 [.agg (eAt e f)]=some (.b (vAt P f)):=by
 have he:=H.he
 have h164:=v164 he f
 have hbl:bldV [.i .i64 0,.i .i64 0] []=some [.i .i64 0,.i .i64 0]:=rfl
 apply i109 _ _ (by simp [noRefL,noRef_agAt he]) rfl
 by_cases k0:f.kind=0
 ·rw [vAt_zero f k0]
  generalize plain0 f=Pl at *
  unfold rowOk
  by_cases r1:1≤f.row.1
  ·by_cases r2:1≤f.row.2
   ·by_cases ha:f.args=[]
    ·simp [-OX_b,s109,k0,r1,r2,ha,h164]
    ·simp [s109,k0,r1,r2,ha]
   ·simp [s109,k0,r1,r2]
  ·simp [s109,k0,r1]
 by_cases hz:f.row=(0,0)
 case neg=>
  rw [vAt_row f k0 hz]
  simp [s109,k0,hz,hbl]
 obtain ⟨A,hA⟩:∃ A,f.args.any (fun a=>!P.V a || P.em a)=A:=⟨_,rfl⟩
 have hfalse:A=true→vAt P f=false:=fun h=>vAt_args f k0 (hA.trans h)
 simp [s109,k0,hz,hbl]
 let J:Nat→List D→Store→Prop:=fun q fr S=>∃ k b2 b4 b36 b131 b165,fr=mkf 206 [(1,.bx 0 0),(2,b2),(3,.i .i64 (k:Nat)),(4,b4),(36,b36),(131,b131),(165,b165)]∧k+q=f.args.length∧A=(f.args.drop k).any (fun a=>!P.V a || P.em a)∧sget S 0=some (.box (eAt e f))
 refine W_loop J ?_ f.args.length _ _ ⟨0,_,_,_,_,_,rfl,by simp,by rw [←hA];simp,rfl⟩
 intro q fr S hJ;obtain ⟨k,b2,b4,b36,b131,b165,hfr,hk,hc,hS⟩:=hJ;rw [hfr]
 rw [←wp_W,e109_1]
 by_cases hlt:k<f.args.length
 ·have hlt':(k:Int)<f.args.length:=by omega
  obtain ⟨a,ha⟩:=get_lt hlt
  have ham:=List.mem_of_getElem? ha
  obtain ⟨n,l1,l2,_⟩:=H.len a
  rw [drop_get ha,List.any_cons] at hc
  by_cases n0:n=0
  ·have:(!P.V a || P.em a)=true:=by rw [l2,n0];simp
   rw [this,Bool.true_or] at hc
   subst n0
   simp [s109_1,hS,hlt,iaD_eArgs e _ ha,l1,hfalse hc]
  ·have e67:=H.V a (h.args a ham)
   have hem:P.em a=false:=by rw [l2];simp [n0]
   have n0':¬(n:Int)=0:=by omega
   cases hV:P.V a with
   | false=>
    simp only [hV,hem,Bool.not_false,Bool.true_or] at hc
    rw [hV] at e67
    simp [s109_1,hS,hlt,iaD_eArgs e _ ha,l1,n0,e67,hfalse hc]
   | true=>
    simp only [hV,hem,Bool.not_true,Bool.or_self,Bool.false_or] at hc
    rw [hV] at e67
    simp [s109_1,hS,hlt,iaD_eArgs e _ ha,l1,n0,e67]
    rw [wrapL hlt h.alen]
    exact ⟨q-1,by omega,⟨k+1,_,_,_,_,_,rfl,by omega,hc,hS⟩⟩
 ·rw [List.drop_eq_nil_of_le (show f.args.length≤k by omega),List.any_nil] at hc
  have hA':f.args.any (fun a=>!P.V a || P.em a)=false:=hA.trans hc
  obtain ⟨Rv,hRv⟩:∃ Rv,Rv=vAt P f:=⟨_,rfl⟩
  rw [←hRv]
  simp [s109_1,hS,hlt]
  rw [vAt_tail H.anti f k0 hz hA'] at hRv
  have hVt:∀ a,a∈f.args→P.V a=true:=by
   intro a ha
   have h1:=List.any_eq_false.1 hA' a ha
   simp only [Bool.or_eq_true,Bool.not_eq_true',not_or,Bool.not_eq_true] at h1
   simpa using h1.1
  by_cases k1:f.kind=1
  ·subst hRv
   match hl:f.args with
   | []=>simp [e109_r2,s109_r2,hS,k1,hl,mon2]
   | [a]=>simp [e109_r2,s109_r2,hS,k1,hl,mon2]
   | [a,b]=>
    have e165:=v165 H a b (h.args a (by simp [hl]))
    generalize plain0 f=Pl at *
    cases Pl
    ·simp [e109_r2,s109_r2,hS,k1,hl,mon2,h164]
    ·simp [-OX_b,e109_r2,s109_r2,hS,k1,hl,mon2,h164,e165]
   | a::b::c::l=>
    have two:(l.length:Int)+1+1+1≠2:=by omega
    simp [e109_r2,s109_r2,hS,k1,hl,mon2,two]
  by_cases k2:f.kind=2
  ·subst hRv
   match hl:f.args with
   | []=>simp [e109_r2,s109_r2,hS,k2,hl,del1]
   | [a]=>
    obtain ⟨n,l1,l2,l3⟩:=H.len a
    have e166:=H.hasC a (h.args a (by simp [hl]))
    have e167:=H.isU a (h.args a (by simp [hl])) (hVt a (by simp [hl]))
    generalize plain0 f=Pl at *
    simp only [del1,l3]
    cases Pl
    ·simp [e109_r2,s109_r2,hS,k2,hl,h164]
    ·by_cases n1:n=1
     ·subst n1
      cases hhc:P.hasC a
      ·rw [hhc] at e166
       cases hiu:P.isU a <;> rw [hiu] at e167 <;> simp [e109_r2,s109_r2,hS,k2,hl,h164,l1,e166,e167]
      ·rw [hhc] at e166
       simp [e109_r2,s109_r2,hS,k2,hl,h164,l1,e166]
     ·have n1':¬(n:Int)=1:=by omega
      cases hiu:P.isU a <;> rw [hiu] at e167 <;> simp [e109_r2,s109_r2,hS,k2,hl,h164,l1,n1,n1',e167]
   | a::b::l=>
    have one:(l.length:Int)+1+1≠1:=by omega
    simp [e109_r2,s109_r2,hS,k2,hl,del1,one]
  by_cases k3:f.kind=3
  ·subst hRv
   match hl:f.args with
   | []=>simp [e109_r2,s109_r2,hS,k3,hl,abs1]
   | [a]=>
    have e166:=H.hasC a (h.args a (by simp [hl]))
    generalize plain0 f=Pl at *
    cases Pl
    ·simp [e109_r2,s109_r2,hS,k3,hl,abs1,h164]
    ·cases hhc:P.hasC a <;> rw [hhc] at e166 <;> simp [e109_r2,s109_r2,hS,k3,hl,abs1,h164,e166,hhc]
   | a::b::l=>
    have one:(l.length:Int)+1+1≠1:=by omega
    simp [e109_r2,s109_r2,hS,k3,hl,abs1,one]
  by_cases k4:f.kind=4
  ·rw [if_neg k1,if_neg k2,if_neg k3,if_pos k4] at hRv
   by_cases hl0:f.args=[]
   case neg=>subst hRv;simp [e109_r2,s109_r2,hS,k4,hl0]
   by_cases hi0:f.items=[]
   ·subst hRv;simp [e109_r2,s109_r2,hS,k4,hl0,hi0]
   have hi0':decide (0<f.items.length)=true:=by
    have:=List.length_pos_iff.2 hi0
    simpa using this
   have hbig:¬(1024:Int)<f.items.length:=by omega
   have e168:=v168 he f.fn f.op f.bound f.inl f.items h.ilen
   have harg:decide (f.args.length=0)=true:=by simp [hl0]
   rw [harg,hi0'] at hRv
   cases hfg:fitg f.fn f.items f.op f.bound with
   | false=>
    rw [hfg] at e168 hRv
    simp only [Bool.and_false] at hRv
    subst hRv
    simp [e109_r2,s109_r2,hS,k4,hl0,hi0,hbig,e168]
   | true=>
    rw [hfg] at e168 hRv
    simp only [Bool.and_true,Bool.true_and] at hRv
    simp [e109_r2,s109_r2,hS,k4,hl0,hi0,hbig,e168]
    exact v109i H f h _ hRv.symm _ _ hS
  ·subst hRv;simp [e109_r2,s109_r2,hS,k1,k2,k3,k4,s109_r1]
end
end Go.Proofs.YtjlmeikcfdanmaaGreatDoor.DE.V
