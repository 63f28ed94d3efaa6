/- Joined texts. -/
import Derived.Test.YtjniafcnjbbomaaGreatDoorQx2
import Derived.Test.YtjniafcnjbbomaaGreatDoorQx3
import Derived.Test.YtjniafcnjbbomaaGreatDoorQx5
import Derived.Test.YtjniafcnjbbomaaGreatDoorQx7
import Derived.Test.YtjniafcnjbbomaaGreatDoorQx9
import Derived.KernelRfl
import Derived.SizedLaws
import Derived.Lib.ItoaLen
import Derived.Lib.Replace
import Derived.Lib.IndexMore
set_option linter.all false
open List (any_cons any_nil drop_eq_nil_of_le getD getD_eq_getElem?_getD getElem?_map intercalate length_append length_cons length_nil map_cons map_map map_nil sum_cons take_succ_cons)
open Bool (and_eq_true false_eq_true)
open Option (map_some)
open Nat (add_assoc le_of_lt le_refl le_trans)
namespace Go.Proofs.YtjniafcnjbbomaaGreatDoor.DE
section
open Go
set_option maxRecDepth 100000
def s116:Cn:=fun cf a0 a1 S Post=>Cg 10 true a0 S fun x1 S2=>Cg 10 true a1 S2 fun x3 S4=>OX (AO 0 x1) fun x5=>OX (AE S4 1 false x5) fun x6=>OX (AO 0 x3) fun x7=>OX (AE S4 1 false x7) fun x8=>OX (A0 cf 144 [x6,x8]) fun x9=>OX (AO 1 x1) fun x10=>OX (AO 0 x10) fun x11=>OX (AE S4 1 false x11) fun x12=>OX (AO 1 x3) fun x13=>OX (AO 0 x13) fun x14=>OX (AE S4 1 false x14) fun x15=>OX (A0 cf 144 [x12,x15]) fun x16=>OX (AO 1 x1) fun x17=>OX (AO 1 x17) fun x18=>OX (AE S4 1 false x18) fun x19=>OX (AO 1 x3) fun x20=>OX (AO 1 x20) fun x21=>OX (AE S4 1 false x21) fun x22=>OX (A0 cf 144 [x19,x22]) fun x23=>OX (AO 3 x1) fun x24=>OX (AE S4 1 false x24) fun x25=>OX (AO 3 x3) fun x26=>OX (AE S4 1 false x26) fun x27=>OX (A0 cf 173 [x25,x27,(.fn 174 [])]) fun x28=>OX (AO 4 x1) fun x29=>OX (AE S4 1 false x29) fun x30=>OX (AO 4 x3) fun x31=>OX (AE S4 1 false x31) fun x32=>OX (A0 cf 144 [x30,x32]) fun x33=>OX (AO 5 x1) fun x34=>OX (AE S4 1 false x34) fun x35=>OX (AO 5 x3) fun x36=>OX (AE S4 1 false x36) fun x37=>OX (A0 cf 175 [x35,x37,(.fn 176 [])]) fun x38=>OX (AO 6 x1) fun x39=>OX (AE S4 1 false x39) fun x40=>OX (AO 6 x3) fun x41=>OX (AE S4 1 false x41) fun x42=>OX (A0 cf 144 [x40,x42]) fun x43=>OX (AO 7 x1) fun x44=>OX (AE S4 3 true x44) fun x45=>OX (AO 7 x3) fun x46=>OX (AE S4 3 true x46) fun x47=>OX (A0 cf 177 [x45,x47]) fun x48=>OX (AV 1 false [x9,x16,x23,x28,x33,x38,x43,x48]) fun x49=>OX (A0 cf 172 [(.sl 1 false x49 .ro)]) fun x50=>Post x50 S4
theorem Xz{cf:AQ}{l:List I}{fr:List D}{S:A1}{Q:List D->A1->Prop}{X:Prop}(h:(frc fr fun Au=>QX cf l Au S Q)=X):QX cf l fr S Q=X:=(bC fr _).symm.trans h
def uV:List I:=[.op (some 5) none (.fa 0 (.t 2)),.op (some 6) none (.ld 1 false (.t 5)),.op (some 7) none (.fa 0 (.t 3)),.op (some 8) none (.ld 1 false (.t 7)),.op (some 9) none (.call 144 true [.t 6,.t 8]),.op (some 10) none (.fa 1 (.t 2)),.op (some 11) none (.fa 0 (.t 10)),.op (some 12) none (.ld 1 false (.t 11)),.op (some 13) none (.fa 1 (.t 3)),.op (some 14) none (.fa 0 (.t 13)),.op (some 15) none (.ld 1 false (.t 14)),.op (some 16) none (.call 144 true [.t 12,.t 15]),.op (some 17) none (.fa 1 (.t 2)),.op (some 18) none (.fa 1 (.t 17)),.op (some 19) none (.ld 1 false (.t 18)),.op (some 20) none (.fa 1 (.t 3))]
def sK:List I:=[.op (some 21) none (.fa 1 (.t 20)),.op (some 22) none (.ld 1 false (.t 21)),.op (some 23) none (.call 144 true [.t 19,.t 22]),.op (some 24) none (.fa 3 (.t 2)),.op (some 25) none (.ld 1 false (.t 24)),.op (some 26) none (.fa 3 (.t 3)),.op (some 27) none (.ld 1 false (.t 26)),.op (some 28) none (.call 173 true [.t 25,.t 27,.c (.fn 174 [])]),.op (some 29) none (.fa 4 (.t 2)),.op (some 30) none (.ld 1 false (.t 29)),.op (some 31) none (.fa 4 (.t 3)),.op (some 32) none (.ld 1 false (.t 31)),.op (some 33) none (.call 144 true [.t 30,.t 32]),.op (some 34) none (.fa 5 (.t 2)),.op (some 35) none (.ld 1 false (.t 34)),.op (some 36) none (.fa 5 (.t 3))]
def sV:List I:=[.op (some 37) none (.ld 1 false (.t 36)),.op (some 38) none (.call 175 true [.t 35,.t 37,.c (.fn 176 [])]),.op (some 39) none (.fa 6 (.t 2)),.op (some 40) none (.ld 1 false (.t 39)),.op (some 41) none (.fa 6 (.t 3)),.op (some 42) none (.ld 1 false (.t 41)),.op (some 43) none (.call 144 true [.t 40,.t 42]),.op (some 44) none (.fa 7 (.t 2)),.op (some 45) none (.ld 3 true (.t 44)),.op (some 46) none (.fa 7 (.t 3)),.op (some 47) none (.ld 3 true (.t 46)),.op (some 48) none (.call 177 true [.t 45,.t 47]),.op (some 49) none (.EZ 1 false false [.t 9,.t 16,.t 23,.t 28,.t 33,.t 38,.t 43,.t 48]),.op (some 50) none (.call 172 true [.t 49]),.op (some 4) none (.mv (.t 50))]
abbrev m116(a2 a3:D):List D:=B0 51 [(2,a2),(3,a3)]
abbrev m116b(a2 a3 a5 a6 a7 a8 a9 a10 a11 a12 a13 a14 a15 a16 a17 a18 a19 a20:D):List D:=B0 51 [(2,a2),(3,a3),(5,a5),(6,a6),(7,a7),(8,a8),(9,a9),(10,a10),(11,a11),(12,a12),(13,a13),(14,a14),(15,a15),(16,a16),(17,a17),(18,a18),(19,a19),(20,a20)]
theorem e116_1(cf:AQ)(x1 x3:D)(S:A1)(Q:List D->A1->Prop):QX cf uV (m116 x1 x3) S Q=(
 OX (AO 0 x1) fun x5=>OX (AE S 1 false x5) fun x6=>OX (AO 0 x3) fun x7=>OX (AE S 1 false x7) fun x8=>OX (A0 cf 144 [x6,x8]) fun x9=>OX (AO 1 x1) fun x10=>OX (AO 0 x10) fun x11=>OX (AE S 1 false x11) fun x12=>OX (AO 1 x3) fun x13=>OX (AO 0 x13) fun x14=>OX (AE S 1 false x14) fun x15=>OX (A0 cf 144 [x12,x15]) fun x16=>OX (AO 1 x1) fun x17=>OX (AO 1 x17) fun x18=>OX (AE S 1 false x18) fun x19=>OX (AO 1 x3) fun x20=>Q (m116b x1 x3 x5 x6 x7 x8 x9 x10 x11 x12 x13 x14 x15 x16 x17 x18 x19 x20) S):=Xz (by kernel_rfl)
abbrev m116c(a2 a3 a5 a6 a7 a8 a9 a10 a11 a12 a13 a14 a15 a16 a17 a18 a19 a20 a21 a22 a23 a24 a25 a26 a27 a28 a29 a30 a31 a32 a33 a34 a35 a36:D):List D:=B0 51 [(2,a2),(3,a3),(5,a5),(6,a6),(7,a7),(8,a8),(9,a9),(10,a10),(11,a11),(12,a12),(13,a13),(14,a14),(15,a15),(16,a16),(17,a17),(18,a18),(19,a19),(20,a20),(21,a21),(22,a22),(23,a23),(24,a24),(25,a25),(26,a26),(27,a27),(28,a28),(29,a29),(30,a30),(31,a31),(32,a32),(33,a33),(34,a34),(35,a35),(36,a36)]
theorem e116_2(cf:AQ)(x1 x3 x5 x6 x7 x8 x9 x10 x11 x12 x13 x14 x15 x16 x17 x18 x19 x20:D)(S:A1)(Q:List D->A1->Prop):QX cf sK (m116b x1 x3 x5 x6 x7 x8 x9 x10 x11 x12 x13 x14 x15 x16 x17 x18 x19 x20) S Q=(
 OX (AO 1 x20) fun x21=>OX (AE S 1 false x21) fun x22=>OX (A0 cf 144 [x19,x22]) fun x23=>OX (AO 3 x1) fun x24=>OX (AE S 1 false x24) fun x25=>OX (AO 3 x3) fun x26=>OX (AE S 1 false x26) fun x27=>OX (A0 cf 173 [x25,x27,(.fn 174 [])]) fun x28=>OX (AO 4 x1) fun x29=>OX (AE S 1 false x29) fun x30=>OX (AO 4 x3) fun x31=>OX (AE S 1 false x31) fun x32=>OX (A0 cf 144 [x30,x32]) fun x33=>OX (AO 5 x1) fun x34=>OX (AE S 1 false x34) fun x35=>OX (AO 5 x3) fun x36=>Q (m116c x1 x3 x5 x6 x7 x8 x9 x10 x11 x12 x13 x14 x15 x16 x17 x18 x19 x20 x21 x22 x23 x24 x25 x26 x27 x28 x29 x30 x31 x32 x33 x34 x35 x36) S):=Xz (by kernel_rfl)
abbrev m116d(a2 a3 a4 a5 a6 a7 a8 a9 a10 a11 a12 a13 a14 a15 a16 a17 a18 a19 a20 a21 a22 a23 a24 a25 a26 a27 a28 a29 a30 a31 a32 a33 a34 a35 a36 a37 a38 a39 a40 a41 a42 a43 a44 a45 a46 a47 a48 a49 a50:D):List D:=B0 51 [(2,a2),(3,a3),(4,a4),(5,a5),(6,a6),(7,a7),(8,a8),(9,a9),(10,a10),(11,a11),(12,a12),(13,a13),(14,a14),(15,a15),(16,a16),(17,a17),(18,a18),(19,a19),(20,a20),(21,a21),(22,a22),(23,a23),(24,a24),(25,a25),(26,a26),(27,a27),(28,a28),(29,a29),(30,a30),(31,a31),(32,a32),(33,a33),(34,a34),(35,a35),(36,a36),(37,a37),(38,a38),(39,a39),(40,a40),(41,a41),(42,a42),(43,a43),(44,a44),(45,a45),(46,a46),(47,a47),(48,a48),(49,a49),(50,a50)]
theorem e116_3(cf:AQ)(x1 x3 x5 x6 x7 x8 x9 x10 x11 x12 x13 x14 x15 x16 x17 x18 x19 x20 x21 x22 x23 x24 x25 x26 x27 x28 x29 x30 x31 x32 x33 x34 x35 x36:D)(S:A1)(Q:List D->A1->Prop):QX cf sV (m116c x1 x3 x5 x6 x7 x8 x9 x10 x11 x12 x13 x14 x15 x16 x17 x18 x19 x20 x21 x22 x23 x24 x25 x26 x27 x28 x29 x30 x31 x32 x33 x34 x35 x36) S Q=(
 OX (AE S 1 false x36) fun x37=>OX (A0 cf 175 [x35,x37,(.fn 176 [])]) fun x38=>OX (AO 6 x1) fun x39=>OX (AE S 1 false x39) fun x40=>OX (AO 6 x3) fun x41=>OX (AE S 1 false x41) fun x42=>OX (A0 cf 144 [x40,x42]) fun x43=>OX (AO 7 x1) fun x44=>OX (AE S 3 true x44) fun x45=>OX (AO 7 x3) fun x46=>OX (AE S 3 true x46) fun x47=>OX (A0 cf 177 [x45,x47]) fun x48=>OX (AV 1 false [x9,x16,x23,x28,x33,x38,x43,x48]) fun x49=>OX (A0 cf 172 [(.sl 1 false x49 .ro)]) fun x50=>Q (m116d x1 x3 x50 x5 x6 x7 x8 x9 x10 x11 x12 x13 x14 x15 x16 x17 x18 x19 x20 x21 x22 x23 x24 x25 x26 x27 x28 x29 x30 x31 x32 x33 x34 x35 x36 x37 x38 x39 x40 x41 x42 x43 x44 x45 x46 x47 x48 (.sl 1 false x49 .ro) x50) S):=Xz (by kernel_rfl)
theorem k116(x1 x3 x5 x6 x7 x8 x9 x10 x11 x12 x13 x14 x15 x16 x17 x18 x19 x20 x21 x22 x23 x24 x25 x26 x27 x28 x29 x30 x31 x32 x33 x34 x35 x36 x37 x38 x39 x40 x41 x42 x43 x44 x45 x46 x47 x48 x49 x50:D):B7 (B0 51 [(2,x1),(3,x3),(4,x50),(5,x5),(6,x6),(7,x7),(8,x8),(9,x9),(10,x10),(11,x11),(12,x12),(13,x13),(14,x14),(15,x15),(16,x16),(17,x17),(18,x18),(19,x19),(20,x20),(21,x21),(22,x22),(23,x23),(24,x24),(25,x25),(26,x26),(27,x27),(28,x28),(29,x29),(30,x30),(31,x31),(32,x32),(33,x33),(34,x34),(35,x35),(36,x36),(37,x37),(38,x38),(39,x39),(40,x40),(41,x41),(42,x42),(43,x43),(44,x44),(45,x45),(46,x46),(47,x47),(48,x48),(49,x49),(50,x50)]) [2,3,5,6,7,8,9,10,11,12,13,14,15,16,17,18,19,20,21,22,23,24,25,26,27,28,29,30,31,32,33,34,35,36,37,38,39,40,41,42,43,44,45,46,47,48,49,50]=B0 51 [(4,x50)]:=by kernel_rfl
theorem gn(cf:AQ)(Q:List D->A1->Prop):∀(a b:List I) (fr:List D) (S:A1),QX cf (a++b) fr S Q=QX cf a fr S fun Au S'=>QX cf b Au S' Q
 |[],b,fr,S=>rfl
 |i::a,b,fr,S=>by
  simp only[KM,List.cons_append,WI]
  cases Mv cf fr S i with
  |none=>rfl
  |some p=>have:=gn cf Q a b p.1 p.2;simpa only[KM] using this
theorem h116(cf:AQ)(a0 a1:D)(c2:C)(S:A1)(Q:QT) :
  wp cf (.seq (.CN [.op (some 2) none (.box 10 true (.t 0)),.op (some 3) none (.box 10 true (.t 1)),.op (some 4) none (.mv (.c (.n 0)))] [0,1,4]) c2) (Bm d116 [a0,a1]) S Q =
  Cg 10 true a0 S fun x1 S2=>Cg 10 true a1 S2 fun x3 S4=>wp cf c2 (B0 51 [(2,x1),(3,x3)]) S4 Q:=B4 (by kernel_rfl)
theorem AAH(cf:AQ)(B:List (Nat×I))(kl:List Nat)(fr:List D)(S:A1)(Q:QT) :
  wp cf (.seq (.BB B kl) .ret) fr S Q=QX cf (Kr B) fr S fun Au S'=>Q .ret (B7 Au kl) S':=by
 have:(fun Au S'=>Q .ret (B7 Au kl) S')=fun Au S'=>VP Au kl fun fr2=>KE (fun Au S'=>wp cf .ret Au S' Q) Q .normal fr2 S':=by
  funext Au S';rw[Oa];rfl
 rw[this];rfl
theorem b116:c116=.seq (.CN [.op (some 2) none (.box 10 true (.t 0)),.op (some 3) none (.box 10 true (.t 1)),.op (some 4) none (.mv (.c (.n 0)))] [0,1,4]) (.seq (.BB [(0,.op (some 5) none (.fa 0 (.t 2))),(1,.op (some 6) none (.ld 1 false (.t 5))),(2,.op (some 7) none (.fa 0 (.t 3))),(3,.op (some 8) none (.ld 1 false (.t 7))),(4,.op (some 9) none (.call 144 true [.t 6,.t 8])),(5,.op (some 10) none (.fa 1 (.t 2))),(6,.op (some 11) none (.fa 0 (.t 10))),(7,.op (some 12) none (.ld 1 false (.t 11))),(8,.op (some 13) none (.fa 1 (.t 3))),(9,.op (some 14) none (.fa 0 (.t 13))),(10,.op (some 15) none (.ld 1 false (.t 14))),(11,.op (some 16) none (.call 144 true [.t 12,.t 15])),(12,.op (some 17) none (.fa 1 (.t 2))),(13,.op (some 18) none (.fa 1 (.t 17))),(14,.op (some 19) none (.ld 1 false (.t 18))),(15,.op (some 20) none (.fa 1 (.t 3))),(16,.op (some 21) none (.fa 1 (.t 20))),(17,.op (some 22) none (.ld 1 false (.t 21))),(18,.op (some 23) none (.call 144 true [.t 19,.t 22])),(19,.op (some 24) none (.fa 3 (.t 2))),(20,.op (some 25) none (.ld 1 false (.t 24))),(21,.op (some 26) none (.fa 3 (.t 3))),(22,.op (some 27) none (.ld 1 false (.t 26))),(23,.op (some 28) none (.call 173 true [.t 25,.t 27,.c (.fn 174 [])])),(24,.op (some 29) none (.fa 4 (.t 2))),(25,.op (some 30) none (.ld 1 false (.t 29))),(26,.op (some 31) none (.fa 4 (.t 3))),(27,.op (some 32) none (.ld 1 false (.t 31))),(28,.op (some 33) none (.call 144 true [.t 30,.t 32])),(29,.op (some 34) none (.fa 5 (.t 2))),(30,.op (some 35) none (.ld 1 false (.t 34))),(31,.op (some 36) none (.fa 5 (.t 3))),(32,.op (some 37) none (.ld 1 false (.t 36))),(33,.op (some 38) none (.call 175 true [.t 35,.t 37,.c (.fn 176 [])])),(34,.op (some 39) none (.fa 6 (.t 2))),(35,.op (some 40) none (.ld 1 false (.t 39))),(36,.op (some 41) none (.fa 6 (.t 3))),(37,.op (some 42) none (.ld 1 false (.t 41))),(38,.op (some 43) none (.call 144 true [.t 40,.t 42])),(39,.op (some 44) none (.fa 7 (.t 2))),(40,.op (some 45) none (.ld 3 true (.t 44))),(41,.op (some 46) none (.fa 7 (.t 3))),(42,.op (some 47) none (.ld 3 true (.t 46))),(43,.op (some 48) none (.call 177 true [.t 45,.t 47])),(44,.op (some 49) none (.EZ 1 false false [.t 9,.t 16,.t 23,.t 28,.t 33,.t 38,.t 43,.t 48])),(45,.op (some 50) none (.call 172 true [.t 49])),(46,.op (some 4) none (.mv (.t 50)))] [2,3,5,6,7,8,9,10,11,12,13,14,15,16,17,18,19,20,21,22,23,24,25,26,27,28,29,30,31,32,33,34,35,36,37,38,39,40,41,42,43,44,45,46,47,48,49,50]) .ret):=rfl
theorem n116:Kr [(0,.op (some 5) none (.fa 0 (.t 2))),(1,.op (some 6) none (.ld 1 false (.t 5))),(2,.op (some 7) none (.fa 0 (.t 3))),(3,.op (some 8) none (.ld 1 false (.t 7))),(4,.op (some 9) none (.call 144 true [.t 6,.t 8])),(5,.op (some 10) none (.fa 1 (.t 2))),(6,.op (some 11) none (.fa 0 (.t 10))),(7,.op (some 12) none (.ld 1 false (.t 11))),(8,.op (some 13) none (.fa 1 (.t 3))),(9,.op (some 14) none (.fa 0 (.t 13))),(10,.op (some 15) none (.ld 1 false (.t 14))),(11,.op (some 16) none (.call 144 true [.t 12,.t 15])),(12,.op (some 17) none (.fa 1 (.t 2))),(13,.op (some 18) none (.fa 1 (.t 17))),(14,.op (some 19) none (.ld 1 false (.t 18))),(15,.op (some 20) none (.fa 1 (.t 3))),(16,.op (some 21) none (.fa 1 (.t 20))),(17,.op (some 22) none (.ld 1 false (.t 21))),(18,.op (some 23) none (.call 144 true [.t 19,.t 22])),(19,.op (some 24) none (.fa 3 (.t 2))),(20,.op (some 25) none (.ld 1 false (.t 24))),(21,.op (some 26) none (.fa 3 (.t 3))),(22,.op (some 27) none (.ld 1 false (.t 26))),(23,.op (some 28) none (.call 173 true [.t 25,.t 27,.c (.fn 174 [])])),(24,.op (some 29) none (.fa 4 (.t 2))),(25,.op (some 30) none (.ld 1 false (.t 29))),(26,.op (some 31) none (.fa 4 (.t 3))),(27,.op (some 32) none (.ld 1 false (.t 31))),(28,.op (some 33) none (.call 144 true [.t 30,.t 32])),(29,.op (some 34) none (.fa 5 (.t 2))),(30,.op (some 35) none (.ld 1 false (.t 34))),(31,.op (some 36) none (.fa 5 (.t 3))),(32,.op (some 37) none (.ld 1 false (.t 36))),(33,.op (some 38) none (.call 175 true [.t 35,.t 37,.c (.fn 176 [])])),(34,.op (some 39) none (.fa 6 (.t 2))),(35,.op (some 40) none (.ld 1 false (.t 39))),(36,.op (some 41) none (.fa 6 (.t 3))),(37,.op (some 42) none (.ld 1 false (.t 41))),(38,.op (some 43) none (.call 144 true [.t 40,.t 42])),(39,.op (some 44) none (.fa 7 (.t 2))),(40,.op (some 45) none (.ld 3 true (.t 44))),(41,.op (some 46) none (.fa 7 (.t 3))),(42,.op (some 47) none (.ld 3 true (.t 46))),(43,.op (some 48) none (.call 177 true [.t 45,.t 47])),(44,.op (some 49) none (.EZ 1 false false [.t 9,.t 16,.t 23,.t 28,.t 33,.t 38,.t 43,.t 48])),(45,.op (some 50) none (.call 172 true [.t 49])),(46,.op (some 4) none (.mv (.t 50)))]=uV++(sK++sV):=rfl
theorem e116(cf:AQ)(a0 a1:D)(S:A1)(Post:PT):wp cf c116 (Bm d116 [a0,a1]) S (Aw d116.res Post)=s116 cf a0 a1 S Post:=by
 rw[b116,h116]
 simp only[AAH,n116,gn,e116_1,e116_2,e116_3,k116]
 rfl
end
open Go
def s247:Cn:=fun cf a0 a1 S Post=>OX (A0 cf 312 [a0]) fun x1=>OX (A0 cf 312 [a1]) fun x2=>WB x1
 (WB x2
 (Post (.n 0) S)
 (Post (.n (-1)) S))
 (WB x2
 (Post (.n 1) S)
 (OX (A4 .lss .num a0 a1) fun x3=>WB x3
 (Post (.n (-1)) S)
 (OX (A4 .gtr .num a0 a1) fun x4=>WB x4
 (Post (.n 1) S)
 (Post (.n 0) S))))
def e247:E2 d247 s247:=PL
def s312:EV:=fun cf a0 S Post=>OX (A4 .neq .num a0 a0) fun x1=>Post x1 S
def e312:E1 d312 s312:=Uf
def s313:Cn:=fun cf a0 a1 S Post=>OX (qy a0 a1) fun x1=>Post x1 S
def e313:E2 d313 s313:=PL
abbrev dq:Nat->Option Fn:=Ky dp
theorem noP_up{dp:Nat->Option Fn}{g:Nat}{f:Fn}(h:Ky dp g=some f):dp g=some f/\f.np<1000:=by
 unfold Ky at h;split at h
 .rename_i f' hf;split at h
  .rename_i hc;injection h with h;subst h;exact⟨hf,hc.1⟩
  .cases h
 .cases h
theorem YS(c:AQ){f:Fn}(h:f.np<1000)(a:List D)(S:A1):Bb c f a S=none:=by unfold Bb;rw[if_neg (by omega),if_neg (by omega),if_neg (by omega),if_neg (by omega),if_neg (by omega),if_neg (by omega)]
theorem Zx(dp:Nat->Option Fn):∀n,eK (Bu (Ky dp) n) (Bu dp n)
 |0=>fun _ _ _ _ e=>by cases e
 |n+1=>by
  intro g a S r e;simp only[Bu] at e ⊢;cases hg:Ky dp g with
  |none=>simp[hg] at e
  |some f=>
   simp only[hg] at e;obtain⟨h1,h2⟩:=noP_up hg;simp only[h1];split at e
   .rename_i hn;rw[if_pos hn];exact K7 f (EL (Zx dp n) (le_refl n) f.body _ _) _ e
   .rw[YS _ h2] at e;cases e
theorem zj{g:Nat}{a:List D}{S:A1}{r:D×A1}(h:call (Ky dp) g a S=some r):call dp g a S=some r:=by obtain⟨n,hn⟩:=(Ge (fun n m hm=>Eg (Ky dp) n m hm g a S) r).1 h;exact(Ge (fun n m hm=>Eg dp n m hm g a S) r).2 ⟨n,Zx dp n g a S r hn⟩
theorem lift{g:Nat}{a:List D}{r:D}(h:A0 (call dq) g a=some r):A0 (call dp) g a=some r:=by
 unfold A0 at h ⊢;split at h
 .rename_i hr;rw[if_pos hr];cases hc:call dq g (stripL a) [] with
  |none=>rw[hc] at h;cases h
  |some p=>rw[hc] at h;rw[zj hc];exact h
 .cases h
theorem di114(a0:D)(a1:D)(r:D)(ha:A9 (stripL [a0,a1])=true)(hr:AG r=true)(h:s114 (call dq) (strip a0) (strip a1) [] fun d _=>Ae d=r):A0 (call dq) 114 [a0,a1]=some r:=EO (f:=d114) rfl ⟨rfl,by decide⟩ ha hr (by rw[<-e114] at h;exact h)
theorem di116(a0:D)(a1:D)(r:D)(ha:A9 (stripL [a0,a1])=true)(hr:AG r=true)(h:s116 (call dq) (strip a0) (strip a1) [] fun d _=>Ae d=r):A0 (call dq) 116 [a0,a1]=some r:=EO (f:=d116) rfl ⟨rfl,by decide⟩ ha hr (by rw[<-e116] at h;exact h)
theorem di144(a0:D)(a1:D)(r:D)(ha:A9 (stripL [a0,a1])=true)(hr:AG r=true)(h:rX (call dq) (strip a0) (strip a1) [] fun d _=>Ae d=r):A0 (call dq) 144 [a0,a1]=some r:=EO (f:=d144) rfl ⟨rfl,by decide⟩ ha hr (by rw[<-e144] at h;exact h)
theorem di170(a0:D)(a1:D)(a2:D)(r:D)(ha:A9 (stripL [a0,a1,a2])=true)(hr:AG r=true)(h:s170 (call dq) (strip a0) (strip a1) (strip a2) [] fun d _=>Ae d=r):A0 (call dq) 170 [a0,a1,a2]=some r:=EO (f:=d170) rfl ⟨rfl,by decide⟩ ha hr (by rw[<-e170] at h;exact h)
theorem di171(a0:D)(a1:D)(r:D)(ha:A9 (stripL [a0,a1])=true)(hr:AG r=true)(h:s171 (call dq) (strip a0) (strip a1) [] fun d _=>Ae d=r):A0 (call dq) 171 [a0,a1]=some r:=EO (f:=d171) rfl ⟨rfl,by decide⟩ ha hr (by rw[<-e171] at h;exact h)
theorem di172(a0:D)(r:D)(ha:A9 (stripL [a0])=true)(hr:AG r=true)(h:s172 (call dq) (strip a0) [] fun d _=>Ae d=r):A0 (call dq) 172 [a0]=some r:=EO (f:=d172) rfl ⟨rfl,by decide⟩ ha hr (by rw[<-e172] at h;exact h)
theorem di173(a0:D)(a1:D)(a2:D)(r:D)(ha:A9 (stripL [a0,a1,a2])=true)(hr:AG r=true)(h:s173 (call dq) (strip a0) (strip a1) (strip a2) [] fun d _=>Ae d=r):A0 (call dq) 173 [a0,a1,a2]=some r:=EO (f:=d173) rfl ⟨rfl,by decide⟩ ha hr (by rw[<-e173] at h;exact h)
theorem di174(a0:D)(a1:D)(r:D)(ha:A9 (stripL [a0,a1])=true)(hr:AG r=true)(h:s174 (call dq) (strip a0) (strip a1) [] fun d _=>Ae d=r):A0 (call dq) 174 [a0,a1]=some r:=EO (f:=d174) rfl ⟨rfl,by decide⟩ ha hr (by rw[<-e174] at h;exact h)
theorem di175(a0:D)(a1:D)(a2:D)(r:D)(ha:A9 (stripL [a0,a1,a2])=true)(hr:AG r=true)(h:s175 (call dq) (strip a0) (strip a1) (strip a2) [] fun d _=>Ae d=r):A0 (call dq) 175 [a0,a1,a2]=some r:=EO (f:=d175) rfl ⟨rfl,by decide⟩ ha hr (by rw[<-e175] at h;exact h)
theorem di176(a0:D)(a1:D)(r:D)(ha:A9 (stripL [a0,a1])=true)(hr:AG r=true)(h:s176 (call dq) (strip a0) (strip a1) [] fun d _=>Ae d=r):A0 (call dq) 176 [a0,a1]=some r:=EO (f:=d176) rfl ⟨rfl,by decide⟩ ha hr (by rw[<-e176] at h;exact h)
theorem di177(a0:D)(a1:D)(r:D)(ha:A9 (stripL [a0,a1])=true)(hr:AG r=true)(h:s177 (call dq) (strip a0) (strip a1) [] fun d _=>Ae d=r):A0 (call dq) 177 [a0,a1]=some r:=EO (f:=d177) rfl ⟨rfl,by decide⟩ ha hr (by rw[<-e177] at h;exact h)
theorem di200(a0:D)(a1:D)(r:D)(ha:A9 (stripL [a0,a1])=true)(hr:AG r=true)(h:s200 (call dq) (strip a0) (strip a1) [] fun d _=>Ae d=r):A0 (call dq) 200 [a0,a1]=some r:=EO (f:=d200) rfl ⟨rfl,by decide⟩ ha hr (by rw[<-e200] at h;exact h)
theorem di222(a0:D)(r:D)(ha:A9 (stripL [a0])=true)(hr:AG r=true)(h:pZ (call dq) (strip a0) [] fun d _=>Ae d=r):A0 (call dq) 222 [a0]=some r:=EO (f:=d222) rfl ⟨rfl,by decide⟩ ha hr (by rw[<-e222] at h;exact h)
theorem di245(a0:D)(a1:D)(a2:D)(r:D)(ha:A9 (stripL [a0,a1,a2])=true)(hr:AG r=true)(h:s245 (call dq) (strip a0) (strip a1) (strip a2) [] fun d _=>Ae d=r):A0 (call dq) 245 [a0,a1,a2]=some r:=EO (f:=d245) rfl ⟨rfl,by decide⟩ ha hr (by rw[<-e245] at h;exact h)
theorem di246(a0:D)(a1:D)(r:D)(ha:A9 (stripL [a0,a1])=true)(hr:AG r=true)(h:s246 (call dq) (strip a0) (strip a1) [] fun d _=>Ae d=r):A0 (call dq) 246 [a0,a1]=some r:=EO (f:=d246) rfl ⟨rfl,by decide⟩ ha hr (by rw[<-e246] at h;exact h)
theorem di247(a0:D)(a1:D)(r:D)(ha:A9 (stripL [a0,a1])=true)(hr:AG r=true)(h:s247 (call dq) (strip a0) (strip a1) [] fun d _=>Ae d=r):A0 (call dq) 247 [a0,a1]=some r:=EO (f:=d247) rfl ⟨rfl,by decide⟩ ha hr (by rw[<-e247] at h;exact h)
theorem di248(a0:D)(a1:D)(r:D)(ha:A9 (stripL [a0,a1])=true)(hr:AG r=true)(h:s248 (call dq) (strip a0) (strip a1) [] fun d _=>Ae d=r):A0 (call dq) 248 [a0,a1]=some r:=EO (f:=d248) rfl ⟨rfl,by decide⟩ ha hr (by rw[<-e248] at h;exact h)
theorem di312(a0:D)(r:D)(ha:A9 (stripL [a0])=true)(hr:AG r=true)(h:s312 (call dq) (strip a0) [] fun d _=>Ae d=r):A0 (call dq) 312 [a0]=some r:=EO (f:=d312) rfl ⟨rfl,by decide⟩ ha hr (by rw[<-e312] at h;exact h)
theorem di313(a0:D)(a1:D)(r:D)(ha:A9 (stripL [a0,a1])=true)(hr:AG r=true)(h:s313 (call dq) (strip a0) (strip a1) [] fun d _=>Ae d=r):A0 (call dq) 313 [a0,a1]=some r:=EO (f:=d313) rfl ⟨rfl,by decide⟩ ha hr (by rw[<-e313] at h;exact h)
end Go.Proofs.YtjniafcnjbbomaaGreatDoor.DE
namespace Go.Proofs.YtjniafcnjbbomaaGreatDoor.DE.V
open Go
def CR(a b:Int):Int:=if a<b then -1 else if b<a then 1 else 0
def nJ(r s:Row):Int:=if CR r.1 s.1=0 then CR r.2 s.2 else CR r.1 s.1
def cD(r s:Row):D:=.i .i64 (nJ r s)
def Jz(r s:Row):Bool:=decide (nJ r s<0)
theorem JM(a b:Int):(a<b/\CR a b = -1)\/(a=b/\CR a b=0)\/(b<a/\CR a b=1):=by
 unfold CR;split
 .exact .inl ⟨by assumption,rfl⟩
 .split
  .exact .inr (.inr ⟨by assumption,rfl⟩)
  .exact .inr (.inl ⟨by omega,rfl⟩)
theorem VU(r s:Row):Jz r s=true<->r.1<s.1\/(r.1=s.1/\r.2<s.2):=by
 rw[Jz,decide_eq_true_iff,nJ];rcases JM r.1 s.1 with⟨h,e⟩|⟨h,e⟩|⟨h,e⟩
 .rw[e,if_neg (by omega)];omega
 .rw[e,if_pos rfl];rcases JM r.2 s.2 with⟨k,e⟩|⟨k,e⟩|⟨k,e⟩<;>rw[e]<;>omega
 .rw[e,if_neg (by omega)];omega
theorem K8(r s:Row):Jz r s=false<->¬(r.1<s.1\/(r.1=s.1/\r.2<s.2)):=by rw[<-VU];simp
theorem z222(n:Int):A0 (call dq) 222 [.i .i64 n]=some (.b false):=by apply di222 _ _ (by simp[A9]) rfl;simp[pZ]
theorem ss(a b:Int):A0 (call dq) 144 [.i .i64 a,.i .i64 b]=some (.i .i64 (CR a b)):=by
 apply di144 _ _ _ rfl rfl;simp[rX,z222];rcases JM a b with⟨h,e⟩|⟨h,e⟩|⟨h,e⟩<;>rw[e]
 .simp[h]
 .simp[h]
 .have:¬a<b:=by omega
  simp[h,this]
theorem fC{cf:AQ}{kl:List Nat}{c:C}{fr:List D}{S:A1}{Q:Ex->List D->A1->Prop}(h:W cf c (B7 fr kl) S (KE (fun Au S'=>W cf (.loop kl c) Au S' Q) Q)):W cf (.loop kl c) fr S Q:=by
 obtain⟨ex,f1,S1,he,hq⟩:=UR.1 h;have mono:∀n m,n<=m->H3 (iter (fun fr S=>BK cf c (B7 fr kl) S) n fr S) (iter (fun fr S=>BK cf c (B7 fr kl) S) m fr S):=fun n m hm=>CZ (fun _ _=>H3.refl _) n m hm fr S;cases ex with
 |normal=>
  obtain⟨yL,f2,S2,he2,Qv⟩:=UR.1 hq;simp only[BK] at he2;obtain⟨n,hn⟩:=(Ge (fun n m hm=>CZ (fun _ _=>H3.refl _) n m hm f1 S1) _).1 he2;refine UR.2 ⟨yL,f2,S2,?_,Qv⟩;simp only[BK];refine(Ge mono _).2 ⟨n+1,?_⟩;simp only[iter,he];exact hn
 |exit id=>
  refine UR.2 ⟨.exit id,f1,S1,?_,hq⟩;simp only[BK];exact(Ge mono _).2 ⟨1,by simp only[iter,he]⟩
 |ret=>
  refine UR.2 ⟨.ret,f1,S1,?_,hq⟩;simp only[BK];exact(Ge mono _).2 ⟨1,by simp only[iter,he]⟩
theorem z172(a b:Int):A0 (call dq) 172 [.sl 1 false [[.i .i64 a],[.i .i64 b]] .ro]=some (.i .i64 (if a=0 then b else a)):=by
 apply di172 _ _ rfl rfl;have w1:IntKind.i64.wrap 1=1:=wrap64 ⟨by omega,by omega⟩;have w2:IntKind.i64.wrap 2=2:=wrap64 ⟨by omega,by omega⟩;have hs:strip (.sl 1 false [[.i .i64 a],[.i .i64 b]] .ro)=.sl 1 false [[.i .i64 a],[.i .i64 b]] .ro:=rfl;rw[hs];simp[s172];apply fC;rw[<-Ay,Vv];by_cases ha:a=0
 .simp[Nv,Ak,ha,w1];apply fC;rw[<-Ay,Vv];by_cases hb:b=0
  .simp[Nv,Ak,hb,w2];apply fC;rw[<-Ay,Vv];simp[Nv,kA,Xt]
  .simp[Nv,Ak,hb]
 .simp[Nv,Ak,ha]
theorem z200(r s:Row):A0 (call dq) 200 [.agg (Ar r),.agg (Ar s)]=some (cD r s):=by apply di200 _ _ _ rfl rfl;have e1:=ss r.1 s.1;have e2:=ss r.2 s.2;have e3:=z172 (CR r.1 s.1) (CR r.2 s.2);have hc:AV 1 false [.i .i64 (CR r.1 s.1),.i .i64 (CR r.2 s.2)]=some [[.i .i64 (CR r.1 s.1)],[.i .i64 (CR r.2 s.2)]]:=rfl;simp[s200,e1,e2,hc,e3];rfl
end Go.Proofs.YtjniafcnjbbomaaGreatDoor.DE.V
namespace Go.Proofs.YtjniafcnjbbomaaGreatDoor.DE
open Go
abbrev fI(a0 a1 a4 a12 a13 a14:D):List D:=B0 26 [(0,a0),(1,a1),(4,a4),(12,a12),(13,a13),(14,a14)]
def kY:Mi:=fun cf a0 a1 a4 a12 a13 a14 S Q=>Q .ret (fI .top .top (.b true) .top .top .top) S
def zI:N6 WX fI kY:=bK
def tn:Mi:=fun cf a0 a1 a4 a12 a13 a14 S Q=>OX (A4 .lss .num a13 a12) fun x1=>WB x1
 (OX (Ak 2 a0 a13) fun x2=>OX (AE S 2 true x2) fun x3=>OX (Ak 2 a1 a13) fun x4=>OX (AE S 2 true x4) fun x5=>OX (A4 .neq (.agg [.i,.i]) x3 x5) fun x6=>WB x6
 (Q .ret (fI .top .top (.b false) .top .top .top) S)
 (OX (A4 .add .num a13 (.n 1)) fun x7=>Q .normal (fI a0 a1 a4 a12 x7 .top) S))
 (Q (.exit 0) (fI a0 a1 a4 a12 a13 x1) S)
def e324_0:L6 dw fI tn:=bu
def s324:Cn:=fun cf a0 a1 S Post=>OX (AK false a0) fun x8=>OX (AK false a1) fun x9=>OX (A4 .neq .num x8 x9) fun x10=>WB x10
 (Post (.b false) S)
 (OX (AK false a0) fun x11=>W cf (.loop [] dw) (fI a0 a1 .top x11 (.n 0) .top) S (Af 0 (QS cf WX (Aw [.t 4] Post))))
def AAK:E2 d324 s324:=PL
def i324:I2 324 s324:=Oc d324 (e:=AAK)
def s327:lX:=fun cf a0 a1 a2 a3 S Post=>OX (A4 .eql .num a2 a3) fun x1=>WB x1
 (Post a2 S)
 (OX (B8 [.n 0,.n 0,.n 0] [(0,1,false,a1),(1,1,false,a2),(2,1,false,a3)]) fun x2=>al [.n 0,.n 0,.n 0] S fun x3 S4=>OX (Ax S4 3 true x3 (.agg x2)) fun S6=>OX (Gm a0) fun x7=>OX (AO 1 x7) fun x8=>OX (AE S6 1 false x8) fun x9=>OX (A4 .eql .map x9 .Cy) fun x10=>jn (fun(y12 y13 y14:D) (S15:A1)=>OX (Gm y12) fun x16=>OX (AO 1 x16) fun x17=>OX (AE S15 1 false x17) fun x18=>OX (AE S15 3 true y13) fun x19=>OX (ON (.agg [.i,.i,.i]) true (.n 0) S15 x18 x19) fun x20=>OX (Ag x20 0) fun x21=>OX (Ag x20 1) fun x22=>OX (ES .not x22) fun x23=>jn (fun(y25 y26 y27 y28:D) (S29:A1)=>Post y27 S29) fun k24=>WB x23
 (OX (Gm y12) fun x30=>OX (AO 0 x30) fun x31=>OX (AE S15 1 false x31) fun x32=>OX (AK false x32) fun x33=>OX (A4 .add .num x33 (.n 2)) fun x34=>OX (Gm y12) fun x35=>OX (AO 1 x35) fun x36=>OX (AE S15 1 false x36) fun x37=>OX (AE S15 3 true y13) fun x38=>OX (Gm y12) fun x39=>OX (AO 0 x39) fun x40=>OX (AE S15 1 false x40) fun x41=>OX (AE S15 3 true y13) fun x42=>OX (AV 3 true [x42]) fun x43=>OX (Be 3 false x41 (.sl 3 false x43 .ro) S15) fun p45=>OX (AE p45.2 1 false x36) fun x46=>GF x46 x37=true /\
 (OX (AE p45.2 3 true y13) fun x47=>GF x47 x38=true /\
 (OX (Gm y12) fun x48=>OX (AO 0 x48) fun x49=>OX (Ax p45.2 1 false x49 p45.1) fun S51=>OX (AE S51 3 true y13) fun x52=>GF x52 x38=true /\
 (OX (ig (.agg [.i,.i,.i]) (.n 0) S51 x37 x38) fun p54=>OX (Ag p54.1 1) fun x55=>OX (oG p54.2 x37 x55 x34) fun S57=>k24 D.top D.top x34 D.top S57))))
 (k24 y12 y13 x21 x23 S15)) fun k11=>WB x10
 (mm S6 fun x58 S59=>OX (Gm a0) fun x60=>OX (AO 1 x60) fun x61=>OX (Ax S59 1 false x61 x58) fun S63=>k11 a0 x3 D.top S63)
 (k11 a0 x3 x10 S6))
def f327:F4 327 s327:=mF4 d327
def s326:Pq:=fun cf a0 a1 a2 S Post=>Cg 3 true a0 S fun x1 S2=>OX (AE S2 3 true x1) fun x3=>OX (A0 cf 158 [x3,a1]) fun x4=>OX (A4 .neq .num x4 a2) fun x5=>WB x5
 (Post (.AY [a1,a1]) S2)
 (OX (AO 1 x1) fun x6=>OX (AE S2 1 false x6) fun x7=>OX (A4 .sub .num a1 (.n 2)) fun x8=>OX (Ak 3 x7 x8) fun x9=>OX (AE S2 3 true x9) fun x10=>al [.n 0,.n 0,.n 0] S2 fun x11 S12=>OX (Ax S12 3 true x11 x10) fun S14=>OX (AO 1 x11) fun x15=>OX (AE S14 1 false x15) fun x16=>OX (AO 2 x11) fun x17=>OX (AE S14 1 false x17) fun x18=>Post (.AY [x16,x18]) S14)
def i326:I3 326 s326:=mI3 d326
def s325:TP8:=fun cf a0 a1 a2 a3 a4 a5 a6 a7 S Post=>OX (AE S 1 false a2) fun x1=>OX (A4 .eql .num a0 x1) fun x2=>OX (A8 x2 false (some a1)) fun x3=>OX (A8 x2 false (AE S 1 false a2)) fun x4=>OX (A8 x2 false (A4 .eql .num x3 x4)) fun x5=>OX (AU x2 (.b true) x5) fun x6=>WB x6
 (OX (AE S 1 false a2) fun x7=>Post x7 S)
 (OX (A4 .lss .num a0 (.n 2)) fun x8=>OX (A8 x8 true (some a1)) fun x9=>OX (A8 x8 true (A4 .lss .num x9 (.n 2))) fun x10=>OX (AU x8 x10 (.b false)) fun x11=>WB x11
 (OX (AE S 1 false a2) fun x12=>OX (A4 .sub .num (.n 1) x12) fun x13=>Post x13 S)
 (OX (AE S 1 false a3) fun x14=>OX (B8 [.n 0,.n 0] [(0,1,false,a0),(1,1,false,a1)]) fun x15=>OX (ON (.agg [.i,.i]) true (.n 0) S x14 (.agg x15)) fun x16=>OX (Ag x16 0) fun x17=>OX (Ag x16 1) fun x18=>WB x18
 (Post x17 S)
 (OX (AE S 3 true a4) fun x19=>OX (A0 cf 158 [x19,a0]) fun x20=>OX (AE S 3 true a5) fun x21=>OX (A0 cf 158 [x21,a1]) fun x22=>OX (mnD x20 x22) fun x23=>OX (AE S 3 true a4) fun x24=>OX (A0 cf 326 [x24,a0,x23]) fun x25=>OX (Ag x25 0) fun x26=>OX (Ag x25 1) fun x27=>OX (AE S 3 true a5) fun x28=>OX (A0 cf 326 [x28,a1,x23]) fun x29=>OX (Ag x29 0) fun x30=>OX (Ag x29 1) fun x31=>OX (AE S 1 false a6) fun x32=>OX (AE S 1 false a6) fun x33=>OX (NT x32) fun q35=>OX (cf q35.1 ([x26,x30]++q35.2) S) fun p36=>OX (AE p36.2 1 false a6) fun x37=>GF x37 x33=true /\
 (OX (NT x33) fun q39=>OX (cf q39.1 ([x27,x31]++q39.2) p36.2) fun p40=>OX (AE p40.2 1 false a3) fun x41=>OX (B8 [.n 0,.n 0] [(0,1,false,a0),(1,1,false,a1)]) fun x42=>OX (cf 327 [a7,x23,p36.1,p40.1] p40.2) fun p44=>OX (AE p44.2 1 false a3) fun x45=>GF x45 x41=true /\
 (OX (O8 (.agg [.i,.i]) p44.2 x41 (.agg x42) p44.1) fun S47=>OX (AE S47 1 false a3) fun x48=>OX (B8 [.n 0,.n 0] [(0,1,false,a0),(1,1,false,a1)]) fun x49=>OX (ON (.agg [.i,.i]) false (.n 0) S47 x48 (.agg x49)) fun x50=>Post x50 S47)))))
def f325:F8 325 s325:=mF8 d325
def s272:Pq:=fun cf a0 a1 a2 S Post=>Cg 3 true a0 S fun x1 S2=>Cg 3 true a1 S2 fun x3 S4=>Cg 1 false a2 S4 fun x5 S6=>al [.z 2,.z 3,.n 0] S6 fun x7 S8=>OX (AE S8 3 true x1) fun x9=>OX (A0 cf 38 [x9]) fun x10=>OX (ES .not x10) fun x11=>OX (A8 x11 false (AE S8 3 true x3)) fun x12=>OX (A8 x11 false (A0 cf 38 [x12])) fun x13=>OX (A8 x11 false (ES .not x13)) fun x14=>OX (AU x11 (.b true) x14) fun x15=>OX (A8 x15 false (AO 0 x1)) fun x16=>OX (A8 x15 false (AE S8 1 false x16)) fun x17=>OX (A8 x15 false (AO 0 x3)) fun x18=>OX (A8 x15 false (AE S8 1 false x18)) fun x19=>OX (A8 x15 false (A0 cf 324 [x17,x19])) fun x20=>OX (A8 x15 false (ES .not x20)) fun x21=>OX (AU x15 (.b true) x21) fun x22=>WB x22
 (OX (B8 [.z 2,.z 3,.n 0] []) fun x23=>OX (Ax S8 3 true x7 (.agg x23)) fun S25=>OX (CE S25 3 true x7) fun x26=>Post (.AY [x26,(.n 1)]) S25)
 (al [.z 3,.Cy] S8 fun x27 S28=>mm S28 fun x29 S30=>al [.Cy] S30 fun x31 S32=>OX (Ax S32 1 false x31 x29) fun S34=>al [.top] S34 fun x35 S36=>OX (Ax S36 1 false x35 (.fn 325 [x5,x31,x1,x3,x35,x27])) fun S38=>OX (AE S38 1 false x35) fun x39=>OX (AO 2 x1) fun x40=>OX (AE S38 1 false x40) fun x41=>OX (AO 2 x3) fun x42=>OX (AE S38 1 false x42) fun x43=>OX (NT x39) fun q45=>OX (cf q45.1 ([x41,x43]++q45.2) S38) fun p46=>OX (AO 0 x1) fun x47=>OX (AE p46.2 1 false x47) fun x48=>OX (AO 0 x27) fun x49=>OX (AE p46.2 1 false x49) fun x50=>OX (A0 cf 91 [x48,x50,p46.1]) fun x51=>al [.z 2,.z 3,.n 0] p46.2 fun x52 S53=>OX (Ax S53 3 true x52 x51) fun S55=>OX (AO 1 x52) fun x56=>OX (AE S55 1 false x56) fun x57=>OX (AK false x57) fun x58=>OX (A4 .gtr .num x58 (.n 4096)) fun x59=>WB x59
 (OX (B8 [.z 2,.z 3,.n 0] []) fun x60=>OX (Ax S55 3 true x7 (.agg x60)) fun S62=>OX (CE S62 3 true x7) fun x63=>Post (.AY [x63,(.n 6)]) S62)
 (OX (AE S55 3 true x52) fun x64=>OX (Ax S55 3 true x7 x64) fun S66=>OX (CE S66 3 true x7) fun x67=>Post (.AY [x67,(.n 0)]) S66))
def i272:I3 272 s272:=mI3 d272
def s271:Cn:=fun cf a0 a1 S Post=>Cg 3 true a0 S fun x1 S2=>Cg 3 true a1 S2 fun x3 S4=>al [.z 2,.z 3,.n 0] S4 fun x5 S6=>OX (AE S6 3 true x1) fun x7=>OX (AE S6 3 true x3) fun x8=>OX (A0 cf 272 [x7,x8,(.n 0)]) fun x9=>OX (Ag x9 0) fun x10=>OX (Ag x9 1) fun x11=>OX (Ax S6 3 true x5 x10) fun S13=>OX (CE S13 3 true x5) fun x14=>Post (.AY [x14,x11]) S13
def cB:E2 d271 s271:=PL
def i271:I2 271 s271:=Oc d271 (e:=cB)
def s198:Cn:=fun cf a0 a1 S Post=>Cg 3 true a0 S fun x1 S2=>Cg 3 true a1 S2 fun x3 S4=>al [.z 2,.z 3,.n 0] S4 fun x5 S6=>OX (AE S6 3 true x1) fun x7=>OX (AE S6 3 true x3) fun x8=>OX (A0 cf 272 [x7,x8,(.n 1)]) fun x9=>OX (Ag x9 0) fun x10=>OX (Ag x9 1) fun x11=>OX (Ax S6 3 true x5 x10) fun S13=>OX (CE S13 3 true x5) fun x14=>Post (.AY [x14,x11]) S13
def AA9:E2 d198 s198:=PL
def i198:I2 198 s198:=Oc d198 (e:=AA9)
def py:Cn:=fun cf a0 a1 S Post=>Cg 2 true a1 S fun x1 S2=>al [.z 2,.z 3,.n 0] S2 fun x3 S4=>OX (A0 cf 89 [a0]) fun x5=>OX (ES .not x5) fun x6=>WB x6
 (OX (B8 [.z 2,.z 3,.n 0] []) fun x7=>OX (Ax S4 3 true x3 (.agg x7)) fun S9=>OX (CE S9 3 true x3) fun x10=>Post (.AY [x10,(.n 1)]) S9)
 (OX (AE S4 2 true x1) fun x11=>OX (A0 cf 100 [a0,x11]) fun x12=>OX (A4 .lss .num x12 (.n 0)) fun x13=>WB x13
 (OX (B8 [.z 2,.z 3,.n 0] []) fun x14=>OX (Ax S4 3 true x3 (.agg x14)) fun S16=>OX (CE S16 3 true x3) fun x17=>Post (.AY [x17,(.n 4)]) S16)
 (OX (A0 cf 159 [a0]) fun x18=>OX (B8 [.n 0,.n 0,.n 0] [(0,1,false,x12),(1,1,false,(.n 0)),(2,1,false,(.n 1))]) fun x19=>OX (AV 3 true [(.agg x19)]) fun x20=>OX (B8 [.z 2,.z 3,.n 0] [(0,1,false,x18),(1,1,false,(.sl 3 false x20 .ro)),(2,1,false,(.n 2))]) fun x21=>OX (Ax S4 3 true x3 (.agg x21)) fun S23=>OX (CE S23 3 true x3) fun x24=>Post (.AY [x24,(.n 0)]) S23))
def pg:E2 d322 py:=PL
def i322:I2 322 py:=Oc d322 (e:=pg)
def s195:Cn:=fun cf a0 a1 S Post=>al [.z 2,.z 3,.n 0] S fun x1 S2=>OX (A0 cf 89 [a0]) fun x3=>OX (ES .not x3) fun x4=>WB x4
 (OX (B8 [.z 2,.z 3,.n 0] []) fun x5=>OX (Ax S2 3 true x1 (.agg x5)) fun S7=>OX (CE S7 3 true x1) fun x8=>Post x8 S7)
 (OX (A0 cf 159 [a0]) fun x9=>OX (B8 [.z 2,.z 3,.n 0] [(0,1,false,x9)]) fun x10=>al [.z 2,.z 3,.n 0] S2 fun x11 S12=>OX (Ax S12 3 true x11 (.agg x10)) fun S14=>jn (fun(y16 y17 y18:D) (S19:A1)=>OX (AE S19 3 true y17) fun x20=>OX (Ax S19 3 true y16 x20) fun S22=>OX (CE S22 3 true y16) fun x23=>Post x23 S22) fun k15=>WB a1
 (OX (AO 2 x11) fun x24=>OX (Ax S14 1 false x24 (.n 1)) fun S26=>k15 x1 x11 D.top S26)
 (k15 x1 x11 a1 S14))
def i195:I2 195 s195:=Oc d195
abbrev lV(a2 a3 a4 a20 a21 a22 a23:D):List D:=B0 44 [(2,a2),(3,a3),(4,a4),(20,a20),(21,a21),(22,a22),(23,a23)]
def iL:Sx:=fun cf a2 a3 a4 a20 a21 a22 a23 S Q=>OX (AE S 3 true a4) fun x1=>OX (Ax S 3 true a2 x1) fun S3=>Q .ret (lV a2 .top .top .top .top .top .top) S3
def AAX:N7 Wn lV iL:=yH
def tp:Sx:=fun cf a2 a3 a4 a20 a21 a22 a23 S Q=>OX (A4 .lss .num a22 a21) fun x4=>WB x4
 (OX (Ak 3 a20 a22) fun x5=>OX (AE S 3 true x5) fun x6=>al [.n 0,.n 0,.n 0] S fun x7 S8=>OX (Ax S8 3 true x7 x6) fun S10=>OX (AO 1 a4) fun x11=>OX (AE S10 1 false x11) fun x12=>OX (AO 0 x7) fun x13=>OX (AE S10 1 false x13) fun x14=>OX (AO 1 x7) fun x15=>OX (AE S10 1 false x15) fun x16=>OX (NT a3) fun q18=>OX (A0 cf q18.1 ([x16]++q18.2)) fun x17=>OX (AO 2 x7) fun x19=>OX (AE S10 1 false x19) fun x20=>OX (NT a3) fun q22=>OX (A0 cf q22.1 ([x20]++q22.2)) fun x21=>OX (B8 [.n 0,.n 0,.n 0] [(0,1,false,x14),(1,1,false,x17),(2,1,false,x21)]) fun x23=>OX (AV 3 true [(.agg x23)]) fun x24=>OX (Be 3 false x12 (.sl 3 false x24 .ro) S10) fun p26=>OX (AO 1 a4) fun x27=>OX (Ax p26.2 1 false x27 p26.1) fun S29=>OX (A4 .add .num a22 (.n 1)) fun x30=>Q .normal (lV a2 a3 a4 a20 a21 x30 .top) S29)
 (Q (.exit 0) (lV a2 a3 a4 a20 a21 a22 x4) S)
def e323_0:L7 dO lV tp:=yx
def s323:EV:=fun cf a0 S Post=>Cg 3 true a0 S fun x31 S32=>al [.z 2,.z 3,.n 0] S32 fun x33 S34=>OX (AE S34 3 true x31) fun x35=>OX (A0 cf 38 [x35]) fun x36=>OX (ES .not x36) fun x37=>WB x37
 (OX (B8 [.z 2,.z 3,.n 0] []) fun x38=>OX (Ax S34 3 true x33 (.agg x38)) fun S40=>OX (CE S40 3 true x33) fun x41=>Post x41 S40)
 (OX (AO 0 x31) fun x42=>OX (AE S34 1 false x42) fun x43=>OX (A0 cf 159 [x43]) fun x44=>OX (AO 2 x31) fun x45=>OX (AE S34 1 false x45) fun x46=>OX (NT (.fn 365 [])) fun q48=>OX (A0 cf q48.1 ([x46]++q48.2)) fun x47=>OX (B8 [.z 2,.z 3,.n 0] [(0,1,false,x44),(2,1,false,x47)]) fun x49=>al [.z 2,.z 3,.n 0] S34 fun x50 S51=>OX (AE S51 1 false x42) fun x52=>GF x52 x43=true /\
 (OX (AE S51 1 false x45) fun x53=>GF x53 x46=true /\
 (OX (Ax S51 3 true x50 (.agg x49)) fun S55=>OX (AO 1 x31) fun x56=>OX (AE S55 1 false x56) fun x57=>OX (AK false x57) fun x58=>W cf (.loop [] dO) (lV x33 (.fn 365 []) x50 x57 x58 (.n 0) .top) S55 (Af 0 (QS cf Wn (Aw [.cell 2 3 true] Post))))))
def nG:E1 d323 s323:=Uf
def i323:I1 323 s323:=JF d323 (e:=nG)
def s365:EV:=fun cf a0 S Post=>OX (A4 .lss .num a0 (.n 2)) fun x1=>WB x1
 (OX (A4 .sub .num (.n 1) a0) fun x2=>Post x2 S)
 (Post a0 S)
def i365:I1 365 s365:=JF d365
end Go.Proofs.YtjniafcnjbbomaaGreatDoor.DE
namespace Go.Proofs.YtjniafcnjbbomaaGreatDoor.DE.V
open Go BT
theorem v324(nl B3:Bool)(l m:List Row)(hb:Bd m.length):A0 (call dp) 324 [AN nl l,AN B3 m]=some (.b (decide (l=m))):=by
 apply i324 _ _ _ (by simp[A9]) rfl;simp[s324];by_cases hl:l.length=m.length
 .simp only[hl,if_true]
  let J:Nat->List D->A1->Prop:=fun q fr S=>∃k a4 a14,k+q=m.length/\l.take k=m.take k/\S=[]/\fr=B0 26 [(0,AN nl l),(1,AN B3 m),(4,a4),(12,.i .i64 m.length),(13,.i .i64 k),(14,a14)]
  refine AW J ?_ m.length _ _ ⟨0,_,_,by simp,by simp,rfl,rfl⟩;rintro q fr S ⟨k,a4,a14,hk,he,rfl,rfl⟩;rw[<-Ay,e324_0];simp[tn];split
  .rename_i h;obtain⟨x,hx⟩:∃x,l[k]? = some x:=⟨_,gA (by omega)⟩
   obtain⟨y,hy⟩:∃x,m[k]? = some x:=⟨_,gA (by omega)⟩
   simp[Ee _ hx,Ee _ hy];by_cases Vc:x=y
   .subst Vc;simp[Bz (hb.lt (le_of_lt h))];exact⟨q-1,by omega,k+1,_,_,by omega,Md he hx hy,rfl,rfl⟩
   .simp[Vc];exact fun e=>Vc (by rw[e,hy] at hx;injection hx with hx;exact hx.symm)
  .simp[zI,kY];exact Mc he (by omega) (by omega)
 .rw[if_neg (by omega)];exact fun h=>hl (by rw[h])
def YL:List Int->Int
 |[]=>0
 |x::l=>if x=0 then YL l else x
def cmpL{Z:Type}(c:Z->Z->Int):List Z->List Z->Int
 |[],[]=>0
 |[],_::_=>-1
 |_::_,[]=>1
 |x::l,y::m=>if c x y=0 then cmpL c l m else c x y
def Qt(l m:List UInt8):Int:=if Op.bytesLess l m then -1 else if l==m then 0 else 1
def QL(a b:Vl):Int:=YL [CR a.kind b.kind,CR a.int b.int,Qt a.text b.text]
section
variable {Z:Type}(c:Z->Z->Int)
def MK(p q:Vl × Z):Int:=YL [QL p.1 q.1,c p.2 q.2]
def EU(f g:Fc Z):Int:=YL [CR f.kind g.kind,CR f.row.1 g.row.1,CR f.row.2 g.row.2,cmpL c f.args g.args,CR f.fn g.fn,cmpL (MK c) f.items g.items,CR f.op g.op,QL f.bound g.bound]
def Ow(f g:Fc Z):Int:=YL [EU c f g,CR f.exp g.exp]
def Hw(s t:Tm Z):Int:=cmpL (Ow c) s.fs t.fs
def Oo(s t:Tm Z):Int:=YL [Hw c s t,CR s.c t.c]
def Uu(x y:An Z):Int:=cmpL (Oo c) x.ts y.ts
end
def Ey:(n:Nat)->Eu n->Eu n->Int
 |0,x,_=>nomatch x
 |n+1,x,y=>Uu (Ey n) x y
theorem BG{Z:Type}{l:List Z}{k:Nat}{x:Z}(h:l[k]? = some x):l.drop k=x::l.drop (k+1):=by obtain⟨hk,e⟩:=gB.1 h;rw[<-e];exact List.drop_eq_getElem_cons hk
theorem AZ{Z:Type}{l:List Z}{k:Nat}(h:k<l.length):∃x,l[k]? = some x:=⟨_,gA h⟩
theorem Ym(l:List Int)(hb:Bd l.length):A0 (call dq) 172 [.sl 1 false (l.map fun a=>[.i .i64 a]) .ro]=some (.i .i64 (YL l)):=by
 apply di172 _ _ (by simp[A9,AG];exact Hb _ (fun _=>rfl) l) rfl;have hs:strip (.sl 1 false (l.map fun a=>[D.i .i64 a]) .ro)=.sl 1 false (l.map fun a=>[D.i .i64 a]) .ro:=rfl;rw[hs];simp[s172]
 let J:Nat->List D->A1->Prop:=fun q fr S=>∃k a2 a9,k+q=l.length/\YL l=YL (l.drop k)/\S=[]/\fr=B0 18 [(2,a2),(3,.i .i64 0),(6,.sl 1 false (l.map fun a=>[.i .i64 a]) .ro),(7,.i .i64 l.length),(8,.i .i64 k),(9,a9)]
 refine AW J ?_ l.length _ _ ⟨0,_,_,by simp,by simp,rfl,rfl⟩;rintro q fr S ⟨k,a2,a9,hk,he,rfl,rfl⟩;rw[<-Ay,Vv];simp[Nv];split
 .rename_i h;obtain⟨x,hx⟩:=AZ (l:=l) (k:=k) (by omega);rw[BG hx,YL] at he;have hi:Ak 1 (.sl 1 false (l.map fun a=>[D.i .i64 a]) .ro) (.i .i64 k)=some (.el [.i .i64 x] 0):=by simp[Ak,hx]
  simp[hi];split<;>rename_i hx0
  .rw[if_pos hx0] at he;simp[Bz (hb.lt (le_of_lt h))];exact⟨q-1,by omega,k+1,_,_,by omega,he,rfl,rfl⟩
  .rw[if_neg hx0] at he;simp[he]
 .rw[List.drop_of_length_le (by omega),YL] at he;simp[kA,Xt,he]
theorem z312(a:Int):A0 (call dq) 312 [.i .i64 a]=some (.b false):=by apply di312 _ _ rfl rfl;simp[s312]
theorem z247(a b:Int):A0 (call dq) 247 [.i .i64 a,.i .i64 b]=some (.i .i64 (CR a b)):=by
 apply di247 _ _ _ rfl rfl;simp[s247,z312];rcases JM a b with⟨h,e⟩|⟨h,e⟩|⟨h,e⟩<;>rw[e]
 .simp[h]
 .simp[h]
 .have:¬a<b:=by omega
  simp[h,this]
theorem z313(l m:List UInt8):A0 (call dq) 313 [.s l,.s m]=some (.i .i64 (Qt l m)):=by apply di313 _ _ _ rfl rfl;simp[s313,qy,Qt]
theorem z248(l m:List UInt8):A0 (call dq) 248 [.s l,.s m]=some (.i .i64 (Qt l m)):=by apply di248 _ _ _ rfl rfl;simp[s248,z313]
theorem z177(a b:Vl):A0 (call dq) 177 [.agg (OY a),.agg (OY b)]=some (.i .i64 (QL a b)):=by apply di177 _ _ _ rfl rfl;have h:=Ym [CR a.kind b.kind,CR a.int b.int,Qt a.text b.text] (by simp[Bd]);simp only[map_cons,map_nil] at h;simp[s177,ss,z247,z248,AV,h,QL]
def SZ(v:Vl):Bool:=
 if v.kind=0 then v.text==[] else if v.kind=1 then decide (v.int=0/\v.text.length<=255) else if v.kind=2 then decide (v.int=0\/v.int=1)&&v.text==[] else false
theorem dC(v:Vl):A0 (call dp) 250 [.agg (OY v)]=some (.b (SZ v)):=by
 apply i250 _ _ rfl rfl;simp[s250,SZ];by_cases h0:v.kind=0
 .simp[h0,-Oi]
 .by_cases h1:v.kind=1
  .simp[h1];by_cases h:v.int=0<;>by_cases h':v.text.length<=255<;>simp[h,h']<;>omega
  .by_cases h2:v.kind=2
   .simp[h2];by_cases h:v.int=0<;>by_cases h':v.int=1<;>simp_all<;>split<;>simp_all
   .simp[h0,h1,h2]
section
variable {Z:Type}{e:Z->D}{c:Z->Z->Int}
theorem z170(he:GE e)(c:Fc Z->Fc Z->Int)(nl B3:Bool)(l m:List (Fc Z))(hb:Bi l.length)
  (hf:∀x,x∈l->∀y,y∈m->A0 (call dq) 171 [.agg (EF e x),.agg (EF e y)]=some (.i .i64 (c x y))) :
  A0 (call dq) 170 [BI e nl l,BI e B3 m,.fn 171 []]=some (.i .i64 (cmpL c l m)):=by
 apply di170 _ _ _ _ (by simp[A9,EH he];rfl) rfl;have hs:strip (.fn 171 [])=.fn 171 []:=rfl;simp[s170,hs]
 let J:Nat->List D->A1->Prop:=fun q fr S=>∃k a6 a14,k+q=l.length/\cmpL c l m=cmpL c (l.drop k) (m.drop k)/\fr=B0 39 [(0,BI e nl l),(1,BI e B3 m),(2,.fn 171 []),(6,a6),(11,BI e nl l),(12,.i .i64 l.length),(13,.i .i64 k),(14,a14)]
 refine AW J ?_ l.length _ _ ⟨0,_,_,by simp,by simp,rfl⟩;rintro q fr S ⟨k,a6,a14,hk,hc,rfl⟩;rw[<-Ay,e170_0];simp[tH];split
 .rename_i h;obtain⟨x,hx⟩:=AZ (l:=l) (k:=k) (by omega);rw[BG hx] at hc;simp[Aq e _ hx];split<;>rename_i hm
  .rw[drop_eq_nil_of_le (show m.length<=k by omega),cmpL] at hc;simp[hc]
  .obtain⟨y,hy⟩:=AZ (l:=m) (k:=k) (by omega);rw[BG hy,cmpL] at hc;simp[Aq e _ hy,hf x (gC hx) y (gC hy)];split<;>rename_i h0
   .rw[if_pos h0] at hc;simp[Br h hb];exact⟨q-1,by omega,k+1,_,_,by omega,hc,rfl⟩
   .rw[if_neg h0] at hc;simp[hc]
 .rw[drop_eq_nil_of_le (show l.length<=k by omega)] at hc;simp[e170_r0,ij];split
  .obtain⟨y,hy⟩:=AZ (l:=m) (k:=k) (by omega);rw[BG hy,cmpL] at hc;simp[hc]
  .rw[drop_eq_nil_of_le (show m.length<=k by omega),cmpL] at hc;simp[hc]
end
section
variable {Z:Type}{e:Z->D}
theorem z173(he:GE e)(c:Z->Z->Int)(nl B3:Bool)(l m:List Z)(hb:Bi l.length)
  (hf:∀x,x∈l->∀y,y∈m->A0 (call dq) 174 [(e x),(e y)]=some (.i .i64 (c x y))) :
  A0 (call dq) 173 [Bl e nl l,Bl e B3 m,.fn 174 []]=some (.i .i64 (cmpL c l m)):=by
 apply di173 _ _ _ _ (by simp[A9,Ed he];rfl) rfl;have hs:strip (.fn 174 [])=.fn 174 []:=rfl;simp[s173,hs]
 let J:Nat->List D->A1->Prop:=fun q fr S=>∃k a6 a14,k+q=l.length/\cmpL c l m=cmpL c (l.drop k) (m.drop k)/\fr=B0 39 [(0,Bl e nl l),(1,Bl e B3 m),(2,.fn 174 []),(6,a6),(11,Bl e nl l),(12,.i .i64 l.length),(13,.i .i64 k),(14,a14)]
 refine AW J ?_ l.length _ _ ⟨0,_,_,by simp,by simp,rfl⟩;rintro q fr S ⟨k,a6,a14,hk,hc,rfl⟩;rw[<-Ay,e173_0];simp[tK];split
 .rename_i h;obtain⟨x,hx⟩:=AZ (l:=l) (k:=k) (by omega);rw[BG hx] at hc;simp[Bq e _ hx];split<;>rename_i hm
  .rw[drop_eq_nil_of_le (show m.length<=k by omega),cmpL] at hc;simp[hc]
  .obtain⟨y,hy⟩:=AZ (l:=m) (k:=k) (by omega);rw[BG hy,cmpL] at hc;simp[Bq e _ hy,hf x (gC hx) y (gC hy)];split<;>rename_i h0
   .rw[if_pos h0] at hc;simp[Br h hb];exact⟨q-1,by omega,k+1,_,_,by omega,hc,rfl⟩
   .rw[if_neg h0] at hc;simp[hc]
 .rw[drop_eq_nil_of_le (show l.length<=k by omega)] at hc;simp[zD,iP];split
  .obtain⟨y,hy⟩:=AZ (l:=m) (k:=k) (by omega);rw[BG hy,cmpL] at hc;simp[hc]
  .rw[drop_eq_nil_of_le (show m.length<=k by omega),cmpL] at hc;simp[hc]
theorem z175(he:GE e)(c:(Vl × Z)->(Vl × Z)->Int)(nl B3:Bool)(l m:List (Vl × Z))(hb:Bi l.length)
  (hf:∀x,x∈l->∀y,y∈m->A0 (call dq) 176 [(.agg (Gw e x)),(.agg (Gw e y))]=some (.i .i64 (c x y))) :
  A0 (call dq) 175 [B6 e nl l,B6 e B3 m,.fn 176 []]=some (.i .i64 (cmpL c l m)):=by
 apply di175 _ _ _ _ (by simp[A9,EC he];rfl) rfl;have hs:strip (.fn 176 [])=.fn 176 []:=rfl;simp[s175,hs]
 let J:Nat->List D->A1->Prop:=fun q fr S=>∃k a6 a14,k+q=l.length/\cmpL c l m=cmpL c (l.drop k) (m.drop k)/\fr=B0 39 [(0,B6 e nl l),(1,B6 e B3 m),(2,.fn 176 []),(6,a6),(11,B6 e nl l),(12,.i .i64 l.length),(13,.i .i64 k),(14,a14)]
 refine AW J ?_ l.length _ _ ⟨0,_,_,by simp,by simp,rfl⟩;rintro q fr S ⟨k,a6,a14,hk,hc,rfl⟩;rw[<-Ay,e175_0];simp[qo];split
 .rename_i h;obtain⟨x,hx⟩:=AZ (l:=l) (k:=k) (by omega);rw[BG hx] at hc;simp[Bw e _ hx,Cs e he];split<;>rename_i hm
  .rw[drop_eq_nil_of_le (show m.length<=k by omega),cmpL] at hc;simp[hc]
  .obtain⟨y,hy⟩:=AZ (l:=m) (k:=k) (by omega);rw[BG hy,cmpL] at hc;simp[Bw e _ hy,hf x (gC hx) y (gC hy),Cs e he];split<;>rename_i h0
   .rw[if_pos h0] at hc;simp[Br h hb];exact⟨q-1,by omega,k+1,_,_,by omega,hc,rfl⟩
   .rw[if_neg h0] at hc;simp[hc]
 .rw[drop_eq_nil_of_le (show l.length<=k by omega)] at hc;simp[e175_r0,gN];split
  .obtain⟨y,hy⟩:=AZ (l:=m) (k:=k) (by omega);rw[BG hy,cmpL] at hc;simp[hc]
  .rw[drop_eq_nil_of_le (show m.length<=k by omega),cmpL] at hc;simp[hc]
theorem z245(he:GE e)(c:(Tm Z)->(Tm Z)->Int)(nl B3:Bool)(l m:List (Tm Z))(hb:Bi l.length)
  (hf:∀x,x∈l->∀y,y∈m->A0 (call dq) 246 [(.agg (Cj e x)),(.agg (Cj e y))]=some (.i .i64 (c x y))) :
  A0 (call dq) 245 [Gx e nl l,Gx e B3 m,.fn 246 []]=some (.i .i64 (cmpL c l m)):=by
 apply di245 _ _ _ _ (by simp[A9,HC he];rfl) rfl;have hs:strip (.fn 246 [])=.fn 246 []:=rfl;simp[s245,hs]
 let J:Nat->List D->A1->Prop:=fun q fr S=>∃k a6 a14,k+q=l.length/\cmpL c l m=cmpL c (l.drop k) (m.drop k)/\fr=B0 39 [(0,Gx e nl l),(1,Gx e B3 m),(2,.fn 246 []),(6,a6),(11,Gx e nl l),(12,.i .i64 l.length),(13,.i .i64 k),(14,a14)]
 refine AW J ?_ l.length _ _ ⟨0,_,_,by simp,by simp,rfl⟩;rintro q fr S ⟨k,a6,a14,hk,hc,rfl⟩;rw[<-Ay,e245_0];simp[tv];split
 .rename_i h;obtain⟨x,hx⟩:=AZ (l:=l) (k:=k) (by omega);rw[BG hx] at hc;simp[Ko e _ hx];split<;>rename_i hm
  .rw[drop_eq_nil_of_le (show m.length<=k by omega),cmpL] at hc;simp[hc]
  .obtain⟨y,hy⟩:=AZ (l:=m) (k:=k) (by omega);rw[BG hy,cmpL] at hc;simp[Ko e _ hy,hf x (gC hx) y (gC hy)];split<;>rename_i h0
   .rw[if_pos h0] at hc;simp[Br h hb];exact⟨q-1,by omega,k+1,_,_,by omega,hc,rfl⟩
   .rw[if_neg h0] at hc;simp[hc]
 .rw[drop_eq_nil_of_le (show l.length<=k by omega)] at hc;simp[AAm,jG];split
  .obtain⟨y,hy⟩:=AZ (l:=m) (k:=k) (by omega);rw[BG hy,cmpL] at hc;simp[hc]
  .rw[drop_eq_nil_of_le (show m.length<=k by omega),cmpL] at hc;simp[hc]
theorem v225(he:GE e)(p:Z->Bool)(f:Nat)(nl:Bool)(l:List Z)(hb:Bi l.length)(hf:∀x,x∈l->A0 (call dp) f [(e x)]=some (.b (p x))) :
  ∃r,A0 (call dp) 225 [Bl e nl l,.fn f []]=some r/\∃n:Int,r=.i .i64 n/\decide (0<=n)=l.any p:=by
 apply j225 _ _ (fun r=>∃n:Int,r=.i .i64 n/\decide (0<=n)=l.any p) (by simp[A9,Ed he];rfl) (by rintro r ⟨n,rfl,_⟩;rfl);have hs:strip (.fn f [])=.fn f []:=rfl;simp only[s225,hs];simp only[Cz,CI,E9,EA,LD,Hl,MU,KX,A5]
 let J:Nat->List D->A1->Prop:=fun q fr S=>∃k a4 a9,k+q=l.length/\l.any p=(l.drop k).any p/\fr=B0 19 [(0,Bl e nl l),(1,.fn f []),(4,a4),(7,.i .i64 l.length),(8,.i .i64 k),(9,a9)]
 refine AW J ?_ l.length _ _ ⟨0,_,_,by simp,by simp,rfl⟩;rintro q fr S ⟨k,a4,a9,hk,hc,rfl⟩;rw[<-Ay,e225_0];simp[uP];split
 .rename_i h;obtain⟨x,hx⟩:=AZ (l:=l) (k:=k) (by omega);rw[BG hx,any_cons] at hc;simp[Bq e _ hx,hf x (gC hx)];split<;>rename_i hp
  .simp only[hp,Bool.true_or] at hc;have:=List.any_eq_true.1 hc;simpa using this
  .simp only[hp,Bool.false_or] at hc;simp[Br h hb];exact⟨q-1,by omega,k+1,_,_,by omega,hc,rfl⟩
 .rw[drop_eq_nil_of_le (show l.length<=k by omega)] at hc;simp[AAi,gj];simpa using hc
theorem v151(he:GE e)(p:Z->Bool)(f:Nat)(nl:Bool)(l:List Z)(hb:Bi l.length)(hf:∀x,x∈l->A0 (call dp) f [(e x)]=some (.b (p x))) :
  A0 (call dp) 151 [Bl e nl l,.fn f []]=some (.b (l.any p)):=by
 apply i151 _ _ _ (by simp[A9,Ed he];rfl) rfl;have hs:strip (.fn f [])=.fn f []:=rfl;obtain⟨r,h,n,rfl,hn⟩:=v225 he p f nl l hb hf;simp only[s151,hs,Cz,CI,E9,EA,h,A5,Ek,KS,hn]
theorem v224(he:GE e)(p:(Fc Z)->Bool)(f:Nat)(nl:Bool)(l:List (Fc Z))(hb:Bi l.length)(hf:∀x,x∈l->A0 (call dp) f [(.agg (EF e x))]=some (.b (p x))) :
  ∃r,A0 (call dp) 224 [BI e nl l,.fn f []]=some r/\∃n:Int,r=.i .i64 n/\decide (0<=n)=l.any p:=by
 apply j224 _ _ (fun r=>∃n:Int,r=.i .i64 n/\decide (0<=n)=l.any p) (by simp[A9,EH he];rfl) (by rintro r ⟨n,rfl,_⟩;rfl);have hs:strip (.fn f [])=.fn f []:=rfl;simp only[s224,hs];simp only[Cz,CI,E9,EA,LD,Hl,MU,KX,A5]
 let J:Nat->List D->A1->Prop:=fun q fr S=>∃k a4 a9,k+q=l.length/\l.any p=(l.drop k).any p/\fr=B0 19 [(0,BI e nl l),(1,.fn f []),(4,a4),(7,.i .i64 l.length),(8,.i .i64 k),(9,a9)]
 refine AW J ?_ l.length _ _ ⟨0,_,_,by simp,by simp,rfl⟩;rintro q fr S ⟨k,a4,a9,hk,hc,rfl⟩;rw[<-Ay,e224_0];simp[qv];split
 .rename_i h;obtain⟨x,hx⟩:=AZ (l:=l) (k:=k) (by omega);rw[BG hx,any_cons] at hc;simp[Aq e _ hx,hf x (gC hx)];split<;>rename_i hp
  .simp only[hp,Bool.true_or] at hc;have:=List.any_eq_true.1 hc;simpa using this
  .simp only[hp,Bool.false_or] at hc;simp[Br h hb];exact⟨q-1,by omega,k+1,_,_,by omega,hc,rfl⟩
 .rw[drop_eq_nil_of_le (show l.length<=k by omega)] at hc;simp[AAf,jx];simpa using hc
theorem v149(he:GE e)(p:(Fc Z)->Bool)(f:Nat)(nl:Bool)(l:List (Fc Z))(hb:Bi l.length)(hf:∀x,x∈l->A0 (call dp) f [(.agg (EF e x))]=some (.b (p x))) :
  A0 (call dp) 149 [BI e nl l,.fn f []]=some (.b (l.any p)):=by
 apply i149 _ _ _ (by simp[A9,EH he];rfl) rfl;have hs:strip (.fn f [])=.fn f []:=rfl;obtain⟨r,h,n,rfl,hn⟩:=v224 he p f nl l hb hf;simp only[s149,hs,Cz,CI,E9,EA,h,A5,Ek,KS,hn]
theorem v249(he:GE e)(p:(Vl × Z)->Bool)(f:Nat)(nl:Bool)(l:List (Vl × Z))(hb:Bi l.length)(hf:∀x,x∈l->A0 (call dp) f [(.agg (Gw e x))]=some (.b (p x))) :
  ∃r,A0 (call dp) 249 [B6 e nl l,.fn f []]=some r/\∃n:Int,r=.i .i64 n/\decide (0<=n)=l.any p:=by
 apply j249 _ _ (fun r=>∃n:Int,r=.i .i64 n/\decide (0<=n)=l.any p) (by simp[A9,EC he];rfl) (by rintro r ⟨n,rfl,_⟩;rfl);have hs:strip (.fn f [])=.fn f []:=rfl;simp only[s249,hs];simp only[Cz,CI,E9,EA,LD,Hl,MU,KX,A5]
 let J:Nat->List D->A1->Prop:=fun q fr S=>∃k a4 a9,k+q=l.length/\l.any p=(l.drop k).any p/\fr=B0 19 [(0,B6 e nl l),(1,.fn f []),(4,a4),(7,.i .i64 l.length),(8,.i .i64 k),(9,a9)]
 refine AW J ?_ l.length _ _ ⟨0,_,_,by simp,by simp,rfl⟩;rintro q fr S ⟨k,a4,a9,hk,hc,rfl⟩;rw[<-Ay,e249_0];simp[rN];split
 .rename_i h;obtain⟨x,hx⟩:=AZ (l:=l) (k:=k) (by omega);rw[BG hx,any_cons] at hc;simp[Bw e _ hx,Cs e he,hf x (gC hx)];split<;>rename_i hp
  .simp only[hp,Bool.true_or] at hc;have:=List.any_eq_true.1 hc;simpa using this
  .simp only[hp,Bool.false_or] at hc;simp[Br h hb];exact⟨q-1,by omega,k+1,_,_,by omega,hc,rfl⟩
 .rw[drop_eq_nil_of_le (show l.length<=k by omega)] at hc;simp[AA1,kV];simpa using hc
theorem v182(he:GE e)(p:(Vl × Z)->Bool)(f:Nat)(nl:Bool)(l:List (Vl × Z))(hb:Bi l.length)(hf:∀x,x∈l->A0 (call dp) f [(.agg (Gw e x))]=some (.b (p x))) :
  A0 (call dp) 182 [B6 e nl l,.fn f []]=some (.b (l.any p)):=by
 apply i182 _ _ _ (by simp[A9,EC he];rfl) rfl;have hs:strip (.fn f [])=.fn f []:=rfl;obtain⟨r,h,n,rfl,hn⟩:=v249 he p f nl l hb hf;simp only[s182,hs,Cz,CI,E9,EA,h,A5,Ek,KS,hn]
theorem v220(he:GE e)(p:(Tm Z)->Bool)(f:Nat)(nl:Bool)(l:List (Tm Z))(hb:Bi l.length)(hf:∀x,x∈l->A0 (call dp) f [(.agg (Cj e x))]=some (.b (p x))) :
  ∃r,A0 (call dp) 220 [Gx e nl l,.fn f []]=some r/\∃n:Int,r=.i .i64 n/\decide (0<=n)=l.any p:=by
 apply j220 _ _ (fun r=>∃n:Int,r=.i .i64 n/\decide (0<=n)=l.any p) (by simp[A9,HC he];rfl) (by rintro r ⟨n,rfl,_⟩;rfl);have hs:strip (.fn f [])=.fn f []:=rfl;simp only[s220,hs];simp only[Cz,CI,E9,EA,LD,Hl,MU,KX,A5]
 let J:Nat->List D->A1->Prop:=fun q fr S=>∃k a4 a9,k+q=l.length/\l.any p=(l.drop k).any p/\fr=B0 19 [(0,Gx e nl l),(1,.fn f []),(4,a4),(7,.i .i64 l.length),(8,.i .i64 k),(9,a9)]
 refine AW J ?_ l.length _ _ ⟨0,_,_,by simp,by simp,rfl⟩;rintro q fr S ⟨k,a4,a9,hk,hc,rfl⟩;rw[<-Ay,e220_0];simp[qH];split
 .rename_i h;obtain⟨x,hx⟩:=AZ (l:=l) (k:=k) (by omega);rw[BG hx,any_cons] at hc;simp[Ko e _ hx,hf x (gC hx)];split<;>rename_i hp
  .simp only[hp,Bool.true_or] at hc;have:=List.any_eq_true.1 hc;simpa using this
  .simp only[hp,Bool.false_or] at hc;simp[Br h hb];exact⟨q-1,by omega,k+1,_,_,by omega,hc,rfl⟩
 .rw[drop_eq_nil_of_le (show l.length<=k by omega)] at hc;simp[e220_r0,ju];simpa using hc
theorem v139(he:GE e)(p:(Tm Z)->Bool)(f:Nat)(nl:Bool)(l:List (Tm Z))(hb:Bi l.length)(hf:∀x,x∈l->A0 (call dp) f [(.agg (Cj e x))]=some (.b (p x))) :
  A0 (call dp) 139 [Gx e nl l,.fn f []]=some (.b (l.any p)):=by
 apply i139 _ _ _ (by simp[A9,HC he];rfl) rfl;have hs:strip (.fn f [])=.fn f []:=rfl;obtain⟨r,h,n,rfl,hn⟩:=v220 he p f nl l hb hf;simp only[s139,hs,Cz,CI,E9,EA,h,A5,Ek,KS,hn]
end
def Nt{Z:Type}(e:Z->D)(ok:Z->Prop)(c:Z->Z->Int):Prop:=∀a b,ok a->A0 (call dq) 174 [e a,e b]=some (.i .i64 (c a b))
section
variable {Z:Type}{e:Z->D}{ok:Z->Prop}{c:Z->Z->Int}
theorem Ec(h:GE e)(f:Fc Z):AG (.agg (GZ e f))=true:=bF h f
theorem SP(h:GE e)(f:Fc Z):AG (.agg (EF e f))=true:=SB h f
theorem Jh(h:GE e)(f:Tm Z):AG (.agg (Cj e f))=true:=Nf h f
theorem TG(h:GE e)(f:Vl × Z):AG (.agg (Gw e f))=true:=Tk h f
theorem z176(he:GE e)(H:Nt e ok c)(p q:Vl × Z)(h:ok p.2):A0 (call dq) 176 [.agg (Gw e p),.agg (Gw e q)]=some (.i .i64 (MK c p q)):=by apply di176 _ _ _ (by simp[A9,TG he,LB e he]) rfl;have h1:=Ym [QL p.1 q.1,c p.2 q.2] (by simp[Bd]);simp only[map_cons,map_nil] at h1;simp[s176,LB e he,Cs e he,z177,H _ _ h,AV,h1,MK]
theorem v176(he:GE e)(H:Nt e ok c)(p q:Vl × Z)(h:ok p.2):A0 (call dp) 176 [.agg (Gw e p),.agg (Gw e q)]=some (.i .i64 (MK c p q)):=lift (z176 he H p q h)
theorem z116(he:GE e)(H:Nt e ok c)(f g:Fc Z)(h:KU ok f):A0 (call dq) 116 [.agg (GZ e f),.agg (GZ e g)]=some (.i .i64 (EU c f g)):=by apply di116 _ _ _ (by simp[A9,Ec he]) rfl;have h1:=Ym [CR f.kind g.kind,CR f.row.1 g.row.1,CR f.row.2 g.row.2,cmpL c f.args g.args,CR f.fn g.fn,cmpL (MK c) f.items g.items,CR f.op g.op,QL f.bound g.bound] (by simp[Bd]);simp only[map_cons,map_nil] at h1;have h2:=z173 he c f.NG g.NG f.args g.args h.OG fun x hx y _=>H x y (h.args x hx);have h3:=z175 he (MK c) f.inl g.inl f.items g.items h.NH fun x hx y _=>z176 he H x y (h.items x hx).2;simp[s116,ss,z177,h2,h3,AV,h1,EU]
theorem v116(he:GE e)(H:Nt e ok c)(f g:Fc Z)(h:KU ok f):A0 (call dp) 116 [.agg (GZ e f),.agg (GZ e g)]=some (.i .i64 (EU c f g)):=lift (z116 he H f g h)
theorem z171(he:GE e)(H:Nt e ok c)(f g:Fc Z)(h:KU ok f):A0 (call dq) 171 [.agg (EF e f),.agg (EF e g)]=some (.i .i64 (Ow c f g)):=by apply di171 _ _ _ (by simp[A9,SP he]) rfl;have h1:=Ym [EU c f g,CR f.exp g.exp] (by simp[Bd]);simp only[map_cons,map_nil] at h1;simp[s171,ss,z116 he H f g h,AV,h1,Ow]
theorem z114(he:GE e)(H:Nt e ok c)(s t:Tm Z)(h:My ok s):A0 (call dq) 114 [.agg (Cj e s),.agg (Cj e t)]=some (.i .i64 (Hw c s t)):=by apply di114 _ _ _ (by simp[A9,Jh he]) rfl;have h2:=z170 he (Ow c) s.nl t.nl s.fs t.fs h.len fun x hx y _=>z171 he H x y (h.fs x hx);simp[s114,h2,Hw]
theorem v114(he:GE e)(H:Nt e ok c)(s t:Tm Z)(h:My ok s):A0 (call dp) 114 [.agg (Cj e s),.agg (Cj e t)]=some (.i .i64 (Hw c s t)):=lift (z114 he H s t h)
theorem z246(he:GE e)(H:Nt e ok c)(s t:Tm Z)(h:My ok s):A0 (call dq) 246 [.agg (Cj e s),.agg (Cj e t)]=some (.i .i64 (Oo c s t)):=by apply di246 _ _ _ (by simp[A9,Jh he]) rfl;have h1:=Ym [Hw c s t,CR s.c t.c] (by simp[Bd]);simp only[map_cons,map_nil] at h1;simp[s246,z247,z114 he H s t h,AV,h1,Oo]
theorem z174s(he:GE e)(H:Nt e ok c):Nt (CL e) (Hd ok) (Uu c):=by intro x y h;apply di174 _ _ _ (by simp[A9,Bj he]) rfl;have h2:=z245 he (Oo c) x.nl y.nl x.ts y.ts h.len fun s hs t _=>z246 he H s t (h.ts s hs);simp only[s174,Ma];simp only[CL,h2,A5,YX,Uu]
end
theorem uG:∀n,Nt (As n) (Bf n) (Ey n)
 |0=>fun x=>nomatch x
 |n+1=>z174s (Az n) (uG n)
theorem v174(n:Nat)(a b:Eu n)(h:Bf n a):A0 (call dp) 174 [As n a,As n b]=some (.i .i64 (Ey n a b)):=lift (uG n a b h)
theorem v179(n:Nat)(x y:Eu n)(h:Bf n x):A0 (call dp) 179 [As n x,As n y]=some (.b (decide (Ey n x y=0))):=by apply i179 _ _ _ (by simp[A9,(Az n).AG,(Az n).strip]) rfl;simp[-Oi,s179,(Az n).strip,v174 n x y h]
def Ll{Z:Type}(f:Z->Nat)(l:List Z)(k:Nat):Nat:=(List.map f (l.take k)).sum
theorem H6{Z:Type}(f:Z->Nat){l:List Z}{k:Nat}{x:Z}(h:l[k]? = some x):Ll f l (k+1)=Ll f l k+f x:=uy f h
theorem JJ{Z:Type}(f:Z->Nat){l:List Z}{k:Nat}(h:l.length<=k):Ll f l k=(l.map f).sum:=by rw[Ll,List.take_of_length_le h]
section
variable {Z:Type}(s d:Z->Nat)
end
theorem gV{Z:Type}(f:Z->Nat):∀l:List Z,(l.map fun x=>1+f x).sum=l.length+(l.map f).sum
 |[]=>rfl
 |x::l=>by have:=gV f l;simp only[map_cons,sum_cons,length_cons];omega
section
variable {Z:Type}{s w d:Z->Nat}
end
section
variable {Z:Type}{w:Z->Nat}{b:Nat}
theorem PY{x:An Z}(h:Sy w x<=b){t:Tm Z}(ht:t∈x.ts):Hn w t<=b:=le_trans (Ea _ ht) h
theorem wLe_fc{t:Tm Z}(h:Hn w t<=b){f:Fc Z}(hf:f∈t.fs):Kw w f<=b:=by have:=Ea (Kw w) hf;simp only[Hn] at h;omega
theorem js{f:Fc Z}(h:Kw w f<=b){a:Z}(ha:a∈f.args):w a<=b:=by have:=Ea w ha;simp only[Kw] at h;omega
theorem Yb{f:Fc Z}(h:Kw w f<=b){p:Vl × Z}(hp:p∈f.items):w p.2<=b:=by have:=Ea (jS w) hp;simp only[Kw,jS] at h this;omega
theorem Xa{x:An Z}(h:Sy w x<=b):x.ts.length<=b:=le_trans (SX (Hn w) (fun t=>by simp only[Hn];omega) x.ts) h
theorem Xo{t:Tm Z}(h:Hn w t<=b):t.fs.length<=b:=by simp only[Hn] at h;omega
theorem tY{f:Fc Z}(h:Kw w f<=b):f.args.length<=b:=by simp only[Kw] at h;omega
theorem V0{f:Fc Z}(h:Kw w f<=b):f.items.length<=b:=by simp only[Kw] at h;omega
end
theorem wrapNb{n:Nat}(h:Bd n):IntKind.wrap .i64 (n:Int)=n:=wrap64 ⟨by omega,by unfold Bd at h;omega⟩
theorem ue{a b:Nat}(h:Bd (a+b)):IntKind.wrap .i64 ((a:Int)+b)=((a+b:Nat):Int):=by rw[wrap64 ⟨by omega,by unfold Bd at h;omega⟩];omega
section
variable {Z:Type}{w d:Z->Nat}
end
def UL{Z:Type}(g:Nat)(e:Z->D)(ok:Z->Prop):Prop:=∀a,ok a->∃z:Int,A0 (call dp) g [e a]=some (.i .i64 z)
theorem cu(k:IntKind)(a b:Int):yD (.i k a) (.i k b)=some (.i k (if b>a then b else a)):=by simp[yD]
set_option maxHeartbeats 1000000 in
theorem AA5{Z:Type}{e:Z->D}{ok:Z->Prop}(he:GE e)(H:UL 167 e ok):UL 167 (CL e) (Hd ok):=by
 intro x hx
 suffices hh:∃d,A0 (call dp) 167 [CL e x]=some d/\∃z:Int,d=.i .i64 z by obtain⟨d,h1,z,rfl⟩:=hh;exact⟨z,h1⟩
 apply j167 _ _ (by simp[A9,Bj he]) (by rintro d ⟨z,rfl⟩;rfl);simp[s167]
 let J:Nat->List D->A1->Prop:=fun q fr S=>∃k m b2 b7 b15 b25 b26 b27 b28 b33 b34 b35 b36 b46 b47 b48 b49,fr=B0 62 [(2,b2),(3,.i .i64 (m:Int)),(7,b7),(12,CL e x),(13,.i .i64 x.ts.length),(14,.i .i64 (k:Nat)),(15,b15),(25,b25),(26,b26),(27,b27),(28,b28),(33,b33),(34,b34),(35,b35),(36,b36),(46,b46),(47,b47),(48,b48),(49,b49)]/\k+q=x.ts.length
 refine AW J ?_ x.ts.length _ _ ⟨0,_,_,_,_,_,_,_,_,_,_,_,_,_,_,_,_,rfl,by simp⟩;intro q fr S hJ;obtain⟨k,m,b2,b7,b15,b25,b26,b27,b28,b33,b34,b35,b36,b46,b47,b48,b49,C7,hk⟩:=hJ;rw[C7];rw[<-Ay,e167_3];simp[wW];split
 .rename_i h;obtain⟨t,ht⟩:=AZ (l:=x.ts) (k:=k) (by omega);have Lp:=hx.ts t (gC ht);simp[Bn e _ ht]
  let J2:Nat->List D->A1->Prop:=fun q fr S=>∃i m2 b2 b7 b15 b28 b33 b34 b35 b36 b46 b47 b48 b49,fr=B0 62 [(2,b2),(3,.i .i64 (m2:Int)),(7,b7),(12,CL e x),(13,.i .i64 x.ts.length),(14,.i .i64 (k:Nat)),(15,b15),(25,BI e t.nl t.fs),(26,.i .i64 t.fs.length),(27,.i .i64 (i:Nat)),(28,b28),(33,b33),(34,b34),(35,b35),(36,b36),(46,b46),(47,b47),(48,b48),(49,b49)]/\i+q=t.fs.length
  refine AW J2 ?_ t.fs.length _ _ ⟨0,_,_,_,_,_,_,_,_,_,_,_,_,_,rfl,by simp⟩;intro q2 fr S hJ;obtain⟨i,m2,b2,b7,b15,b28,b33,b34,b35,b36,b46,b47,b48,b49,C7,hi⟩:=hJ;rw[C7];rw[<-Ay,e167_2];simp[uR];split
  .rename_i h2;obtain⟨f,hf⟩:=AZ (l:=t.fs) (k:=i) (by omega);have KB:=Lp.fs f (gC hf);simp[Aq e _ hf];obtain⟨id,hid⟩:∃id,id=S.length:=⟨_,rfl⟩
   rw[<-hid]
   let J3:Nat->List D->A1->Prop:=fun q fr S=>∃j m3 b2 b15 b28 b36 b46 b47 b48 b49,fr=B0 62 [(2,b2),(3,.i .i64 (m3:Int)),(7,.bx id 0),(12,CL e x),(13,.i .i64 x.ts.length),(14,.i .i64 (k:Nat)),(15,b15),(25,BI e t.nl t.fs),(26,.i .i64 t.fs.length),(27,.i .i64 (i:Nat)),(28,b28),(33,Bl e f.NG f.args),(34,.i .i64 f.args.length),(35,.i .i64 (j:Nat)),(36,b36),(46,b46),(47,b47),(48,b48),(49,b49)]/\j+q=f.args.length/\AA S id=some (.box (EF e f))
   refine AW J3 ?_ f.args.length _ _ ⟨0,_,_,_,_,_,_,_,_,_,rfl,by simp,by simp[hid]⟩;intro q3 fr S hJ;obtain⟨j,m3,b2,b15,b28,b36,b46,b47,b48,b49,C7,hj,hS⟩:=hJ;rw[C7];rw[<-Ay,e167_1];simp[xC];split
   .rename_i h3;obtain⟨a,ha⟩:=AZ (l:=f.args) (k:=j) (by omega);obtain⟨z,hc⟩:=H a (KB.args a (gC ha));simp[Bq e _ ha,hc];rw[Br (k:=j) h3 KB.OG];exact⟨q3-1,by omega,⟨j+1,_,_,_,_,_,_,_,_,_,rfl,by omega,hS⟩⟩
   .simp[AAs,jQ,hS]
    let J4:Nat->List D->A1->Prop:=fun q fr S=>∃j m4 b2 b7 b15 b28 b33 b34 b35 b36 b49,fr=B0 62 [(2,b2),(3,.i .i64 (m4:Int)),(7,b7),(12,CL e x),(13,.i .i64 x.ts.length),(14,.i .i64 (k:Nat)),(15,b15),(25,BI e t.nl t.fs),(26,.i .i64 t.fs.length),(27,.i .i64 (i:Nat)),(28,b28),(33,b33),(34,b34),(35,b35),(36,b36),(46,B6 e f.inl f.items),(47,.i .i64 f.items.length),(48,.i .i64 (j:Nat)),(49,b49)]/\j+q=f.items.length
    refine AW J4 ?_ f.items.length _ _ ⟨0,_,_,_,_,_,_,_,_,_,_,rfl,by simp⟩;intro q4 fr S hJ;obtain⟨j,m4,b2,b7,b15,b28,b33,b34,b35,b36,b49,C7,hj⟩:=hJ;rw[C7];rw[<-Ay,e167_0];simp[pN];split
    .rename_i h4;obtain⟨p,hp⟩:=AZ (l:=f.items) (k:=j) (by omega);obtain⟨z,hc⟩:=H p.2 (KB.items p (gC hp)).2;simp[Bw e _ hp,Cs e he,hc];rw[Br (k:=j) h4 KB.NH];exact⟨q4-1,by omega,⟨j+1,_,_,_,_,_,_,_,_,_,_,rfl,by omega⟩⟩
    .simp[ye,ir];rw[Br (k:=i) h2 Lp.len];exact⟨q2-1,by omega,⟨i+1,_,_,_,_,_,_,_,_,_,_,_,_,_,rfl,by omega⟩⟩
  .simp[yp,jj];rw[Br (k:=k) h hx.len];exact⟨q-1,by omega,⟨k+1,_,_,_,_,_,_,_,_,_,_,_,_,_,_,_,_,rfl,by omega⟩⟩
 .simp[yk,kW]
theorem tT:∀n,UL 167 (As n) (Bf n)
 |0=>fun x=>nomatch x
 |n+1=>AA5 (Az n) (tT n)
set_option maxHeartbeats 1000000 in
theorem yU{Z:Type}{e:Z->D}{ok:Z->Prop}(he:GE e)(H:UL 166 e ok):UL 166 (CL e) (Hd ok):=by
 intro x hx
 suffices hh:∃d,A0 (call dp) 166 [CL e x]=some d/\∃z:Int,d=.i .i64 z by obtain⟨d,h1,z,rfl⟩:=hh;exact⟨z,h1⟩
 apply j166 _ _ (by simp[A9,Bj he]) (by rintro d ⟨z,rfl⟩;rfl);simp[s166]
 let J:Nat->List D->A1->Prop:=fun q fr S=>∃k m b2 b7 b8 b16 b20 b21 b22 b23 b29 b32 b33 b34 b35 b45 b46 b47 b48,fr=B0 64 [(2,b2),(3,.i .i64 (m:Int)),(7,b7),(8,b8),(13,CL e x),(14,.i .i64 x.ts.length),(15,.i .i64 (k:Nat)),(16,b16),(20,b20),(21,b21),(22,b22),(23,b23),(29,b29),(32,b32),(33,b33),(34,b34),(35,b35),(45,b45),(46,b46),(47,b47),(48,b48)]/\k+q=x.ts.length
 refine AW J ?_ x.ts.length _ _ ⟨0,_,_,_,_,_,_,_,_,_,_,_,_,_,_,_,_,_,_,rfl,by simp⟩;intro q fr S hJ;obtain⟨k,m,b2,b7,b8,b16,b20,b21,b22,b23,b29,b32,b33,b34,b35,b45,b46,b47,b48,C7,hk⟩:=hJ;rw[C7];rw[<-Ay,e166_3];simp[rT];split
 .rename_i h;obtain⟨t,ht⟩:=AZ (l:=x.ts) (k:=k) (by omega);have Lp:=hx.ts t (gC ht);simp[Bn e _ ht]
  let J2:Nat->List D->A1->Prop:=fun q fr S=>∃i m2 b2 b7 b8 b16 b23 b29 b32 b33 b34 b35 b45 b46 b47 b48,fr=B0 64 [(2,b2),(3,.i .i64 (m2:Int)),(7,b7),(8,b8),(13,CL e x),(14,.i .i64 x.ts.length),(15,.i .i64 (k:Nat)),(16,b16),(20,BI e t.nl t.fs),(21,.i .i64 t.fs.length),(22,.i .i64 (i:Nat)),(23,b23),(29,b29),(32,b32),(33,b33),(34,b34),(35,b35),(45,b45),(46,b46),(47,b47),(48,b48)]/\i+q=t.fs.length
  refine AW J2 ?_ t.fs.length _ _ ⟨0,_,_,_,_,_,_,_,_,_,_,_,_,_,_,_,rfl,by simp⟩;intro q2 fr S hJ;obtain⟨i,m2,b2,b7,b8,b16,b23,b29,b32,b33,b34,b35,b45,b46,b47,b48,C7,hi⟩:=hJ;rw[C7];rw[<-Ay,e166_2];simp[rF];split
  .rename_i h2;obtain⟨f,hf⟩:=AZ (l:=t.fs) (k:=i) (by omega);have KB:=Lp.fs f (gC hf);simp[Aq e _ hf];obtain⟨id,hid⟩:∃id,id=S.length:=⟨_,rfl⟩
   rw[<-hid];split
   .simp[Rj];rw[Br (k:=i) h2 Lp.len];exact⟨q2-1,by omega,⟨i+1,_,_,_,_,_,_,_,_,_,_,_,_,_,_,_,rfl,by omega⟩⟩
   .let J3:Nat->List D->A1->Prop:=fun q fr S=>∃j m3 b2 b16 b23 b29 b35 b45 b46 b47 b48,fr=B0 64 [(2,b2),(3,.i .i64 (m2:Int)),(7,.bx id 0),(8,.i .i64 (m3:Int)),(13,CL e x),(14,.i .i64 x.ts.length),(15,.i .i64 (k:Nat)),(16,b16),(20,BI e t.nl t.fs),(21,.i .i64 t.fs.length),(22,.i .i64 (i:Nat)),(23,b23),(29,b29),(32,Bl e f.NG f.args),(33,.i .i64 f.args.length),(34,.i .i64 (j:Nat)),(35,b35),(45,b45),(46,b46),(47,b47),(48,b48)]/\j+q=f.args.length/\AA S id=some (.box (EF e f))
    refine AW J3 ?_ f.args.length _ _ ⟨0,_,_,_,_,_,_,_,_,_,_,rfl,by simp,by simp[hid]⟩;intro q3 fr S hJ;obtain⟨j,m3,b2,b16,b23,b29,b35,b45,b46,b47,b48,C7,hj,hS⟩:=hJ;rw[C7];rw[<-Ay,e166_1];simp[tP];split
    .rename_i h3;obtain⟨a,ha⟩:=AZ (l:=f.args) (k:=j) (by omega);obtain⟨z,hc⟩:=H a (KB.args a (gC ha));simp[Bq e _ ha,hc,cu];rw[Br (k:=j) h3 KB.OG];exact⟨q3-1,by omega,⟨j+1,_,_,_,_,_,_,_,_,_,_,rfl,by omega,hS⟩⟩
    .simp[zc,jU,hS]
     let J4:Nat->List D->A1->Prop:=fun q fr S=>∃j m4 b2 b7 b16 b23 b29 b32 b33 b34 b35 b48,fr=B0 64 [(2,b2),(3,.i .i64 (m2:Int)),(7,b7),(8,.i .i64 (m4:Int)),(13,CL e x),(14,.i .i64 x.ts.length),(15,.i .i64 (k:Nat)),(16,b16),(20,BI e t.nl t.fs),(21,.i .i64 t.fs.length),(22,.i .i64 (i:Nat)),(23,b23),(29,b29),(32,b32),(33,b33),(34,b34),(35,b35),(45,B6 e f.inl f.items),(46,.i .i64 f.items.length),(47,.i .i64 (j:Nat)),(48,b48)]/\j+q=f.items.length
     refine AW J4 ?_ f.items.length _ _ ⟨0,_,_,_,_,_,_,_,_,_,_,_,rfl,by simp⟩;intro q4 fr S hJ;obtain⟨j,m4,b2,b7,b16,b23,b29,b32,b33,b34,b35,b48,C7,hj⟩:=hJ;rw[C7];rw[<-Ay,e166_0];simp[pT];split
     .rename_i h4;obtain⟨p,hp⟩:=AZ (l:=f.items) (k:=j) (by omega);obtain⟨z,hc⟩:=H p.2 (KB.items p (gC hp)).2;simp[Bw e _ hp,Cs e he,hc,cu];rw[Br (k:=j) h4 KB.NH];exact⟨q4-1,by omega,⟨j+1,_,_,_,_,_,_,_,_,_,_,_,rfl,by omega⟩⟩
     .simp[e166_r0,jH,cu,yS,Rj];rw[Br (k:=i) h2 Lp.len];exact⟨q2-1,by omega,⟨i+1,_,_,_,_,_,_,_,_,_,_,_,_,_,_,_,rfl,by omega⟩⟩
  .simp[zL,gR];rw[Br (k:=k) h hx.len];exact⟨q-1,by omega,⟨k+1,_,_,_,_,_,_,_,_,_,_,_,_,_,_,_,_,_,_,rfl,by omega⟩⟩
 .simp[zx,iC]
theorem qX:∀n,UL 166 (As n) (Bf n)
 |0=>fun x=>nomatch x
 |n+1=>yU (Az n) (qX n)
def Wts{Z:Type}(e:Z->D)(sm:Z->Prop)(w:Z->Nat):Prop:=∀a L dd,sm a->L<=40->dd<=12->∃r:Nat,A0 (call dp) 75 [e a,.i .i64 (L:Nat),.i .i64 (dd:Nat)]=some (.i .i64 (r:Nat))/\(r<=L->r=w a)/\r<=L+(dd+1)*1125899906842624
theorem kG{z:Int}(n:Nat)(h:z=n)(hb:Bd n):IntKind.wrap .i64 z=(n:Int):=by rw[h];exact wrapNb hb
theorem sd{a b:Nat}(h:b<=a)(h':Bd a):IntKind.wrap .i64 ((a:Int)-b)=((a-b:Nat):Int):=by rw[wrap64 ⟨by unfold Bd at h';omega,by unfold Bd at h';omega⟩];omega
theorem ui{a:Nat}(h:1<=a)(h':Bd a):IntKind.wrap .i64 ((a:Int)-1)=((a-1:Nat):Int):=sd (b:=1) h h'
theorem aR{m t r L dd:Nat}(h1:m<=L)(h2:t<=140737488355328)(h3:r<=L-m+(dd-1+1)*1125899906842624)(h4:1<=dd):m+t+r<=L+(dd+1)*1125899906842624:=by omega
theorem wt_le{m t r L x:Nat}(h1:m+t+r<=L)(h:r<=L-m->r=x):r=x:=h (by omega)
set_option maxHeartbeats 1000000 in
theorem v75s{Z:Type}{e:Z->D}{sm:Z->Prop}{w:Z->Nat}(he:GE e)(H:Wts e sm w):Wts (CL e) (lf sm) (Sy w):=by
 intro x L dd hx hL hdd;have U5:=hx.len
 suffices hh:∃d,A0 (call dp) 75 [CL e x,.i .i64 (L:Nat),.i .i64 (dd:Nat)]=some d/\∃r:Nat,d=.i .i64 (r:Nat)/\(r<=L->r=Sy w x)/\r<=L+(dd+1)*1125899906842624 by obtain⟨d,h1,r,rfl,h2⟩:=hh;exact⟨r,h1,h2⟩
 apply j75 _ _ _ _ (by simp[A9,Bj he]) (by rintro d ⟨r,rfl,_⟩;rfl);simp[s75];split<;>rename_i h0
 .subst h0;refine⟨L+1,?_,by omega,by omega⟩;rw[Bz (by unfold Bd;omega)]
 .have PO:1<=dd:=by omega
  let J:Nat->List D->A1->Prop:=fun q fr S=>∃k m b6 b9 b10 b11 b12 b25 b49 b84 b109,fr=B0 136 [(0,CL e x),(1,.i .i64 (L:Nat)),(2,.i .i64 (dd:Nat)),(6,b6),(7,.i .i64 (m:Nat)),(8,.i .i64 (k:Nat)),(9,b9),(10,b10),(11,b11),(12,b12),(25,b25),(49,b49),(84,b84),(109,b109)]/\k+q=x.ts.length/\(m<=L->m=Ll (Hn w) x.ts k)/\m<=L+(dd+1)*1125899906842624
  refine AW J ?_ x.ts.length _ _ ⟨0,0,_,_,_,_,_,_,_,_,_,rfl,by simp,by simp[Ll],by omega⟩;intro q fr S hJ;obtain⟨k,m,b6,b9,b10,b11,b12,b25,b49,b84,b109,C7,hk,hm,hb⟩:=hJ;rw[C7];rw[<-Ay,e75_3];simp[vO];split<;>rename_i h
  .obtain⟨t,ht⟩:=AZ (l:=x.ts) (k:=k) (by omega);have oY:=gC ht;have KR:=(hx.ts t oY).len
   try simp
   split<;>rename_i hmL
   .have hm:=hm (by omega);have Er:Hn w t=1+t.fs.length+(t.fs.map (Kw w)).sum:=rfl;rw[Bz (k:=m) (by unfold Bd;omega)];simp[Bn e _ ht];rw[kG (z:=(m:Int)+1+t.fs.length) (m+1+t.fs.length) (by omega) (by unfold Bd;omega)];obtain⟨C2,hC2⟩:∃C2,C2=m+1+t.fs.length:=⟨_,rfl⟩
    rw[<-hC2]
    let J2:Nat->List D->A1->Prop:=fun q fr S=>∃i m2 b6 b10 b11 b12 b25 b49 b84 b109,fr=B0 136 [(0,CL e x),(1,.i .i64 (L:Nat)),(2,.i .i64 (dd:Nat)),(6,b6),(7,.i .i64 (m2:Nat)),(8,.i .i64 (k:Nat)),(9,.i .i64 (i:Nat)),(10,b10),(11,b11),(12,b12),(25,b25),(49,b49),(84,b84),(109,b109)]/\i+q=t.fs.length/\(m2<=L->m2=C2+Ll (Kw w) t.fs i)/\m2<=L+(dd+1)*1125899906842624
    refine AW J2 ?_ t.fs.length _ _ ⟨0,_,_,_,_,_,_,_,_,_,rfl,by simp,by simp[Ll],by omega⟩;intro q2 fr S hJ;obtain⟨i,m2,b6,b10,b11,b12,b25,b49,b84,b109,C7,hi,hm2,hb2⟩:=hJ;rw[C7];rw[<-Ay,e75_2];simp[uk,Bn e _ ht]
    have stop:∀b25:D,(t.fs.length<=i\/L<m2)->∃m'<q,J m' (B0 136 [(0,CL e x),(1,.i .i64 (L:Nat)),(2,.i .i64 (dd:Nat)),(6,b6),(7,.i .i64 (m2:Nat)),(8,.i .i64 (k+1:Nat)),(9,.top),(10,b10),(11,b11),(12,b12),(25,b25),(49,.top),(84,b84),(109,b109)]) S:=by intro b25 hor;refine⟨q-1,by omega,⟨k+1,m2,_,_,_,_,_,_,_,_,_,rfl,by omega,fun hle=>?_,hb2⟩⟩;rw[H6 _ ht,hm2 hle,JJ _ (show t.fs.length<=i by omega)];omega
    split<;>rename_i h2
    .obtain⟨f,hf⟩:=AZ (l:=t.fs) (k:=i) (by omega);have hfm:=gC hf;have KB:=(hx.ts t oY).fs f hfm;have hal:=KB.OG;have pI:=KB.NH;have htl:=KB.bound
     try simp
     split<;>rename_i hmL2
     .have hm2:=hm2 (by omega);have hsf:Kw w f=f.items.length+f.args.length+f.bound.text.length+(f.args.map w).sum+(f.items.map (jS w)).sum:=rfl;simp[Aq e _ hf];rw[ue (by unfold Bd;omega)]
      try simp
      rw[kG (z:=(m2:Int)+f.items.length+f.args.length) (m2+f.items.length+f.args.length) (by omega) (by unfold Bd;omega)]
      try simp
      rw[kG (z:=(m2:Int)+f.items.length+f.args.length+f.bound.text.length) (m2+f.items.length+f.args.length+f.bound.text.length) (by omega) (by unfold Bd;omega)];obtain⟨id,hid⟩:∃id,id=S.length:=⟨_,rfl⟩
      rw[<-hid];obtain⟨C3,hC3⟩:∃C3,C3=m2+f.items.length+f.args.length+f.bound.text.length:=⟨_,rfl⟩
      rw[<-hC3]
      let J3:Nat->List D->A1->Prop:=fun q fr S=>∃j m3 b6 b12 b25 b49 b84 b109,fr=B0 136 [(0,CL e x),(1,.i .i64 (L:Nat)),(2,.i .i64 (dd:Nat)),(6,b6),(7,.i .i64 (m3:Nat)),(8,.i .i64 (k:Nat)),(9,.i .i64 (i:Nat)),(10,.bx id 0),(11,.i .i64 (j:Nat)),(12,b12),(25,b25),(49,b49),(84,b84),(109,b109)]/\j+q=f.args.length/\(m3<=L->m3=C3+Ll w f.args j)/\m3<=L+(dd+1)*1125899906842624/\AA S id=some (.box (GZ e f))
      refine AW J3 ?_ f.args.length _ _ ⟨0,_,_,_,_,_,_,_,rfl,by simp,by simp[Ll],by omega,by simp[hid]⟩;intro q3 fr S hJ;obtain⟨j,m3,b6,b12,b25,b49,b84,b109,C7,hj,hm3,hb3,hS⟩:=hJ;rw[C7];rw[<-Ay,e75_1];simp[vj,hS]
      have next:∀b84:D,(f.args.length<=j\/L<m3)->wp (call dp) SD (B0 136 [(0,CL e x),(1,.i .i64 (L:Nat)),(2,.i .i64 (dd:Nat)),(6,b6),(7,.i .i64 (m3:Nat)),(8,.i .i64 (k:Nat)),(9,.i .i64 (i:Nat)),(10,.bx id 0),(11,.i .i64 (j:Nat)),(12,b12),(25,b25),(49,b49),(84,b84),(109,b109)]) S
        (Af 3 (QS (call dp) Tu (KE (fun Au S'=>∃m',m'<q2/\J2 m' Au S') (Af 2 (Af 1 (QS (call dp) Tl (KE (fun Au S'=>∃m',m'<q/\J m' Au S') (Af 0 (QS (call dp) Tp (Aw [.t 6] fun d _=>∃r:Nat,Ae d=.i .i64 (r:Nat)/\(r<=L->r=Sy w x)/\r<=L+(dd+1)*1125899906842624)))))))))):=by
       intro b84 hor;simp[sR,dy];obtain⟨C4,hC4⟩:∃C4,C4=C3+(f.args.map w).sum:=⟨_,rfl⟩
       let J4:Nat->List D->A1->Prop:=fun q fr S=>∃j4 m4 b6 b11 b25 b49 b84 b109,fr=B0 136 [(0,CL e x),(1,.i .i64 (L:Nat)),(2,.i .i64 (dd:Nat)),(6,b6),(7,.i .i64 (m4:Nat)),(8,.i .i64 (k:Nat)),(9,.i .i64 (i:Nat)),(10,.bx id 0),(11,b11),(12,.i .i64 (j4:Nat)),(25,b25),(49,b49),(84,b84),(109,b109)]/\j4+q=f.items.length/\(m4<=L->m4=C4+Ll (jS w) f.items j4)/\m4<=L+(dd+1)*1125899906842624/\AA S id=some (.box (GZ e f))
       refine AW J4 ?_ f.items.length _ _ ⟨0,_,_,_,_,_,_,_,rfl,by simp,fun hle=>?_,hb3,hS⟩
       .intro q4 fr S hJ;obtain⟨j4,m4,b6,b11,b25,b49,b84,b109,C7,hj4,hm4,hb4,hS4⟩:=hJ;rw[C7];rw[<-Ay,e75_0];simp[qG,hS4]
        have last:(f.items.length<=j4\/L<m4)->∃m'<q2,J2 m' (B0 136 [(0,CL e x),(1,.i .i64 (L:Nat)),(2,.i .i64 (dd:Nat)),(6,b6),(7,.i .i64 (m4:Nat)),(8,.i .i64 (k:Nat)),(9,.i .i64 (i+1:Nat)),(10,.top),(11,b11),(12,.top),(25,b25),(49,b49),(84,b84),(109,.top)]) S:=by intro hor;refine⟨q2-1,by omega,⟨i+1,m4,_,_,_,_,_,_,_,_,rfl,by omega,fun hle=>?_,hb4⟩⟩;rw[H6 _ hf,hm4 hle,JJ _ (show f.items.length<=j4 by omega)];omega
        split<;>rename_i h4
        .obtain⟨p,hp⟩:=AZ (l:=f.items) (k:=j4) (by omega);have hpm:=gC hp;obtain⟨hpv,hpo⟩:=KB.items p hpm;have hpt:=hpv
         try simp
         split<;>rename_i hmL4
         .have hm4:=hm4 (by omega);have hsi:jS w p=p.1.text.length+w p.2:=rfl;simp[Bw e _ hp];rw[ue (by unfold Bd;omega),sd (a:=L) (b:=m4) (by omega) (by unfold Bd;omega)]
          try simp
          rw[ui (a:=dd) (by omega) (by unfold Bd;omega)];obtain⟨r,hc,hr1,xI⟩:=H p.2 (L-m4) (dd-1) hpo (by omega) (by omega);rw[hc]
          try simp
          rw[kG (z:=(m4:Int)+p.1.text.length+r) (m4+p.1.text.length+r) (by omega) (by unfold Bd;omega),Bz (k:=j4) (by unfold Bd;omega)];refine⟨q4-1,by omega,⟨j4+1,_,_,_,_,_,_,_,rfl,by omega,fun hle=>?_,aR hmL4 hpt xI PO,hS4⟩⟩;rw[H6 _ hp,hsi];rw[hm4,wt_le hle hr1];simp only[add_assoc]
         .simp[XC,Rv];rw[Bz (k:=i) (by unfold Bd;omega)];exact last (by omega)
        .simp[XC,Rv];rw[Bz (k:=i) (by unfold Bd;omega)];exact last (by omega)
       .have:=hm3 hle;rw[JJ _ (show f.args.length<=j by omega)] at this;simp[Ll];omega
      split
      .rename_i h3;obtain⟨a,ha⟩:=AZ (l:=f.args) (k:=j) (by omega);have ham:=gC ha
       try simp
       split
       .rename_i hmL3;have hm3:=hm3 (by omega);simp[Bq e _ ha];rw[sd (a:=L) (b:=m3) (by omega) (by unfold Bd;omega)]
        try simp
        rw[ui (a:=dd) (by omega) (by unfold Bd;omega)];obtain⟨r,hc,hr1,xI⟩:=H a (L-m3) (dd-1) (KB.args a ham) (by omega) (by omega);rw[hc]
        try simp
        rw[ue (a:=m3) (by unfold Bd;omega),Bz (k:=j) (by unfold Bd;omega)];refine⟨q3-1,by omega,⟨j+1,_,_,_,_,_,_,_,rfl,by omega,fun hle=>?_,aR (t:=0) hmL3 (Nat.zero_le _) xI PO,hS⟩⟩;rw[H6 _ ha];rw[hm3,wt_le (t:=0) hle hr1];simp only[add_assoc]
       .exact next _ (by omega)
      .exact next _ (by omega)
     .simp[Xe,Rt];rw[Bz (k:=k) (by unfold Bd;omega)];exact stop _ (by omega)
    .simp[Xe,Rt];rw[Bz (k:=k) (by unfold Bd;omega)];exact stop _ (by omega)
   .simp[Xu,Se];exact⟨m,rfl,fun hle=>by omega,hb⟩
  .simp[Xu,Se];exact⟨m,rfl,fun hle=>by rw[hm hle,JJ _ (show x.ts.length<=k by omega)];rfl,hb⟩
theorem v75:∀n,Wts (As n) (Lu n) (CD n)
 |0=>fun x=>nomatch x
 |n+1=>v75s (Az n) (v75 n)
def WtsT{Z:Type}(e:Z->D)(ok:Z->Prop):Prop:=∀a (L:Int) (dd:Nat),ok a->dd<=12->∃z:Int,A0 (call dp) 75 [e a,.i .i64 L,.i .i64 (dd:Nat)]=some (.i .i64 z)
set_option maxHeartbeats 1000000 in
theorem v59t_s{Z:Type}{e:Z->D}{ok:Z->Prop}(he:GE e)(H:WtsT e ok):WtsT (CL e) (Hd ok):=by
 intro x L dd hx hdd
 suffices hh:∃d,A0 (call dp) 75 [CL e x,.i .i64 L,.i .i64 (dd:Nat)]=some d/\∃z:Int,d=.i .i64 z by obtain⟨d,h1,z,rfl⟩:=hh;exact⟨z,h1⟩
 apply j75 _ _ _ _ (by simp[A9,Bj he]) (by rintro d ⟨z,rfl⟩;rfl);simp[s75];intro h0;have PO:1<=dd:=by omega
 have wd:IntKind.wrap .i64 ((dd:Int)-1)=((dd-1:Nat):Int):=ui PO (by unfold Bd;omega)
 let J:Nat->List D->A1->Prop:=fun q fr S=>∃k m b6 b9 b10 b11 b12 b25 b49 b84 b109,fr=B0 136 [(0,CL e x),(1,.i .i64 (L:Int)),(2,.i .i64 (dd:Nat)),(6,b6),(7,.i .i64 (m:Int)),(8,.i .i64 (k:Nat)),(9,b9),(10,b10),(11,b11),(12,b12),(25,b25),(49,b49),(84,b84),(109,b109)]/\k+q=x.ts.length
 refine AW J ?_ x.ts.length _ _ ⟨0,_,_,_,_,_,_,_,_,_,_,rfl,by simp⟩;intro q fr S hJ;obtain⟨k,m,b6,b9,b10,b11,b12,b25,b49,b84,b109,C7,hk⟩:=hJ;rw[C7];rw[<-Ay,e75_3];simp[vO];split
 .rename_i h;obtain⟨t,ht⟩:=AZ (l:=x.ts) (k:=k) (by omega);have Lp:=hx.ts t (gC ht);split
  .simp[Bn e _ ht]
   let J2:Nat->List D->A1->Prop:=fun q fr S=>∃i m2 b6 b10 b11 b12 b25 b49 b84 b109,fr=B0 136 [(0,CL e x),(1,.i .i64 (L:Int)),(2,.i .i64 (dd:Nat)),(6,b6),(7,.i .i64 (m2:Int)),(8,.i .i64 (k:Nat)),(9,.i .i64 (i:Nat)),(10,b10),(11,b11),(12,b12),(25,b25),(49,b49),(84,b84),(109,b109)]/\i+q=t.fs.length
   refine AW J2 ?_ t.fs.length _ _ ⟨0,_,_,_,_,_,_,_,_,_,rfl,by simp⟩;intro q2 fr S hJ;obtain⟨i,m2,b6,b10,b11,b12,b25,b49,b84,b109,C7,hi⟩:=hJ;rw[C7];rw[<-Ay,e75_2];simp[uk,Bn e _ ht];split
   .rename_i h2;obtain⟨f,hf⟩:=AZ (l:=t.fs) (k:=i) (by omega);have KB:=Lp.fs f (gC hf);split
    .simp[Aq e _ hf];obtain⟨id,hid⟩:∃id,id=S.length:=⟨_,rfl⟩
     rw[<-hid]
     let J3:Nat->List D->A1->Prop:=fun q fr S=>∃j m3 b6 b12 b25 b49 b84 b109,fr=B0 136 [(0,CL e x),(1,.i .i64 (L:Int)),(2,.i .i64 (dd:Nat)),(6,b6),(7,.i .i64 (m3:Int)),(8,.i .i64 (k:Nat)),(9,.i .i64 (i:Nat)),(10,.bx id 0),(11,.i .i64 (j:Nat)),(12,b12),(25,b25),(49,b49),(84,b84),(109,b109)]/\j+q=f.args.length/\AA S id=some (.box (GZ e f))
     refine AW J3 ?_ f.args.length _ _ ⟨0,_,_,_,_,_,_,_,rfl,by simp,by simp[hid]⟩;intro q3 fr S hJ;obtain⟨j,m3,b6,b12,b25,b49,b84,b109,C7,hj,hS⟩:=hJ;rw[C7];rw[<-Ay,e75_1];simp[vj,hS]
     have next:∀b84:D,wp (call dp) SD (B0 136 [(0,CL e x),(1,.i .i64 L),(2,.i .i64 (dd:Nat)),(6,b6),(7,.i .i64 (m3:Int)),(8,.i .i64 (k:Nat)),(9,.i .i64 (i:Nat)),(10,.bx id 0),(11,.i .i64 (j:Nat)),(12,b12),(25,b25),(49,b49),(84,b84),(109,b109)]) S
       (Af 3 (QS (call dp) Tu (KE (fun Au S'=>∃m',m'<q2/\J2 m' Au S') (Af 2 (Af 1 (QS (call dp) Tl (KE (fun Au S'=>∃m',m'<q/\J m' Au S') (Af 0 (QS (call dp) Tp (Aw [.t 6] fun d _=>∃z:Int,Ae d=.i .i64 z)))))))))):=by
      intro b84;simp[sR,dy]
      let J4:Nat->List D->A1->Prop:=fun q fr S=>∃j4 m4 b6 b11 b25 b49 b84 b109,fr=B0 136 [(0,CL e x),(1,.i .i64 (L:Int)),(2,.i .i64 (dd:Nat)),(6,b6),(7,.i .i64 (m4:Int)),(8,.i .i64 (k:Nat)),(9,.i .i64 (i:Nat)),(10,.bx id 0),(11,b11),(12,.i .i64 (j4:Nat)),(25,b25),(49,b49),(84,b84),(109,b109)]/\j4+q=f.items.length/\AA S id=some (.box (GZ e f))
      refine AW J4 ?_ f.items.length _ _ ⟨0,_,_,_,_,_,_,_,rfl,by simp,hS⟩;intro q4 fr S hJ;obtain⟨j4,m4,b6,b11,b25,b49,b84,b109,C7,hj4,hS4⟩:=hJ;rw[C7];rw[<-Ay,e75_0];simp[qG,hS4];split
      .rename_i h4;obtain⟨p,hp⟩:=AZ (l:=f.items) (k:=j4) (by omega);split
       .obtain⟨z,hc⟩:=H p.2 (IntKind.wrap .i64 (L-m4)) (dd-1) (KB.items p (gC hp)).2 (by omega);simp[Bw e _ hp,wd,hc];rw[Br (k:=j4) h4 KB.NH];exact⟨q4-1,by omega,⟨j4+1,_,_,_,_,_,_,_,rfl,by omega,hS4⟩⟩
       .simp[XC,Rv];rw[Br (k:=i) h2 Lp.len];exact⟨q2-1,by omega,⟨i+1,_,_,_,_,_,_,_,_,_,rfl,by omega⟩⟩
      .simp[XC,Rv];rw[Br (k:=i) h2 Lp.len];exact⟨q2-1,by omega,⟨i+1,_,_,_,_,_,_,_,_,_,rfl,by omega⟩⟩
     split
     .rename_i h3;obtain⟨a,ha⟩:=AZ (l:=f.args) (k:=j) (by omega);split
      .obtain⟨z,hc⟩:=H a (IntKind.wrap .i64 (L-m3)) (dd-1) (KB.args a (gC ha)) (by omega);simp[Bq e _ ha,wd,hc];rw[Br (k:=j) h3 KB.OG];exact⟨q3-1,by omega,⟨j+1,_,_,_,_,_,_,_,rfl,by omega,hS⟩⟩
      .exact next _
     .exact next _
    .simp[Xe,Rt];rw[Br (k:=k) h hx.len];exact⟨q-1,by omega,⟨k+1,_,_,_,_,_,_,_,_,_,_,rfl,by omega⟩⟩
   .simp[Xe,Rt];rw[Br (k:=k) h hx.len];exact⟨q-1,by omega,⟨k+1,_,_,_,_,_,_,_,_,_,_,rfl,by omega⟩⟩
  .simp[Xu,Se]
 .simp[Xu,Se]
theorem v75t:∀n,WtsT (As n) (Bf n)
 |0=>fun x=>nomatch x
 |n+1=>v59t_s (Az n) (v75t n)
abbrev SA:Type:=Sigma Eu
def eS(p:SA):D:=As p.1 p.2
def wS(p:SA):Nat:=CD p.1 p.2
def Qc(p:SA):Prop:=Bf p.1 p.2
def ml(p:SA):Prop:=Lu p.1 p.2
theorem Ke:GE eS:=fun p=>Az p.1 p.2
theorem v25(K:Nat)(hK:K<=40)(l:List SA)(hb:Bd l.length)(Bg:∀p,p∈l->Qc p):∃d,A0 (call dp) 25 [.i .i64 (K:Nat),Bl eS false l]=some d/\∃c:Bool,d=.b c/\(c=true->∀p,p∈l->ml p->wS p<=K):=by
 apply j25 _ _ _ (by simp[A9,Ed Ke]) (by rintro d ⟨c,rfl,_⟩;rfl);simp[s25]
 let J:Nat->List D->A1->Prop:=fun q fr S=>∃k b4 b9,fr=B0 20 [(0,.i .i64 (K:Nat)),(1,Bl eS false l),(4,b4),(5,.i .i64 (k:Nat)),(9,b9)]/\k+q=l.length/\∀p,p∈l.take k->ml p->wS p<=K
 refine AW J ?_ l.length _ _ ⟨0,_,_,rfl,by simp,by simp⟩;intro q fr S hJ;obtain⟨k,b4,b9,C7,hk,hw⟩:=hJ;rw[C7];rw[<-Ay,e25_0];simp[s25_0];split<;>rename_i h
 .obtain⟨x,hx⟩:=AZ (l:=l) (k:=k) (by omega);have hxm:=gC hx;obtain⟨z,h1⟩:=v75t x.1 x.2 K 12 (Bg x hxm) (by omega);have h1:A0 (call dp) 75 [eS x,.i .i64 (K:Nat),.i .i64 12]=some (.i .i64 z):=h1;simp[Bq eS _ hx,h1];intro h4;rw[Bz (k:=k) (hb.lt (le_of_lt h))];refine⟨q-1,by omega,⟨k+1,_,_,rfl,by omega,fun p hp hsm=>?_⟩⟩;rw[BV hx] at hp;rcases List.mem_append.1 hp with hp|hp
  .exact hw p hp hsm
  .obtain rfl:=List.mem_singleton.1 hp;obtain⟨r,g1,g2,g3⟩:=v75 p.1 p.2 K 12 hsm (by omega) (by omega);have g1:A0 (call dp) 75 [eS p,.i .i64 (K:Nat),.i .i64 12]=some (.i .i64 (r:Nat)):=g1;rw[g1] at h1;injection h1 with h1;injection h1 with _ h1
   have:=g2 (by omega);unfold wS;omega
 .simp[e25_r0,ve];rw[List.take_of_length_le (by omega)] at hw;exact hw
section
variable {Z:Type}{e:Z->D}{ok:Z->Prop}{w:Z->Nat}
def idem(f:Fc Z):Bool:=decide (f.kind=3\/f.kind=4)
theorem v115(he:GE e)(f:Fc Z):A0 (call dp) 115 [.agg (GZ e f)]=some (.b (idem f)):=by apply i115 _ _ (by simp[A9,Ec he]) rfl;simp[s115,idem];by_cases h3:f.kind=3<;>by_cases h4:f.kind=4<;>simp[h3,h4]
def mO(f:Fc Z):Bool:=decide (f.exp<=64)&&decide (f.items.length<=1024)
theorem v169(he:GE e)(f:Fc Z):A0 (call dp) 169 [.agg (EF e f)]=some (.b (!mO f)):=by apply i169 _ _ (by simp[A9,SP he]) rfl;simp[s169,mO];by_cases h1:64<f.exp<;>by_cases h2:1024<f.items.length<;>simp[h1,h2]<;>omega
def bT(t:Tm Z):Bool:=decide (t.fs.length<=64)&&t.fs.all mO
theorem QU{β:Type}(p:β->Bool)(l:List β):l.any (fun x=>!p x)=!l.all p:=by
 induction l with
 |nil=>rfl
 |cons x l ih=>simp[ih,Bool.not_and]
theorem v168(he:GE e)(t:Tm Z)(hb:Bi t.fs.length):A0 (call dp) 168 [.agg (Cj e t)]=some (.b (!bT t)):=by
 apply i168 _ _ (by simp[A9,Jh he]) rfl;have h:=v149 he (fun f=>!mO f) 169 t.nl t.fs hb fun f _=>v169 he f;rw[QU] at h;unfold bT;generalize t.fs.all mO=A at *;simp[s168,h];by_cases h1:64<t.fs.length
 .simp[h1,show ¬t.fs.length<=64 by omega];omega
 .have h2:(t.fs.length:Int)<=64:=by omega
  cases A<;>simp[h1,h2]<;>omega
noncomputable def gQ(g:Nat)(d:D):Int:=match A0 (call dp) g [d] with
 |some (.i _ z)=>z
 |_=>0
theorem aA{g:Nat}{d:D}{z:Int}(h:A0 (call dp) g [d]=some (.i .i64 z)):gQ g d=z:=by unfold gQ;rw[h]
noncomputable def Ui(e:Z->D)(x:An Z):Bool:=decide (x.ts.length<=512)&&decide (gQ 166 (CL e x)<=8)&&decide (gQ 167 (CL e x)<=4096)&&x.ts.all bT
theorem v113(he:GE e)(hs:UL 167 (CL e) (Hd ok))(hd:UL 166 (CL e) (Hd ok))(x:An Z)(hx:Hd ok x):A0 (call dp) 113 [CL e x]=some (.b (Ui e x)):=by
 apply i113 _ _ (by simp[A9,Bj he]) rfl;have h:=v139 he (fun t=>!bT t) 168 x.nl x.ts hx.len fun t ht=>v168 he t (hx.ts t ht).len;have h:A0 (call dp) 139 [CL e x,.fn 168 []]=some (.b (x.ts.any fun t=>!bT t)):=h;rw[QU] at h;unfold Ui;generalize x.ts.all bT=A at *;obtain⟨z1,e1⟩:=hs x hx;obtain⟨z2,e2⟩:=hd x hx;rw[aA e1,aA e2];simp[s113,e1,e2,h];by_cases h1:512<x.ts.length
 .simp[h1,show ¬x.ts.length<=512 by omega];omega
 .by_cases h2:8<z2
  .simp[h1,h2,show ¬z2<=8 by omega]
  .by_cases h3:4096<z1
   .simp[h1,h2,h3,show ¬z1<=4096 by omega]
   .have k1:(x.ts.length:Int)<=512:=by omega
    have k2:z2<=8:=by omega
    have k3:z1<=4096:=by omega
    cases A<;>simp[h1,h2,h3,k1,k2,k3]<;>omega
def ot(x:An Z):Bool:=match x.ts with
 |[t]=>decide (t.fs.length=0)
 |_=>false
def bc(x:An Z):Bool:=match x.ts with
 |[t]=>decide (t.c=1)&&(match t.fs with
  |[f]=>decide (f.exp=1)&&(decide (f.kind=2)||idem f)
  |_=>false)
 |_=>false
def Qk(x:An Z):Bool:=x.ts.any fun t=>decide (t.fs.length=0)
@[simp] theorem iaD_terms0(k:IntKind)(nl:Bool)(t:Tm Z)(l:List (Tm Z)):Ak 2 (Gx e nl (t::l)) (.i k 0)=some (.el (Cj e t) 0):=Ko e k (n:=0) rfl
@[simp] theorem iaD_facs0(k:IntKind)(nl:Bool)(t:Fc Z)(l:List (Fc Z)):Ak 11 (BI e nl (t::l)) (.i k 0)=some (.el (EF e t) 0):=Aq e k (n:=0) rfl
@[simp] theorem iaD_args0(k:IntKind)(nl:Bool)(t:Z)(l:List Z):Ak 1 (Bl e nl (t::l)) (.i k 0)=some (.el [e t] 0):=Bq e k (n:=0) rfl
@[simp] theorem iaD_args1(k:IntKind)(nl:Bool)(t u:Z)(l:List Z):Ak 1 (Bl e nl (t::u::l)) (.i k 1)=some (.el [e u] 0):=Bq e k (n:=1) rfl
theorem v180(he:GE e)(x:An Z):A0 (call dp) 180 [CL e x]=some (.b (ot x)):=by
 apply i180 _ _ (by simp[A9,Bj he]) rfl;obtain⟨nl,ts⟩:=x
 match ts with
 |[]=>simp[s180,CL,ot]
 |[t]=>simp[-Oi,s180,CL,ot]
 |t::u::l=>simp[s180,CL,ot];omega
theorem v181(he:GE e)(x:An Z):A0 (call dp) 181 [CL e x]=some (.b (bc x)):=by
 apply i181 _ _ (by simp[A9,Bj he]) rfl;obtain⟨nl,ts⟩:=x
 match ts with
 |[]=>simp[aw,CL,bc]
 |[⟨c,fnl,fs⟩]=>
  by_cases hc:c=1
  .match fs with
   |[]=>simp[aw,CL,bc,hc]
   |[f]=>
    simp[aw,CL,bc,hc,v115 he];by_cases h1:f.exp=1
    .by_cases h2:f.kind=2
     .simp[h1,h2]
     .simp[h1,h2]
    .simp[h1]
   |f::g::l=>
    have:¬((l.length:Int)+1+1=1):=by omega
    simp[aw,CL,bc,hc,this]
  .simp[aw,CL,bc,hc]
 |t::u::l=>
  have:¬((l.length:Int)+1+1=1):=by omega
  simp[aw,CL,bc,this]
theorem v140(he:GE e)(t:Tm Z):A0 (call dp) 140 [.agg (Cj e t)]=some (.b (decide (t.fs.length=0))):=by
 apply i140 _ _ (by simp[A9,Jh he]) rfl;have:decide ((t.fs.length:Int)=0)=decide (t.fs.length=0):=by rw[decide_eq_decide];omega
 simp[-Oi,s140]
theorem v77(he:GE e)(x:An Z)(hb:Bi x.ts.length):A0 (call dp) 77 [CL e x]=some (.b (Qk x)):=by apply i77 _ _ (by simp[A9,Bj he]) rfl;have h:=v139 he (fun t=>decide (t.fs.length=0)) 140 x.nl x.ts hb fun t _=>v140 he t;have h:A0 (call dp) 139 [CL e x,.fn 140 []]=some (.b (Qk x)):=h;simp[-Oi,s77,h]
def Y5(fn:Int)(b:Vl)(p:Vl × Z):Bool:=!SZ p.1||!decide (p.1.kind=b.kind)||(decide (fn=0) && !decide (p.1.int=1))
def mD(fn:Int)(items:List (Vl × Z))(op:Int)(b:Vl):Bool:=
 decide (0<=fn)&&decide (fn<=3)&&decide (5<=op)&&decide (op<=10)&&SZ b && !(decide (fn=0\/fn=1) && !decide (b.kind=0)) && !items.any (Y5 fn b)
theorem v251(he:GE e){S:A1}{ib ifn:Nat}{fn:Int}{b:Vl}(p:Vl × Z)(h1:AA S ib=some (.box (OY b)))(h2:AA S ifn=some (.box [.i .i64 fn])) :
  ∃r S',call dp 251 [.agg (Gw e p),.bx ib 0,.bx ifn 0] S=some (r,S')/\r=.b (Y5 fn b p)/\S'=.box (Gw e p)::S:=by
 obtain⟨r,S',e1,e2,e3⟩:=f251 (.agg (Gw e p)) (.bx ib 0) (.bx ifn 0) S (fun r S'=>r=.b (Y5 fn b p)/\S'=.box (Gw e p)::S) (by
  have n1:=AJ h1;have n2:=AJ h2;simp[s251,Cs e he,dC,show ¬ib=S.length by omega,show ¬ifn=S.length by omega,h1,h2,Y5];by_cases k1:SZ p.1=true
  .by_cases k2:p.1.kind=b.kind
   .by_cases k3:fn=0
    .by_cases k4:p.1.int=1<;>simp[k1,k2,k3,k4]
    .simp[k1,k2,k3]
   .simp[k1,k2]
  .simp[k1])
 exact⟨r,S',e1,e2,e3⟩
theorem v2249(he:GE e)(nl:Bool)(l:List (Vl × Z))(hb:Bi l.length){S0:A1}{ib ifn:Nat}{fn:Int}{b:Vl}(p:Vl × Z->Bool)(hp:p=Y5 fn b)(h1:AA S0 ib=some (.box (OY b)))(h2:AA S0 ifn=some (.box [.i .i64 fn])) :
  ∃r S',call dp 2249 [B6 e nl l,.fn 251 [.bx ib 0,.bx ifn 0]] S0=some (r,S')/\∃n:Int,r=.i .i64 n/\decide (0<=n)=l.any p:=by
 refine f2249 _ _ _ (fun r _=>∃n:Int,r=.i .i64 n/\decide (0<=n)=l.any p) ?_;simp[s2249]
 let J:Nat->List D->A1->Prop:=fun q fr S=>∃k b4 b9,fr=B0 19 [(0,B6 e nl l),(1,.fn 251 [.bx ib 0,.bx ifn 0]),(4,b4),(7,.i .i64 l.length),(8,.i .i64 (k:Nat)),(9,b9)]/\k+q=l.length/\l.any p=(l.drop k).any p/\AA S ib=some (.box (OY b))/\AA S ifn=some (.box [.i .i64 fn])
 refine AW J ?_ l.length _ _ ⟨0,_,_,rfl,by simp,by simp,h1,h2⟩;intro q fr S hJ;obtain⟨k,b4,b9,C7,hk,hc,YR,Qf⟩:=hJ;rw[C7];rw[<-Ay,e2249_0];simp[jk];split
 .rename_i h;obtain⟨x,hx⟩:=AZ (l:=l) (k:=k) (by omega);obtain⟨r,S',c1,rfl,rfl⟩:=v251 he x YR Qf;rw[BG hx,any_cons] at hc;simp[Bw e _ hx,Cs e he,c1,<-hp];split<;>rename_i xS
  .simp only[xS,Bool.true_or] at hc;have:=List.any_eq_true.1 hc;simpa using this
  .simp only[xS,Bool.false_or] at hc;rw[Br (k:=k) h hb];exact⟨q-1,by omega,⟨k+1,_,_,rfl,by omega,hc,AM YR,AM Qf⟩⟩
 .rw[drop_eq_nil_of_le (show l.length<=k by omega)] at hc;simp[uK,Zi];simpa using hc
theorem v185(
       he:GE e) (fn op:Int) (b:Vl) (nl:Bool) (l:List (Vl × Z)) (hb:Bi l.length):A0 (call dp) 185 [.i .i64 fn,B6 e nl l,.i .i64 op,.agg (OY b)]=some (.b (mD fn l op b)):=by
 apply i185 _ _ _ _ _ (by simp[A9,EC he]) rfl;simp[s185,dC];have YR:AA [B9.box (OY b),B9.box [D.i .i64 fn]] 1=some (.box (OY b)):=rfl;have Qf:AA [B9.box (OY b),B9.box [D.i .i64 fn]] 0=some (.box [D.i .i64 fn]):=rfl;obtain⟨r,S',c1,n,rfl,hn⟩:=v2249 he nl l hb _ rfl YR Qf
 have hc:∃OJ,call dp 2182 [B6 e nl l,.fn 251 [.bx 1 0,.bx 0 0]] [B9.box (OY b),B9.box [D.i .i64 fn]]=some (.b (l.any (Y5 fn b)),OJ):=by
  obtain⟨r,S',c2,rfl⟩:=f2182 (B6 e nl l) (.fn 251 [.bx 1 0,.bx 0 0]) [B9.box (OY b),B9.box [D.i .i64 fn]] (fun r _=>r=.b (l.any (Y5 fn b))) (by simp only[s2182,c1,A5,Ek,hn])
  exact⟨S',c2⟩
 obtain⟨OJ,hc⟩:=hc;unfold mD;generalize l.any (Y5 fn b)=A at *;by_cases k1:fn<0
 .simp[k1,show ¬0<=fn by omega]
 .by_cases k2:3<fn
  .simp[k1,k2,show ¬fn<=3 by omega]
  .by_cases k3:op<5
   .simp[k1,k2,k3,show ¬5<=op by omega]
   .by_cases k4:10<op
    .simp[k1,k2,k3,k4,show ¬op<=10 by omega]
    .simp only[k1,k2,k3,k4,show 0<=fn by omega,show fn<=3 by omega,show 5<=op by omega,show op<=10 by omega];by_cases k5:SZ b=true
     .by_cases k6:fn=0\/fn=1
      .by_cases k7:b.kind=0
       .rcases k6 with k6|k6<;>subst k6<;>simp[k5,k7,hc,Bool.not_eq_true']
       .rcases k6 with k6|k6<;>subst k6<;>simp[k5,k7]
      .have k8:¬fn=0:=fun h=>k6 (.inl h);have k9:¬fn=1:=fun h=>k6 (.inr h);simp[k5,k8,k9,hc]
     .simp[k5]
open Classical in
theorem v184(he:GE e)(c':Vl × Z->Vl × Z->Int)(nl:Bool)(l:List (Vl × Z))(hb:Bi l.length)(hf:∀x,x∈l->∀y,y∈l->A0 (call dp) 176 [.agg (Gw e x),.agg (Gw e y)]=some (.i .i64 (c' x y))) :
  A0 (call dp) 184 [B6 e nl l,.fn 176 []]=some (.b (decide (∀(j:Nat) x y,l[j]? = some x->l[j+1]? = some y->¬c' y x<0))):=by
 apply i184 _ _ _ (by simp[A9,EC he];rfl) rfl;have hs:strip (.fn 176 [])=.fn 176 []:=rfl;simp only[s184,hs,CI,Hl,A5,Cp];rw[wrap64 (n:=(l.length:Int)-1) ⟨by omega,by unfold Bi at hb;omega⟩]
 let J:Nat->List D->A1->Prop:=fun q fr S=>∃i b4 b10,fr=B0 25 [(0,B6 e nl l),(1,.fn 176 []),(4,b4),(5,.i .i64 i),(10,b10)]/\(i<=q/\i<l.length/\-1<=i)/\∀(j:Nat) x y,i<=j->l[j]? = some x->l[j+1]? = some y->¬c' y x<0
 refine AW J ?_ l.length _ _ ⟨_,_,_,rfl,⟨by omega,by omega,by omega⟩,fun j x y h1 h2 h3=>by have:=(gB.1 h3).1;omega⟩;intro q fr S hJ;obtain⟨i,b4,b10,C7,hi,hc⟩:=hJ;rw[C7];rw[<-Ay,e184_0];simp[sB];split<;>rename_i h
 .obtain⟨k,rfl⟩:∃k:Nat,i=(k+1:Nat):=⟨(i-1).toNat,by omega⟩
  obtain⟨x,hx⟩:=AZ (l:=l) (k:=k) (by omega);obtain⟨y,hy⟩:=AZ (l:=l) (k:=k+1) (by omega);have e1:IntKind.i64.wrap (((k+1:Nat):Int)-1)=(k:Int):=by rw[wrap64 ⟨by omega,by unfold Bi at hb;omega⟩];omega
  rw[Bw e _ hy,e1];simp[Bw e _ hx,hf y (gC hy) x (gC hx)];split<;>rename_i Ap
  .exact⟨k,x.1,x.2,hx,y.1,y.2,hy,Ap⟩
  .refine⟨q-1,by omega,⟨_,_,_,rfl,⟨by omega,by omega,by omega⟩,fun j x' y' h1 h2 h3=>?_⟩⟩;by_cases hjk:j=k
   .subst hjk;rw[hx] at h2;rw[hy] at h3;injection h2 with h2;injection h3 with h3
    subst h2 h3;exact Ap
   .exact hc j x' y' (by omega) h2 h3
 .simp[e184_r0,fw];intro j x1 x2 y1 y2 h1 h2;have:=hc j (x1,x2) (y1,y2) (by omega) h1 h2;omega
end
section
open Go Go.ChangeShapes Go.WideShapes Go.RowKit
set_option maxRecDepth 100000
section
variable {H:Type}
def Wt(t:TypeId)(d:DataW H):Prop:=∀n∈DataW.weights Tryz.prog t d,n<=reachBytes
theorem ZO{e:TypeId}:∀{l:List (DataW H)} {d:DataW H},d∈l->∀n∈d.weights Tryz.prog e,n∈DataW.weightsAll Tryz.prog e l
 |x::l,d,h,n,hn=>by
  simp only[DataW.weightsAll,List.mem_append];rcases List.mem_cons.1 h with rfl|h
  .exact .inl hn
  .exact .inr (ZO h n hn)
theorem Wt.slice{t e:TypeId}(ht:Tryz.prog.underlying t=some (.slice e)){es sp:List (DataW H)}(h:Wt t (.slice es sp)):(es.length+sp.length) * Tryz.prog.bytesOf e<=reachBytes/\∀d∈es,Wt e d:=by
 have hh:DataW.weights Tryz.prog t (.slice es sp)=(es.length+sp.length) * Tryz.prog.bytesOf e::(DataW.weightsAll Tryz.prog e es++DataW.weightsAll Tryz.prog e sp):=by simp only[DataW.weights,ht]
 unfold Wt at h;rw[hh] at h;exact⟨h _ (by simp),fun d hd n hn=>h n (by simp[ZO hd n hn])⟩
theorem Wt.struct{t:TypeId}{fs:Array Field}(ht:Tryz.prog.underlying t=some (.struct fs)){ds:List (DataW H)}(h:Wt t (.agg ds)){i:Nat}{f:Field}{d:DataW H}(hf:fs[i]? = some f)(hd:ds[i]? = some d):Wt f.type d:=by
 have hh:DataW.weights Tryz.prog t (.agg ds)=DataW.weightsEach Tryz.prog (fs.toList.map (·.type)) ds:=by simp only[DataW.weights,ht]
 unfold Wt at h;rw[hh] at h;exact fun n hn=>h n (DataW.weights_mem_each (t:=f.type) (by simp[hf]) hd n hn)
theorem Wt.Wy{t:TypeId}{fs:Array Field}(ht:Tryz.prog.underlying t=some (.struct fs)){xs:List (DataW H×List MemPlace)}(h:Wt t (.agg (xs.map (·.1)))){i:Nat}(f:Field){y:DataW H×List MemPlace}(hf:fs[i]? = some f)(hy:xs[i]? = some y):Wt f.type y.1:=
 h.struct ht hf (by simp[hy])
end
section
variable {dp:Nat->Option Fn}{w:World}
variable {H:Type}{enc:TypeId×Value->H}{base:Nat}{spare:Nat->Bool}{held:Bool}{fuel:Nat}{cs:List Value}{x:DataW H×List MemPlace}
theorem Ml{t e k:Nat}{Z:Type}(en:Z->List D)(P:Z->Prop)(ht:Tryz.prog.underlying t=some (.slice e))(hk:Tryz.prog.cellsOf e=k)(OK:0<k)(hby:0 < Tryz.prog.bytesOf e)(J0:∀a,(en a).length=k)
  (ae:∀(n:Nat) (cs:List Value) (y:DataW H×List MemPlace),n<fuel->DataW.trod enc Tryz.prog w base spare held n e cs=some y->Wt e y.1->∃a,P a/\C9 dp w cs (en a))
  (h:DataW.trod enc Tryz.prog w base spare held fuel t cs=some x) (hw:Wt t x.1) :
  ∃nl l v,(nl=true->l=[])/\(∀a∈l,P a)/\l.length<=140737488355328/\cs=[v]/\v.oneCell'=true/\Rel dp (there w) [] w v (.sl k nl (l.map en) .ro):=by
 obtain⟨nl,l,v,a1,a2,a3,a4,a5,a6,a7⟩:=Uj (dp:=dp) en P ht hk OK J0 (fun n cs y hn hy he=>by
  obtain⟨es,sp,e1,e2⟩:=he;rw[e1] at hw
  exact ae n cs y hn hy ((hw.slice ht).2 _ e2)) h
 refine⟨nl,l,v,a1,a2,?_,a4,a5,a6⟩;rcases a7 with rfl|⟨es,sp,e1,e2⟩
 .simp
 .rw[e1] at hw;have h1:=(hw.slice ht).1;have h2:es.length<=(es.length+sp.length) * Tryz.prog.bytesOf e:=le_trans (Nat.le_add_right _ _) (Nat.le_mul_of_pos_right _ hby);have h3:reachBytes<=140737488355328:=by decide
  omega
theorem sX:Tryz.prog.cellsOf 2=1:=by kernel_rfl
theorem cells9:Tryz.prog.cellsOf 9=1:=by kernel_rfl
theorem gl:Tryz.prog.cellsOf 49=1:=by kernel_rfl
theorem cells89:Tryz.prog.cellsOf 89=1:=by kernel_rfl
theorem AA0:Tryz.prog.cellsOf 92=1:=by kernel_rfl
theorem ic:Tryz.prog.cellsOf 94=2:=by kernel_rfl
theorem qn:Tryz.prog.cellsOf 107=1:=by kernel_rfl
theorem TK:Tryz.prog.cellsOf 109=3:=by kernel_rfl
theorem ZY:Tryz.prog.cellsOf 111=10:=by kernel_rfl
theorem Zw:Tryz.prog.cellsOf 141=11:=by kernel_rfl
theorem Z2:Tryz.prog.cellsOf 145=4:=by kernel_rfl
theorem bytes49:0 < Tryz.prog.bytesOf 49:=of_decide_eq_true (by kernel_rfl)
theorem ym:0 < Tryz.prog.bytesOf 94:=of_decide_eq_true (by kernel_rfl)
theorem tU:0 < Tryz.prog.bytesOf 141:=of_decide_eq_true (by kernel_rfl)
theorem qm:0 < Tryz.prog.bytesOf 145:=of_decide_eq_true (by kernel_rfl)
theorem kU(h:DataW.trod enc Tryz.prog w base spare held fuel 2 cs=some x):∃n,cs=[.int .i64 n]/\KF n:=by obtain⟨n,h1,_,h2⟩:=DataW.trod_int Tryz.underlying2 h;exact⟨n,h1,wf64 h2⟩
abbrev Sh(n:Nat):Prop:=n<=140737488355328
theorem rd_str(h:DataW.trod enc Tryz.prog w base spare held fuel 9 cs=some x)(hw:Wt 9 x.1):∃l:List UInt8,Sh l.length/\C9 dp w cs [.s l]:=by
 obtain⟨s,rfl,rfl,h2⟩:=DataW.trod_string Tryz.underlying9 h;refine⟨s.data.toList,?_,C9.cons rfl ?_ C9.nil⟩
 .have h1:s.data.toList.length<=reachBytes:=hw _ (by simp only[DataW.weights,List.mem_singleton]);have h3:reachBytes<=140737488355328:=by decide
  exact le_trans h1 h3
 .have:=Rel.s (dp:=dp) (F:=there w) (G:=[]) (w:=w) s.data.toList;simpa using this
theorem rd_vl(h:DataW.trod enc Tryz.prog w base spare held fuel 109 cs=some x)(hw:Wt 109 x.1):∃v:Vl,(Wb v/\Sh v.text.length)/\C9 dp w cs (OY v):=by
 obtain⟨xs,n,rfl,rfl,hl,U5,hf⟩:=DataW.trod_struct Tryz.underlying109 h;rw[TK] at hl;have hy:∀i,i<3->∃y,xs[i]? = some y:=fun i hi=>⟨_,gA (by rw[U5];exact hi)⟩
 obtain⟨y0,fj⟩:=hy 0 (by omega);obtain⟨y1,xg⟩:=hy 1 (by omega);obtain⟨y2,hy2⟩:=hy 2 (by omega);have h0:DataW.trod enc Tryz.prog w base spare held n 3 ((cs.drop 0).take (Tryz.prog.cellsOf 3))=xs[0]?:=hf 0 _ rfl;have h1:DataW.trod enc Tryz.prog w base spare held n 2 ((cs.drop 1).take (Tryz.prog.cellsOf 2))=xs[1]?:=hf 1 _ rfl;have h2:DataW.trod enc Tryz.prog w base spare held n 9 ((cs.drop 2).take (Tryz.prog.cellsOf 9))=xs[2]?:=hf 2 _ rfl;have w2:Wt 9 y2.1:=hw.Wy Tryz.underlying109 _ rfl hy2;rw[fj] at h0;rw[xg] at h1;rw[hy2] at h2;simp only[Wc,sX,cells9] at h0 h1 h2
 match cs,hl with
 |[a,b,c],_=>
  obtain⟨n0,e0,w0⟩:=Nb h0;obtain⟨n1,e1,w1⟩:=kU h1;obtain⟨l,k2,r2⟩:=rd_str (dp:=dp) h2 w2;simp at e0 e1 r2;subst e0 e1;exact⟨⟨n0,n1,l⟩,⟨⟨w0,w1,by unfold Sh at k2;show Bi l.length;unfold Bi;omega⟩,k2⟩,C9.cons rfl (.i _ _) (C9.cons rfl (.i _ _) r2)⟩
variable {F:Nat}{Z:Type}{e:Z->D}{ok sm:Z->Prop}
def Rds(enc:TypeId×Value->H)(dp:Nat->Option Fn)(w:World)(base:Nat)(spare:Nat->Bool)(held:Bool)(F:Nat)(e:Z->D)(ok sm:Z->Prop):Prop:=
 ∀n cs x,n<=F->DataW.trod enc Tryz.prog w base spare held n 49 cs=some x->Wt 49 x.1->∃a:Z,(ok a/\sm a)/\∃v,cs=[v]/\v.oneCell'=true/\Rel dp (there w) [] w v (e a)
theorem zf(HA:Rds enc dp w base spare held F e ok sm)(hF:fuel<=F+1)(h:DataW.trod enc Tryz.prog w base spare held fuel 145 cs=some x)(hw:Wt 145 x.1):∃p:Vl × Z,((Wb p.1/\ok p.2)/\Sh p.1.text.length/\sm p.2)/\C9 dp w cs (Gw e p):=by
 obtain⟨xs,n,rfl,rfl,hl,U5,hf⟩:=DataW.trod_struct Tryz.underlying145 h;rw[Z2] at hl;obtain⟨y0,fj⟩:∃y,xs[0]? = some y:=⟨_,gA (by rw[U5];decide)⟩
 obtain⟨y1,xg⟩:∃y,xs[1]? = some y:=⟨_,gA (by rw[U5];decide)⟩
 have h0:DataW.trod enc Tryz.prog w base spare held n 109 ((cs.drop 0).take (Tryz.prog.cellsOf 109))=xs[0]?:=hf 0 _ rfl;have h1:DataW.trod enc Tryz.prog w base spare held n 49 ((cs.drop 3).take (Tryz.prog.cellsOf 49))=xs[1]?:=hf 1 _ rfl;have w0:Wt 109 y0.1:=hw.Wy Tryz.underlying145 _ rfl fj;have w1:Wt 49 y1.1:=hw.Wy Tryz.underlying145 _ rfl xg;rw[fj] at h0;rw[xg] at h1;simp only[TK,gl] at h0 h1
 match cs,hl with
 |[a,b,c,d],_=>
  obtain⟨v,kv,rv⟩:=rd_vl (dp:=dp) h0 w0;obtain⟨z,kz,u,eu,ou,ru⟩:=HA _ _ _ (by omega) h1 w1;simp at eu rv;subst eu;exact⟨(v,z),⟨⟨kv.1,kz.1⟩,kv.2,kz.2⟩,C9.app rv (C9.cons ou ru C9.nil)⟩
theorem AAZ(HA:Rds enc dp w base spare held F e ok sm)(hF:fuel<=F+1)(h:DataW.trod enc Tryz.prog w base spare held fuel 111 cs=some x)(hw:Wt 111 x.1)(ex:Int)(hex:KF ex):∃f:Fc Z,f.exp=ex/\(KU ok f/\nf sm f)/\C9 dp w cs (GZ e f):=by
 obtain⟨xs,n,rfl,rfl,hl,U5,hf⟩:=DataW.trod_struct Tryz.underlying111 h;rw[ZY] at hl;have hy:∀i,i<7->∃y,xs[i]? = some y:=fun i hi=>⟨_,gA (by rw[U5];exact hi)⟩
 obtain⟨y0,fj⟩:=hy 0 (by omega);obtain⟨y1,xg⟩:=hy 1 (by omega);obtain⟨y2,hy2⟩:=hy 2 (by omega);obtain⟨y3,hy3⟩:=hy 3 (by omega);obtain⟨y4,hy4⟩:=hy 4 (by omega);obtain⟨y5,hy5⟩:=hy 5 (by omega);obtain⟨y6,hy6⟩:=hy 6 (by omega);have h0:DataW.trod enc Tryz.prog w base spare held n 3 ((cs.drop 0).take (Tryz.prog.cellsOf 3))=xs[0]?:=hf 0 _ rfl;have h1:DataW.trod enc Tryz.prog w base spare held n 40 ((cs.drop 1).take (Tryz.prog.cellsOf 40))=xs[1]?:=hf 1 _ rfl;have h2:DataW.trod enc Tryz.prog w base spare held n 89 ((cs.drop 3).take (Tryz.prog.cellsOf 89))=xs[2]?:=hf 2 _ rfl;have h3:DataW.trod enc Tryz.prog w base spare held n 3 ((cs.drop 4).take (Tryz.prog.cellsOf 3))=xs[3]?:=hf 3 _ rfl;have h4:DataW.trod enc Tryz.prog w base spare held n 107 ((cs.drop 5).take (Tryz.prog.cellsOf 107))=xs[4]?:=hf 4 _ rfl;have h5:DataW.trod enc Tryz.prog w base spare held n 3 ((cs.drop 6).take (Tryz.prog.cellsOf 3))=xs[5]?:=hf 5 _ rfl;have h6:DataW.trod enc Tryz.prog w base spare held n 109 ((cs.drop 7).take (Tryz.prog.cellsOf 109))=xs[6]?:=hf 6 _ rfl;have w2:Wt 89 y2.1:=hw.Wy Tryz.underlying111 _ rfl hy2;have w4:Wt 107 y4.1:=hw.Wy Tryz.underlying111 _ rfl hy4;have w6:Wt 109 y6.1:=hw.Wy Tryz.underlying111 _ rfl hy6;rw[fj] at h0;rw[xg] at h1;rw[hy2] at h2;rw[hy3] at h3;rw[hy4] at h4;rw[hy5] at h5;rw[hy6] at h6;simp only[Wc,Wg,cells89,qn,TK] at h0 h1 h2 h3 h4 h5 h6
 match cs,hl with
 |[c0,c1,c2,c3,c4,c5,c6,c7,c8,c9],_=>
  obtain⟨n0,e0,z0⟩:=Nb h0;obtain⟨r,kr,rr⟩:=pL (dp:=dp) h1
  obtain⟨NG,al,av,a1,a2,a3,a4,a5,a6⟩:=Ml (dp:=dp) (Z:=Z) (fun a=>[e a]) (fun a=>ok a/\sm a) Tryz.underlying89 gl (by omega) bytes49 (fun _=>rfl) (fun n' ah x' Rp fg xR=>by
   obtain⟨z,kz,u,rfl,ou,ru⟩:=HA _ _ _ (by omega) fg xR
   exact⟨z,kz,C9.cons ou ru C9.nil⟩) h2 w2
  obtain⟨n3,e3,z3⟩:=Nb h3;obtain⟨inl,il,iv,i1,i2,i3,i4,i5,i6⟩:=Ml (dp:=dp) (Z:=Vl × Z) (Gw e) (fun p=>(Wb p.1/\ok p.2)/\Sh p.1.text.length/\sm p.2) Tryz.underlying107 Z2 (by omega) qm (fun _=>rfl) (fun n' ah x' Rp fg xR=>zf HA (by omega) fg xR) h4 w4;obtain⟨n5,e5,z5⟩:=Nb h5;obtain⟨v,kv,rv⟩:=rd_vl (dp:=dp) h6 w6;simp at e0 rr a4 e3 i4 e5 rv;subst e0 a4 e3 i4 e5;refine⟨⟨n0,r,NG,al,n3,inl,il,n5,v,ex⟩,rfl,⟨⟨z0,kr,a1,by show al.length<=_;omega,fun a ha=>(a2 a ha).1,z3,i1,by show il.length<=_;omega,fun p hp=>(i2 p hp).1,z5,kv.1,hex⟩,⟨a3,fun a ha=>(a2 a ha).2,i3,fun p hp=>(i2 p hp).2,kv.2⟩⟩,?_⟩;exact C9.cons rfl (.i _ _) (C9.app rr (C9.cons a5 a6 (C9.cons rfl (.i _ _) (C9.cons i5 i6 (C9.cons rfl (.i _ _) rv)))))
theorem rd_fac(HA:Rds enc dp w base spare held F e ok sm)(hF:fuel<=F+1)(h:DataW.trod enc Tryz.prog w base spare held fuel 141 cs=some x)(hw:Wt 141 x.1):∃f:Fc Z,(KU ok f/\nf sm f)/\C9 dp w cs (EF e f):=by
 obtain⟨xs,n,rfl,rfl,hl,U5,hf⟩:=DataW.trod_struct Tryz.underlying141 h;rw[Zw] at hl;have hy:∀i,i<2->∃y,xs[i]? = some y:=fun i hi=>⟨_,gA (by rw[U5];exact hi)⟩
 obtain⟨y0,fj⟩:=hy 0 (by omega);obtain⟨y1,xg⟩:=hy 1 (by omega);have h0:DataW.trod enc Tryz.prog w base spare held n 111 ((cs.drop 0).take (Tryz.prog.cellsOf 111))=xs[0]?:=hf 0 _ rfl;have h1:DataW.trod enc Tryz.prog w base spare held n 3 ((cs.drop 10).take (Tryz.prog.cellsOf 3))=xs[1]?:=hf 1 _ rfl;have w0:Wt 111 y0.1:=hw.Wy Tryz.underlying141 _ rfl fj;rw[fj] at h0;rw[xg] at h1;simp only[ZY,Wc] at h0 h1
 match cs,hl with
 |[c0,c1,c2,c3,c4,c5,c6,c7,c8,c9,c10],_=>
  obtain⟨n1,e1,w1⟩:=Nb h1;obtain⟨f,hfe,kf,rf⟩:=AAZ (dp:=dp) HA (by omega) h0 w0 n1 w1;simp at e1 rf;subst e1;refine⟨f,kf,?_⟩;have:=C9.app rf (C9.cons (v:=.int .i64 n1) rfl (.i _ _) C9.nil);rw[<-hfe] at this ⊢;exact this
theorem rd_term(HA:Rds enc dp w base spare held F e ok sm)(hF:fuel<=F+1)(h:DataW.trod enc Tryz.prog w base spare held fuel 94 cs=some x)(hw:Wt 94 x.1):∃t:Tm Z,(My ok t/\SmTm sm t)/\C9 dp w cs (Cj e t):=by
 obtain⟨xs,n,rfl,rfl,hl,U5,hf⟩:=DataW.trod_struct Tryz.underlying94 h;rw[ic] at hl;have hy:∀i,i<2->∃y,xs[i]? = some y:=fun i hi=>⟨_,gA (by rw[U5];exact hi)⟩
 obtain⟨y0,fj⟩:=hy 0 (by omega);obtain⟨y1,xg⟩:=hy 1 (by omega);have h0:DataW.trod enc Tryz.prog w base spare held n 2 ((cs.drop 0).take (Tryz.prog.cellsOf 2))=xs[0]?:=hf 0 _ rfl;have h1:DataW.trod enc Tryz.prog w base spare held n 92 ((cs.drop 1).take (Tryz.prog.cellsOf 92))=xs[1]?:=hf 1 _ rfl;have w1:Wt 92 y1.1:=hw.Wy Tryz.underlying94 _ rfl xg;rw[fj] at h0;rw[xg] at h1;simp only[sX,AA0] at h0 h1
 match cs,hl with
 |[c0,c1],_=>
  obtain⟨n0,e0,w0⟩:=kU h0;obtain⟨nl,l,v,a1,a2,a3,a4,a5,a6⟩:=Ml (dp:=dp) (Z:=Fc Z) (EF e) (fun f=>KU ok f/\nf sm f) Tryz.underlying92 Zw (by omega) tU (fun _=>rfl) (fun n' ah x' Rp fg xR=>rd_fac HA (by omega) fg xR) h1 w1;simp at e0 a4;subst e0 a4;exact⟨⟨n0,nl,l⟩,⟨⟨w0,a1,by show l.length<=_;omega,fun f hf=>(a2 f hf).1⟩,⟨a3,fun f hf=>(a2 f hf).2⟩⟩,C9.cons rfl (.i _ _) (C9.cons a5 a6 C9.nil)⟩
theorem zn(HA:Rds enc dp w base spare held F e ok sm):Rds enc dp w base spare held (F+1) (CL e) (Hd ok) (lf sm):=by intro n cs x hn h hw;obtain⟨nl,l,v,a1,a2,a3,a4,a5,a6⟩:=Ml (dp:=dp) (Z:=Tm Z) (Cj e) (fun t=>My ok t/\SmTm sm t) Tryz.underlying49 ic (by omega) ym (fun _=>rfl) (fun n' ah x' Rp fg xR=>rd_term HA (by omega) fg xR) h hw;exact⟨⟨nl,l⟩,⟨⟨a1,by show l.length<=_;omega,fun t ht=>(a2 t ht).1⟩,⟨a3,fun t ht=>(a2 t ht).2⟩⟩,v,a4,a5,a6⟩
theorem vD:∀F,Rds enc dp w base spare held F (As F) (Bf F) (Lu F)
 |0=>fun n cs x hn h=>by
  obtain rfl:n=0:=by omega
  simp[DataW.trod] at h
 |F+1=>zn (vD F)
theorem VI{r:Reach}{b0:Nat}{v:Value}{d:DataW H}{ps:List MemPlace}(hv:Value.okWide Tryz.prog w r b0 49 v)(h:DataW.Trod enc Tryz.prog w base spare held 49 v d ps)(hw:Wt 49 d) :
  ∃a:SA,(Qc a/\ml a)/\Rel dp (there w) [] w v (eS a):=by
 obtain⟨fuel,h⟩:=h
 have hc:v.cells.toList=[v]:=by simp only[Value.okWide,Tryz.underlying49] at hv;cases v<;>first|rfl|(simp only[Cell.okWide,Tryz.underlying49,Cell.ok] at hv)
 obtain⟨a,ka,u,eu,_,ru⟩:=vD (dp:=dp) fuel fuel _ _ (le_refl _) h hw;rw[hc] at eu;injection eu with eu;subst eu;exact⟨⟨fuel,a⟩,ka,ru⟩
end
end
open Go
structure Jm{Z:Type}(c:Z->Z->Int):Prop where
 Uc:∀a b,c a b<0<->0<c b a
 trans:∀a b d,c a b<=0->c b d<=0->c a d<=0
section
variable {Z β:Type}{c:Z->Z->Int}
theorem Jm.swap(h:Jm c)(a b:Z):c a b=0<->c b a=0:=by have:=h.Uc a b;have:=h.Uc b a;omega
theorem Jm.ge(h:Jm c)(a b:Z):0<=c a b<->c b a<=0:=by have:=h.Uc a b;have:=h.Uc b a;omega
theorem Jm.asym(h:Jm c)(a b:Z):c a b<0->¬c b a<0:=by have:=h.Uc a b;omega
theorem Jm.ntrans(h:Jm c)(a b d:Z):¬c a b<0->¬c b d<0->¬c a d<0:=by intro h1 h2 h3;have:=h.trans d b a ((h.ge b d).1 (by omega)) ((h.ge a b).1 (by omega));have:=(h.Uc a d).1 h3;omega
theorem Jm.conn(h:Jm c)(a b:Z):¬c a b<0->¬c b a<0->c a b=0:=by intro h1 h2;have:=(h.ge b a).1 (by omega);omega
theorem Jm.H5(h:Jm c)(f:β->Z):Jm (fun x y=>c (f x) (f y)):=⟨fun a b=>h.Uc _ _,fun a b d=>h.trans _ _ _⟩
theorem Jm.zero:Jm (fun _ _:Z=>0):=⟨by simp,by simp⟩
theorem Jm.lex(h:Jm c){c2:Z->Z->Int}(k:Jm c2):Jm (fun a b=>if c a b=0 then c2 a b else c a b):=by
 constructor
 .intro a b;have h1:=h.swap a b;by_cases e:c a b=0
  .rw[if_pos e,if_pos (h1.1 e)];exact k.Uc a b
  .rw[if_neg e,if_neg (fun q=>e (h1.2 q))];exact h.Uc a b
 .intro a b d h1 h2;have q1:c a b<=0:=by split at h1<;>omega
  have q2:c b d<=0:=by split at h2<;>omega
  have q3:=h.trans a b d q1 q2;by_cases e:c a d=0
  .rw[if_pos e];have z:=h.trans b d a q2 (by have:=(h.swap a d).1 e;omega);have z1:c a b=0:=by have:=(h.ge a b).2 z;omega
   have z2:=h.trans d a b (by have:=(h.swap a d).1 e;omega) q1;have z3:c b d=0:=by have:=(h.ge b d).2 z2;omega
   rw[if_pos z1] at h1;rw[if_pos z3] at h2;exact k.trans a b d h1 h2
  .rw[if_neg e];exact q3
end
theorem qK(x:Int)(l:List Int):YL (x::l)=if x=0 then YL l else x:=rfl
theorem NQ:Jm CR:=by
 constructor
 .intro a b;unfold CR;split<;>split<;>omega
 .intro a b d;unfold CR;split<;>split<;>split<;>omega
theorem Yz{Z:Type}{c:Z->Z->Int}(h:Jm c):Jm (cmpL c):=by
 constructor
 .intro l
  induction l with
  |nil=>intro m;cases m<;>simp[cmpL]
  |cons x l ih=>
   intro m;cases m with
   |nil=>simp[cmpL]
   |cons y m=>
    simp only[cmpL];have:=h.swap x y;by_cases e:c x y=0
    .rw[if_pos e,if_pos (this.1 e)];exact ih m
    .rw[if_neg e,if_neg (fun q=>e (this.2 q))];exact h.Uc x y
 .intro l
  induction l with
  |nil=>intro m n _ _;cases n<;>simp[cmpL]
  |cons x l ih=>
   intro m n h1 h2;cases m with
   |nil=>simp[cmpL] at h1
   |cons y m=>
    cases n with
    |nil=>simp[cmpL] at h2
    |cons z n=>
     simp only[cmpL] at h1 h2 ⊢;have q1:c x y<=0:=by split at h1<;>omega
     have q2:c y z<=0:=by split at h2<;>omega
     have q3:=h.trans x y z q1 q2;by_cases e:c x z=0
     .rw[if_pos e];have z0:=h.trans y z x q2 (by have:=(h.swap x z).1 e;omega);have z1:c x y=0:=by have:=(h.ge x y).2 z0;omega
      have z2:=h.trans z x y (by have:=(h.swap x z).1 e;omega) q1;have z3:c y z=0:=by have:=(h.ge y z).2 z2;omega
      rw[if_pos z1] at h1;rw[if_pos z3] at h2;exact ih m n h1 h2
     .rw[if_neg e];exact q3
def nw(a b:UInt8):Int:=if a<b then -1 else if b<a then 1 else 0
theorem tpo_U:Jm nw:=by
 have:nw=fun a b=>CR a.toNat b.toNat:=by funext a b;simp only[nw,CR,UInt8.lt_iff_toNat_lt];simp
 rw[this];exact NQ.H5 fun a:UInt8=>(a.toNat:Int)
theorem GC{a b:Int}(h:CR a b=0):a=b:=by
 unfold CR at h;split at h
 .omega
 .split at h<;>omega
theorem qU:∀l m:List UInt8,Qt l m=cmpL nw l m
 |[],[]=>rfl
 |[],_::_=>rfl
 |_::_,[]=>by simp[Qt,cmpL,Op.bytesLess]
 |a::l,b::m=>by
  have ih:=qU l m;simp only[Qt,cmpL,Op.bytesLess,nw] at ih ⊢;rw[<-ih];rcases UInt8.lt_or_lt_of_ne (a:=a) (b:=b) |> fun h=>Classical.em (a=b) with e|e
  .subst e;simp[UInt8.lt_irrefl]
  .rcases UInt8.lt_or_lt_of_ne e with h|h
   .simp[h]
   .have:¬a<b:=fun k=>absurd (UInt8.lt_trans h k) (UInt8.lt_irrefl _);simp[h,this,e]
theorem tpo_B:Jm Qt:=by
 have:Qt=cmpL nw:=by funext l m;exact qU l m
 rw[this];exact Yz tpo_U
theorem pe:Jm QL:=(NQ.H5 Vl.kind).lex ((NQ.H5 Vl.int).lex ((tpo_B.H5 Vl.text).lex Jm.zero))
theorem cmpB_eq{l m:List UInt8}(h:Qt l m=0):l=m:=by
 unfold Qt at h;split at h
 .omega
 .split at h
  .simpa using(by assumption:(l==m)=true)
  .omega
theorem BQ{x:Int}{l:List Int}(h:YL (x::l)=0):x=0/\YL l=0:=by
 rw[qK] at h;split at h
 .exact⟨by assumption,h⟩
 .exact absurd h (by assumption)
theorem YU{a b:Vl}(h:QL a b=0):a=b:=by obtain⟨h1,h⟩:=BQ h;obtain⟨h2,h⟩:=BQ h;obtain⟨h3,h⟩:=BQ h;cases a;cases b;simp only at h1 h2 h3;rw[GC h1,GC h2,cmpB_eq h3]
section
variable {Z:Type}{c:Z->Z->Int}
theorem tpo_It(h:Jm c):Jm (MK c):=(pe.H5 Prod.fst).lex ((h.H5 Prod.snd).lex Jm.zero)
theorem tpo_At(h:Jm c):Jm (EU c):=
 (NQ.H5 Fc.kind).lex ((NQ.H5 fun f:Fc Z=>f.row.1).lex ((NQ.H5 fun f:Fc Z=>f.row.2).lex (((Yz h).H5 Fc.args).lex ((NQ.H5 Fc.fn).lex (((Yz (tpo_It h)).H5 Fc.items).lex
  ((NQ.H5 Fc.op).lex ((pe.H5 Fc.bound).lex Jm.zero)))))))
theorem tpo_Fc(h:Jm c):Jm (Ow c):=(tpo_At h).lex ((NQ.H5 Fc.exp).lex Jm.zero)
theorem qM(h:Jm c):Jm (Hw c):=(Yz (tpo_Fc h)).H5 Tm.fs
theorem tpo_Tm(h:Jm c):Jm (Oo c):=(qM h).lex ((NQ.H5 Tm.c).lex Jm.zero)
theorem tpo_An(h:Jm c):Jm (Uu c):=(Yz (tpo_Tm h)).H5 An.ts
end
theorem gi:∀n,Jm (Ey n)
 |0=>Jm.mk (fun a=>(nomatch a)) (fun a=>(nomatch a))
 |n+1=>tpo_An (gi n)
def Tj(r:Row):List UInt8:=if 1<=r.1/\1<=r.2 then[116]++Lib.itoa r.1++[46]++Lib.itoa r.2 else[]
def Lj(v:Vl):List UInt8:=if SZ v=true then(if v.kind=0 then Lib.itoa v.int else if v.kind=1 then[39]++Lib.replaceAll v.text [39] [39,39]++[39] else if v.int=1 then[84,82,85,69] else[70,65,76,83,69]) else[]
def XW(n:Int):List UInt8:=([[67,79,85,78,84],[83,85,77],[77,73,78],[77,65,88]]:List (List UInt8)).getD n.toNat []
def Xx(n:Int):List UInt8:=([[61],[60,62],[60],[60,61],[62],[62,61]]:List (List UInt8)).getD (n-5).toNat []
section
variable {Z:Type}(tx:Z->List UInt8)
def LS(p:Vl × Z):List UInt8:=Lj p.1++[58,32]++tx p.2
def ME(k:Nat)(l:List Z):List UInt8:=(l[k]?.map tx).getD []
def JX(f:Fc Z):List UInt8:=
 if f.kind=0 then Tj f.row
 else if f.kind=1 then[109,111,110,117,115,91]++ME tx 0 f.args++[44,32]++ME tx 1 f.args++[93]
 else if f.kind=2 then[100,101,108,116,97,91]++ME tx 0 f.args++[93]
 else if f.kind=3 then[97,98,115,101,110,116,91]++ME tx 0 f.args++[93]
 else[116,101,115,116,91]++XW f.fn++[123]++([59,32]:List UInt8).intercalate (f.items.map (LS tx))++[125,32]++Xx f.op++[32]++Lj f.bound++[93]
def JS(f:Fc Z):List UInt8:=if f.exp≠1 then JX tx f++([94]++Lib.itoa f.exp) else JX tx f
def HZ(l:List (Fc Z)):List UInt8:=([42]:List UInt8).intercalate (l.map (JS tx))
def Jq(t:Tm Z):List UInt8:=if t.fs.length=0 then Lib.itoa t.c else if t.c=1 then HZ tx t.fs else Lib.itoa t.c++[42]++HZ tx t.fs
def Sz(x:An Z):List UInt8:=if x.ts.length=0 then[48] else([32,43,32]:List UInt8).intercalate (x.ts.map (Jq tx))
end
def TO:(n:Nat)->Eu n->List UInt8
 |0,x=>nomatch x
 |n+1,x=>Sz (TO n) x
theorem Gg{Z β:Type}{c:Z->Z->Int}{f:Z->β}(h:∀a b,c a b=0->f a=f b):∀{l m:List Z},cmpL c l m=0->l.map f=m.map f
 |[],[],_=>rfl
 |[],_::_,e=>by simp[cmpL] at e
 |_::_,[],e=>by simp[cmpL] at e
 |x::l,y::m,e=>by
  simp only[cmpL] at e;split at e
  .rename_i k;rw[map_cons,map_cons,h _ _ k,Gg h e]
  .exact absurd e (by assumption)
section
variable {Z:Type}{c:Z->Z->Int}{tx:Z->List UInt8}
theorem ku(h:∀a b,c a b=0->tx a=tx b)(k:Nat){l m:List Z}(e:cmpL c l m=0):ME tx k l=ME tx k m:=by have:=Gg h e;simp only[ME,<-getElem?_map,this]
theorem AAY(h:∀a b,c a b=0->tx a=tx b){f g:Fc Z}(e:EU c f g=0):JX tx f=JX tx g:=by
 obtain⟨h1,e⟩:=BQ e;obtain⟨h2,e⟩:=BQ e;obtain⟨h3,e⟩:=BQ e;obtain⟨h4,e⟩:=BQ e;obtain⟨h5,e⟩:=BQ e;obtain⟨h6,e⟩:=BQ e;obtain⟨h7,e⟩:=BQ e;obtain⟨h8,e⟩:=BQ e;have a2:f.row=g.row:=Prod.ext (GC h2) (GC h3)
 have a6:f.items.map (LS tx)=g.items.map (LS tx):=Gg (fun p q k=>by
  obtain⟨k1,k⟩:=BQ k;obtain⟨k2,k⟩:=BQ k
  simp only[LS,YU k1,h _ _ k2]) h6
 simp only[JX,GC h1,a2,ku h 0 h4,ku h 1 h4,GC h5,a6,GC h7,YU h8]
theorem l6(h:∀a b,c a b=0->tx a=tx b){f g:Fc Z}(e:Ow c f g=0):JS tx f=JS tx g:=by obtain⟨h1,e⟩:=BQ e;obtain⟨h2,e⟩:=BQ e;simp only[JS,AAY h h1,GC h2]
theorem ki(h:∀a b,c a b=0->tx a=tx b){l m:List (Fc Z)}(e:cmpL (Ow c) l m=0):HZ tx l=HZ tx m:=by simp only[HZ,Gg (fun _ _ k=>l6 h k) e]
theorem tmTx_eq(h:∀a b,c a b=0->tx a=tx b){s t:Tm Z}(e:Oo c s t=0):Jq tx s=Jq tx t:=by
 obtain⟨h1,e⟩:=BQ e;obtain⟨h2,e⟩:=BQ e;have h1:cmpL (Ow c) s.fs t.fs=0:=h1;have hl:s.fs.length=t.fs.length:=by simpa using congrArg List.length (Gg (fun _ _ k=>l6 h k) h1)
 simp only[Jq,hl,GC h2,ki h h1]
theorem AAA(h:∀a b,c a b=0->tx a=tx b){x y:An Z}(e:Uu c x y=0):Sz tx x=Sz tx y:=by
 have e:cmpL (Oo c) x.ts y.ts=0:=e;have k:=Gg (fun _ _ k=>tmTx_eq h k) e;have hl:x.ts.length=y.ts.length:=by simpa using congrArg List.length k
 simp only[Sz,hl,k]
end
theorem YW:∀n (a b:Eu n),Ey n a b=0->TO n a=TO n b
 |0,a,_,_=>nomatch a
 |n+1,_,_,h=>AAA (YW n) h
theorem OP(old new:List UInt8)(ho:1<=old.length):∀(k:Nat) (s:List UInt8),(Lib.replaceK old new k s).length<=s.length*(1+new.length)
 |0,s=>by simp only[Lib.replaceK];exact Nat.le_mul_of_pos_right _ (by omega)
 |k+1,s=>by
  simp only[Lib.replaceK];split
  .exact Nat.le_mul_of_pos_right _ (by omega)
  .rename_i h;have oS:=Lib.index_ge s old;have CF:Lib.index s old ≠ -1:=by simpa using h
   have hr:=Lib.index_room s old (by omega);obtain⟨i,hi⟩:∃i:Nat,Lib.index s old=i:=⟨(Lib.index s old).toNat,by omega⟩
   rw[hi] at hr ⊢;have ih:=OP old new ho k (s.drop (i+old.length));simp only[Int.toNat_natCast,length_append,List.length_take,List.length_drop] at ih ⊢;have e:s.length=(s.length-(i+old.length))+(i+old.length):=by omega
   generalize s.length-(i+old.length)=d at *;generalize new.length=m at *;rw[e,Nat.add_mul];have:(i+1)*(1+m)<=(i+old.length)*(1+m):=Nat.mul_le_mul_right _ (by omega);have:i+m<=(i+1)*(1+m):=by rw[Nat.add_mul,Nat.mul_add];omega
   omega
theorem PC{v:Vl}(h:Wb v):(Lj v).length<=3*v.text.length+23:=by
 unfold Lj;split
 .split
  .have:=Lib.itoa_length_le v.int h.2.1.1 h.2.1.2;omega
  .split
   .have:=OP [39] [39,39] (by simp) (Lib.replaceNum v.text [39] (-1)) v.text
    have e:Lib.replaceAll v.text [39] [39,39]=Lib.replaceK [39] [39,39] (Lib.replaceNum v.text [39] (-1)) v.text:=by unfold Lib.replaceAll Lib.replace;rw[if_neg (by decide)]
    simp only[length_append,e,length_cons,length_nil] at this ⊢;omega
   .split<;>simp
 .simp
theorem mJ{r:Row}(h:ZZ r):(Tj r).length<=50:=by
 unfold Tj;split
 .have h1:=Lib.itoa_length_le r.1 h.1.1 h.1.2;have h2:=Lib.itoa_length_le r.2 h.2.1 h.2.2;simp only[length_append,length_cons,length_nil];omega
 .simp
theorem Ms(sep:List UInt8):∀l:List (List UInt8),(sep.intercalate l).length<=(l.map fun x=>x.length+sep.length).sum
 |[]=>by simp[intercalate]
 |[x]=>by simp[intercalate]
 |x::y::l=>by
  have ih:=Ms sep (y::l);have e:sep.intercalate (x::y::l)=x++sep++sep.intercalate (y::l):=by simp[intercalate,List.intersperse,List.append_assoc]
  rw[e,map_cons,sum_cons];simp only[length_append];omega
theorem aU(n:Int):(XW n).length<=5:=by
 unfold XW;generalize n.toNat=m
 match m with
 |0=>decide
 |1=>decide
 |2=>decide
 |3=>decide
 |m+4=>simp[getD]
theorem Zj(n:Int):(Xx n).length<=2:=by
 unfold Xx;generalize(n-5).toNat=m
 match m with
 |0=>decide
 |1=>decide
 |2=>decide
 |3=>decide
 |4=>decide
 |5=>decide
 |m+6=>simp[getD]
section
variable {Z:Type}{tx:Z->List UInt8}{w:Z->Nat}{ok:Z->Prop}
theorem Yp(h:∀a,ok a->(tx a).length<=100*w a+1)(k:Nat){l:List Z}(ho:∀a,a∈l->ok a):(ME tx k l).length<=100*(l.map w).sum+1:=by
 unfold ME;cases e:l[k]? with
 |none=>simp
 |some a=>
  have hm:=gC e;have h1:=Ea w hm;have h2:=h a (ho a hm);simp only[map_some,Option.getD_some];omega
theorem oF(h:∀a,ok a->(tx a).length<=100*w a+1){l:List Z}(ho:∀a,a∈l->ok a):(ME tx 0 l).length+(ME tx 1 l).length<=100*(l.map w).sum+2:=by
 match l with
 |[]=>simp[ME]
 |[a]=>
  have h1:=h a (ho a (by simp));simp[ME];omega
 |a::b::l=>
  have h1:=h a (ho a (by simp));have h2:=h b (ho b (by simp));simp[ME];omega
theorem LA{β:Type}{f g:β->Nat}:∀{l:List β},(∀x,x∈l->f x<=g x)->(l.map f).sum<=(l.map g).sum
 |[],_=>le_refl _
 |x::l,h=>by have:=LA (l:=l) fun y hy=>h y (by simp[hy]);have:=h x (by simp);simp only[map_cons,sum_cons];omega
theorem RI{β:Type}(a b:Nat)(f:β->Nat):∀l:List β,(l.map fun x=>a*f x+b).sum=a*(l.map f).sum+b*l.length
 |[]=>by simp
 |x::l=>by simp only[map_cons,sum_cons,length_cons,RI a b f l,Nat.mul_add];omega
theorem Zp(h:∀a,ok a->(tx a).length<=100*w a+1){f:Fc Z}(hf:KU ok f):(JX tx f).length<=100*Kw w f+60:=by
 have hw:Kw w f=f.items.length+f.args.length+f.bound.text.length+(f.args.map w).sum+(f.items.map (jS w)).sum:=rfl;unfold JX;split
 .have:=mJ hf.row;omega
 .split
  .have:=oF h hf.args;simp only[length_append,length_cons,length_nil];omega
  .split
   .have:=Yp h 0 hf.args;simp only[length_append,length_cons,length_nil];omega
   .split
    .have:=Yp h 0 hf.args;simp only[length_append,length_cons,length_nil];omega
    .have h1:=Ms [59,32] (f.items.map (LS tx));rw[map_map] at h1
     have h2:=LA (f:=((fun x:List UInt8=>x.length+[59,32].length) ∘ LS tx)) (g:=fun p=>100*jS w p+30) (l:=f.items) fun p hp=>by have k1:=PC (hf.items p hp).1;have k2:=h p.2 (hf.items p hp).2;simp only[Function.comp,LS,length_append,length_cons,length_nil,jS];omega
     rw[RI] at h2;have k1:=PC hf.bound;have k2:=aU f.fn;have k3:=Zj f.op;simp only[length_append,length_cons,length_nil];omega
theorem rW(h:∀a,ok a->(tx a).length<=100*w a+1){f:Fc Z}(hf:KU ok f):(JS tx f).length<=100*Kw w f+85:=by
 have h1:=Zp h hf;have h2:=Lib.itoa_length_le f.exp hf.exp.1 hf.exp.2;unfold JS;split
 .simp only[length_append,length_cons,length_nil];omega
 .omega
theorem T9(h:∀a,ok a->(tx a).length<=100*w a+1){l:List (Fc Z)}(hf:∀f,f∈l->KU ok f):(HZ tx l).length<=100*(l.map (Kw w)).sum+86*l.length:=by
 have h1:=Ms [42] (l.map (JS tx));rw[map_map] at h1
 have h2:=LA (f:=((fun x:List UInt8=>x.length+[42].length) ∘ JS tx)) (g:=fun p=>100*Kw w p+86) (l:=l) fun p hp=>by have k1:=rW h (hf p hp);simp only[Function.comp,length_cons,length_nil];omega
 rw[RI] at h2;unfold HZ;omega
theorem vZ(h:∀a,ok a->(tx a).length<=100*w a+1){t:Tm Z}(ht:My ok t):(Jq tx t).length+3<=100*Hn w t:=by
 have hw:Hn w t=1+t.fs.length+(t.fs.map (Kw w)).sum:=rfl;have h1:=T9 h ht.fs;have h2:=Lib.itoa_length_le t.c ht.c.1 ht.c.2;unfold Jq;split
 .omega
 .split
  .omega
  .simp only[length_append,length_cons,length_nil];omega
theorem pn(h:∀a,ok a->(tx a).length<=100*w a+1){x:An Z}(hx:Hd ok x):(Sz tx x).length<=100*Sy w x+1:=by
 unfold Sz;split
 .simp
 .have h1:=Ms [32,43,32] (x.ts.map (Jq tx));rw[map_map] at h1
  have h2:=LA (f:=((fun x:List UInt8=>x.length+[32,43,32].length) ∘ Jq tx)) (g:=fun t=>100*Hn w t+0) (l:=x.ts) fun t ht=>by have k1:=vZ h (hx.ts t ht);simp only[Function.comp,length_cons,length_nil];omega
  rw[RI] at h2;have hw:Sy w x=(x.ts.map (Hn w)).sum:=rfl;omega
end
theorem Kc:∀n (x:Eu n),Bf n x->(TO n x).length<=100*CD n x+1
 |0,x,_=>nomatch x
 |n+1,_,h=>pn (Kc n) h
end Go.Proofs.YtjniafcnjbbomaaGreatDoor.DE.V
namespace Go.Proofs.YtjniafcnjbbomaaGreatDoor.DE
open Go
mutual
theorem vQ:∀{d:D},BJ d=true->GF d d=true
 |.b _,_=>by simp[GF]
 |.i _ _,_=>by simp[GF]
 |.s _,_=>by simp[GF]
 |.sl k n xs o,h=>by simp only[BJ,and_eq_true] at h;have:=TD h.2;cases o<;>simp[Yw] at h<;>simp[GF,oeq,this]
 |.top,h=>by simp[BJ] at h
 |.agg _,h=>by simp[BJ] at h
 |.AY _,h=>by simp[BJ] at h
 |.bx _ _,h=>by simp[BJ] at h
 |.el _ _,h=>by simp[BJ] at h
 |.ar _ _ _ _,h=>by simp[BJ] at h
 |.KO,h=>by simp[BJ] at h
 |.Cy,h=>by simp[BJ] at h
 |.mp _,h=>by simp[BJ] at h
 |.fn _ _,h=>by simp[BJ] at h
theorem Ps:∀{l:List D},EG l=true->Lm l l=true
 |[],_=>by simp[Lm]
 |x::l,h=>by simp only[EG,and_eq_true] at h;exact and_eq_true _ _ |>.mpr ⟨vQ h.1,Ps h.2⟩
theorem TD:∀{l:List (List D)},GB l=true->NP l l=true
 |[],_=>by simp[NP]
 |x::l,h=>by simp only[GB,and_eq_true] at h;exact and_eq_true _ _ |>.mpr ⟨Ps h.1,TD h.2⟩
end
theorem GU{R:Type}(enc:R->List D):∀{l:List R},(∀x,x∈l->EG (enc x)=true)->GB (l.map enc)=true
 |[],_=>rfl
 |x::l,h=>by simp only[map_cons,GB,and_eq_true];exact⟨h x (by simp),GU enc fun y hy=>h y (by simp[hy])⟩
theorem V2{c:AQ}{g:Nat}:∀{L:List (List D×List D)},(∀p,p∈L->∃z,Jo c g p=some z)->∃t,EN c g L=some t
 |[],_=>⟨[],rfl⟩
 |p::L,h=>by obtain⟨z,hz⟩:=h p (by simp);obtain⟨t,ht⟩:=V2 (L:=L) fun q hq=>h q (by simp[hq]);exact⟨z::t,by simp[EN,hz,ht]⟩
theorem Z0{R:Type}{cf:AQ}(enc:R->List D)(c:R->R->Int)(k g:Nat)(l:List R)(hk:∀x,x∈l->(enc x).length=k)(hp:∀x,x∈l->EG (enc x)=true)(hl:l.length<=1048576)
  (hc:∀x,x∈l->∀y,y∈l->A0 cf g [.agg (enc x),.agg (enc y)]=some (.i .i64 (c x y)))
  (h1:∀x,x∈l->∀y,y∈l->c x y<0->¬c y x<0) (h2:∀x,x∈l->∀y,y∈l->∀z,z∈l->¬c x y<0->¬c y z<0->¬c x z<0)
  (h3:∀x,x∈l->∀y,y∈l->¬c x y<0->¬c y x<0->enc x=enc y) :
  ∃m:List R,m.Perm l/\(m.Pairwise fun a b=>¬c b a<0)/\Ha cf k g (l.map enc)=some (m.map enc):=by
 cases l with
 |nil=>exact⟨[],List.Perm.refl _,List.Pairwise.nil,by simp[Ha,GB,KI,EN,okT,OW]⟩
 |cons x0 l0=>
 generalize hL:x0::l0=l at *;have hx0:x0∈l:=by rw[<-hL];simp
 let rows:=l.map enc
 have hrl:rows.length=l.length:=by simp[rows]
 have cm:∀x,x∈l->∀y,y∈l->Jo cf g (enc x,enc y)=some (c x y):=fun x hx y hy=>by simp only[Jo,hc x hx y hy]
 have lt':∀x,x∈l->∀y,y∈l->Tc cf g (enc x) (enc y)=decide (c x y<0):=fun x hx y hy=>by simp only[Tc,cm x hx y hy]
 obtain⟨t,ht⟩:∃t,EN cf g (KI rows)=some t:=by apply V2;intro p aX;simp only[KI,List.mem_flatMap,rows,List.mem_map] at aX;obtain⟨_,⟨x,hx,rfl⟩,_,⟨y,hy,rfl⟩,rfl⟩:=aX;exact⟨_,cm x hx y hy⟩
 have at_:∀i,i<l.length->l[i]? = some (l.getD i x0)/\l.getD i x0∈l/\rows[i]? = some (enc (l.getD i x0))/\rows.getD i []=enc (l.getD i x0):=fun i hi=>by
  have e:l[i]? = some (l.getD i x0):=by rw[gD,gA hi];rfl
  have e2:rows[i]? = some (enc (l.getD i x0)):=by simp only[rows,getElem?_map,e,map_some]
  exact⟨e,gC e,e2,Nj e2⟩
 have yP:∀i j,i<l.length->j<l.length->iq t rows.length i j=decide (c (l.getD i x0) (l.getD j x0)<0):=fun i j hi hj=>by rw[(GL ht (at_ i hi).2.2.1 (at_ j hj).2.2.1).2,lt' _ (at_ i hi).2.1 _ (at_ j hj).2.1]
 have Bg:okT (iq t rows.length) rows=true:=by
  unfold okT;refine List.all_eq_true.2 fun i hi=>List.all_eq_true.2 fun j hj=>?_;have hi:=List.mem_range.1 hi;have hj:=List.mem_range.1 hj;rw[hrl] at hi hj;have mi:=(at_ i hi).2.1;have mj:=(at_ j hj).2.1;simp only[and_eq_true,yP i j hi hj,yP j i hj hi,(at_ i hi).2.2.2,(at_ j hj).2.2.2];refine⟨⟨?_,?_⟩,?_⟩
  .by_cases e:c (l.getD i x0) (l.getD j x0)<0
   .simp[-getD_eq_getElem?_getD,e,h1 _ mi _ mj e]
   .simp[-getD_eq_getElem?_getD,e]
  .by_cases e:c (l.getD i x0) (l.getD j x0)<0
   .simp[-getD_eq_getElem?_getD,e]
   .by_cases e':c (l.getD j x0) (l.getD i x0)<0
    .simp[-getD_eq_getElem?_getD,e']
    .rw[h3 _ mi _ mj e e'];simp[-getD_eq_getElem?_getD,Ps (hp _ mj)]
  .refine List.all_eq_true.2 fun m hm=>?_;have hm:=List.mem_range.1 hm;rw[hrl] at hm;have mm:=(at_ m hm).2.1;rw[yP j m hj hm,yP i m hi hm];by_cases e:c (l.getD i x0) (l.getD j x0)<0
   .simp[-getD_eq_getElem?_getD,e]
   .by_cases e':c (l.getD j x0) (l.getD m x0)<0
    .simp[-getD_eq_getElem?_getD,e']
    .simp[-getD_eq_getElem?_getD,h2 _ mi _ mj _ mm e e']
 let ix:=OW (iq t rows.length) (List.range rows.length)
 have hix:∀i,i∈ix->i<l.length:=fun i hi=>by
  have:=List.mem_range.1 ((GK _).mem_iff.1 hi)
  rwa [hrl] at this
 have rl:(List.range l.length).map (fun i=>l.getD i x0)=l:=by
  apply List.ext_getElem?;intro i;rw[getElem?_map];by_cases h:i<l.length
  .rw[List.getElem?_range h,map_some,(at_ i h).1]
  .rw[List.getElem?_eq_none (by simpa using h),List.getElem?_eq_none (by omega)];rfl
 refine⟨ix.map fun i=>l.getD i x0,?_,?_,?_⟩
 .have:=(GK (lt:=iq t rows.length) (List.range rows.length)).map (fun i=>l.getD i x0)
  rwa [show(List.range rows.length).map (fun i=>l.getD i x0)=l by rw[hrl];exact rl] at this
 .rw[List.pairwise_map];have hw:=Rs (lt:=iq t rows.length) (fun i=>i<l.length) (fun a b c' ha hb YC q1 q2=>?_) (fun a b ha hb q1=>?_) (List.range rows.length) (fun x hx=>by have:=List.mem_range.1 hx;rwa [hrl] at this)
  .refine List.Pairwise.imp_of_mem ?_ hw;intro a b ha hb e;rw[yP b a (hix b hb) (hix a ha)] at e;simpa using e
  .rw[yP _ _ hb ha] at q1;rw[yP _ _ YC hb] at q2;rw[yP _ _ YC ha];simp only[decide_eq_false_iff_not] at q1 q2 ⊢;exact h2 _ (at_ _ YC).2.1 _ (at_ _ hb).2.1 _ (at_ _ ha).2.1 q2 q1
  .rw[yP _ _ ha hb] at q1;rw[yP _ _ hb ha];simp only[decide_eq_false_iff_not,decide_eq_true_eq] at q1 ⊢;exact h1 _ (at_ _ ha).2.1 _ (at_ _ hb).2.1 q1
 .have fX:GB rows=true:=GU enc hp
  have YN:rows.all (fun x=>decide (x.length=k))=true:=by simp only[rows,List.all_map];exact List.all_eq_true.2 fun x hx=>by simp[hk x hx]
  have hrl':rows.length<=1048576:=by omega
  show Ha cf k g rows=_;unfold Ha;rw[if_pos ⟨fX,hrl',YN⟩,ht];simp only[Bg,if_true,map_map];congr 1;exact List.map_congr_left fun i hi=>(at_ i (hix i hi)).2.2.2
theorem HJ(k:Nat):∀(l:List (List D)),(∀x,x∈l->x.length=k)->chunks k l.length l.flatten=l
 |[],_=>rfl
 |x::l,h=>by have hx:=h x (by simp);simp only[length_cons,List.flatten_cons,chunks];rw[show(x++l.flatten).take k=x by rw[<-hx];simp,show(x++l.flatten).drop k=l.flatten by rw[<-hx];simp,HJ k l fun y hy=>h y (by simp[hy])]
theorem Uy{g0:Nat}{f:Fn}(hf:dp g0=some f){k:Nat}(hk:0<k)(Qy:k<1000)(hn:f.np=3000+k){S:A1}{id n:Nat}{cs:List D}{rows:List (List D)}{g lim:Nat}(hS:AA S id=some (.box cs))(hl:n*k<=cs.length)
  (hs:Ha (call dq) k g (chunks k n cs)=some rows) (hlim:lim<4000000000) :
  call dp g0 [.ar k id 0 n,.i .i64 0,.i .i64 n,.i .i64 lim,.fn g []] S=some (.AY [],sset S id (.box (Ai cs 0 rows.flatten))):=by
 rw[LO,hf];simp only;rw[if_neg (by rintro⟨h,_⟩;rw[hn] at h;simp at h;omega)];unfold Bb;rw[if_neg (by omega),if_neg (by omega),if_neg (by omega),if_neg (by omega),if_pos (by omega)];simp only;rw[if_pos ⟨⟨by omega,hk⟩,trivial,trivial,by omega,by omega⟩];simp only[hS,Nat.zero_add];rw[if_pos hl,List.drop_zero];simp only[hs]
theorem SV{g0:Nat}{f:Fn}(hf:dp g0=some f)(hn:3000<=f.np){S:A1}{g lim k:Nat}{nl:Bool}{o:JB} :
  call dp g0 [.sl k nl [] o,.i .i64 0,.i .i64 0,.i .i64 lim,.fn g []] S=some (.AY [],S):=by
 rw[LO,hf];simp only;rw[if_neg (by rintro⟨h,_⟩;rw[<-h] at hn;simp at hn)];unfold Bb;rw[if_neg (by omega),if_neg (by omega),if_neg (by omega),if_neg (by omega),if_pos (by omega)];simp
namespace V
open NL
theorem rQ{l:List UInt8}(hl:∀x,x<256->l[x]? = some (UInt8.ofNat (KC x))){y n:Nat}(hy:y<256)(hn:n<=64){Q:D->Prop}(hQ:Q (.i .i64 (n+KC y:Nat))) :
  OX (BA .u8 (.i .u64 y)) fun x13=>OX (Yf (.s l) x13) fun x14=>OX (BA .i64 x14) fun x15=>OX (A4 .add .num (.i .i64 n) x15) fun x16=>Q x16:=by
 have h8:KC y<=8:=Oq (s:=8) hy;rw[conv8 hy,A5,ZV hy (hl y hy),A5,convI (by omega),A5,EB,<-Int.natCast_add,QO (by omega),A5];exact hQ
theorem we(x n:Nat):A4 .geq .num (.i .u64 x) (.i .u64 n)=some (.b (decide (n<=x))):=by rw[Ek];congr 2;simp
set_option maxRecDepth 20000 in
theorem v269(n:Nat)(h:n<65536):∃v:Nat,A0 (call dp) 269 [.i .u64 n]=some (.i .i64 v)/\v<1000:=by
 suffices hh:∃d,A0 (call dp) 269 [.i .u64 n]=some d/\∃v:Nat,d=.i .i64 v/\v<1000 by obtain⟨d,h1,v,rfl,h2⟩:=hh;exact⟨v,h1,h2⟩
 apply j269 _ _ (by simp[A9]) (by rintro d ⟨v,rfl,_⟩;rfl);have g1:=we n 4294967296;have g2:=we n 65536;have g3:=we n 256;simp only[Int.cast_ofNat_Int] at g1 g2 g3;unfold s269;simp only[Cq,g1,g2,g3,A5,jn,KN,show ¬4294967296<=n by omega,show ¬65536<=n by omega,decide_false,false_eq_true,if_false];by_cases c2:256<=n
 .have Ro:=LC (k:=.u64) (k':=.u64) (v:=n) (s:=8) (by decide);simp only[Int.cast_ofNat_Int] at Ro;rw[show(2:Nat)^8=256 from rfl] at Ro;have h8:KC (n/256)<=8:=Oq (s:=8) (by omega);simp only[c2,decide_true,if_true,Ro,A5,EB];exact rQ len8 (y:=n/256) (n:=8) (by omega) (by omega) ⟨_,rfl,by omega⟩
 .have h8:KC n<=8:=Oq (s:=8) (by omega);simp only[c2,decide_false,false_eq_true,if_false];exact rQ len8 (y:=n) (n:=0) (by omega) (by omega) ⟨_,rfl,by omega⟩
theorem v193(n:Nat)(h:n<65536):∃v:Nat,A0 (call dp) 193 [.i .u64 n]=some (.i .i64 v)/\v<1000:=by obtain⟨v,e,h2⟩:=v269 n h;refine⟨v,?_,h2⟩;apply i193 _ _ (by simp[A9]) rfl;simp only[s193,Cq,KN,false_eq_true,if_false,e,A5];rfl
end V
end Go.Proofs.YtjniafcnjbbomaaGreatDoor.DE
namespace Go.Proofs.YtjniafcnjbbomaaGreatDoor.DE.V
open Go BT
structure iF(Z:Type) where
 V:Z->Bool
 em:Z->Bool
 ot:Z->Bool
 bc:Z->Bool
 Qk:Z->Bool
 c:Z->Z->Int
section
variable {Z:Type}
def zM(v:Vl):Bool:=decide (v.kind=0)&&(decide (v.int=0)&&v.text==[])
def Hr(f:Fc Z):Bool:=decide (f.fn=0)&&decide (f.items.length=0)&&decide (f.op=0)&&zM f.bound
def Srt(c':Vl × Z->Vl × Z->Int)(l:List (Vl × Z)):Prop:=∀(j:Nat) x y,l[j]? = some x->l[j+1]? = some y->¬c' y x<0
def Sb(P:iF Z):List Z->Bool
 |[a,b]=>!decide (P.c a b=0)
 |_=>false
def Ze(P:iF Z):List Z->Bool
 |[a]=>!P.ot a && !P.bc a
 |_=>false
def ZA(P:iF Z):List Z->Bool
 |[a]=>!P.Qk a
 |_=>false
open Classical in
noncomputable def nr(P:iF Z)(f:Fc Z):Bool:=
 if f.kind≠4/\Hr f=false then false
 else if f.kind≠0/\f.row≠(0,0) then false
 else if f.args.any (fun a=>!P.V a||P.em a)=true then false
 else if f.kind=0 then NM f.row&&decide (f.args.length=0)
 else if f.kind=1 then Sb P f.args
 else if f.kind=2 then Ze P f.args
 else if f.kind=3 then ZA P f.args
 else if f.kind=4 then decide (f.args.length=0)&&decide (0<f.items.length) && !f.items.any (fun p=>!P.V p.2||P.em p.2)&&decide (Srt (MK P.c) f.items)&&mD f.fn f.items f.op f.bound
 else false
def pre{β:Type}(l:List β)(k:Nat):Option β:=if k=0 then none else l[k-1]?
def kP(f:Fc Z):Bool:=decide (1<=f.exp)&&(!idem f||decide (f.exp=1))
noncomputable def nz(P:iF Z):Option (Fc Z)->List (Fc Z)->Bool
 |_,[]=>true
 |p,f::l=>(kP f&&(match p with | none=>true | some g=>decide (EU P.c g f<0))&&nr P f)&&nz P (some f) l
noncomputable def wk(P:iF Z):Option (Tm Z)->List (Tm Z)->Bool
 |_,[]=>true
 |p,t::l=>(decide (1<=t.c)&&decide (t.c<=1152921504606846976)&&(match p with | none=>true | some g=>decide (Hw P.c g t<0))&&nz P none t.fs)&&wk P (some t) l
noncomputable def ov(P:iF Z)(e:Z->D)(x:An Z):Bool:=Ui e x&&wk P none x.ts
theorem T7{β:Type}{l:List β}{k:Nat}{x:β}(h:l[k]? = some x):pre l (k+1)=some x:=by simp[pre,h]
theorem YY{β:Type}{l:List β}:pre l 0=none:=rfl
variable {e:Z->D}{ok:Z->Prop}
structure VM(e:Z->D)(ok:Z->Prop)(P:iF Z):Prop where
 he:GE e
 len:∀a,∃n:Nat,AK false (e a)=some (.i .i64 n)/\P.em a=decide (n=0)
 V:∀a,ok a->A0 (call dp) 62 [e a]=some (.b (P.V a))
 ot:∀a,A0 (call dp) 180 [e a]=some (.b (P.ot a))
 bc:∀a,A0 (call dp) 181 [e a]=some (.b (P.bc a))
 Qk:∀a,ok a->A0 (call dp) 77 [e a]=some (.b (P.Qk a))
 c:Nt e ok P.c
 eq:∀a b,ok a->A0 (call dp) 179 [e a,e b]=some (.b (decide (P.c a b=0)))
variable {P:iF Z}
theorem v178(H:VM e ok P)(a:Z)(h:ok a):A0 (call dp) 178 [e a]=some (.b (!P.V a||P.em a)):=by
 obtain⟨n,h1,h2⟩:=H.len a;apply i178 _ _ (by simp[A9,H.he.AG,H.he.strip]) rfl;simp only[s178,H.he.strip,H.V a h,A5,Cu];cases P.V a
 .simp
 .simp[-Oi,h1,h2]
theorem v183(H:VM e ok P)(p:Vl × Z)(h:ok p.2):A0 (call dp) 183 [.agg (Gw e p)]=some (.b (!P.V p.2||P.em p.2)):=by
 obtain⟨n,h1,h2⟩:=H.len p.2;apply i183 _ _ (by simp[A9,TG H.he,LB e H.he]) rfl;simp only[s183,LB e H.he,Pj,Cs e H.he,A5,uF,Nat.zero_add,GH,BM,length_nil,if_true,K2,LW,it_3,H.V p.2 h,Cu];cases P.V p.2
 .simp
 .simp[-Oi,h1,h2]
theorem yT(r:Vl):Ew [.i,.i,.s] (OY r) [.i .i64 0,.i .i64 0,.s []]=some (zM r):=by simp[OY,Ew,HV,seq1,zM];rfl
@[simp] theorem bin_neq_vl(r:Vl):A4 .neq (.agg [.i,.i,.s]) (.agg (OY r)) (.agg [.i .i64 0,.i .i64 0,.s []])=some (.b (!zM r)):=by simp only[A4,yT,og]
@[simp] theorem bin_neq_row0(r:Row):A4 .neq (.agg [.i,.i]) (.agg (Ar r)) (.agg [.i .i64 0,.i .i64 0])=some (.b (!decide (r=(0,0)))):=QB r (0,0)
open Classical in
theorem v117(
       H:VM e ok P) (f:Fc Z) (h:KU ok f):A0 (call dp) 117 [.agg (GZ e f)]=some (.b (nr P f)):=by
 have he:=H.he;have hA:=v151 he (fun a=>!P.V a||P.em a) 178 f.NG f.args h.OG fun a ha=>v178 H a (h.args a ha);have hI:=v182 he (fun p=>!P.V p.2||P.em p.2) 183 f.inl f.items h.NH fun p hp=>v183 H p (h.items p hp).2;have hS:=v184 he (MK P.c) f.inl f.items h.NH fun p hp q _=>v176 he H.c p q (h.items p hp).2;have hF:=v185 he f.fn f.op f.bound f.inl f.items h.NH;have h92:=AAn f.row;apply i117 _ _ (by simp[A9,Ec he]) rfl;unfold nr;have hS:A0 (call dp) 184 [B6 e f.inl f.items,.fn 176 []]=some (.b (decide (Srt (MK P.c) f.items))):=hS;generalize hgA:f.args.any (fun a=>!P.V a||P.em a)=A at *;generalize f.items.any (fun p=>!P.V p.2||P.em p.2)=B at *;generalize decide (Srt (MK P.c) f.items)=C at *;generalize mD f.fn f.items f.op f.bound=F at *;generalize NM f.row=R at *;have Rr:B8 [.i .i64 0,.i .i64 0,.s []] []=some [.i .i64 0,.i .i64 0,.s []]:=rfl;have Jt:B8 [.i .i64 0,.i .i64 0] []=some [.i .i64 0,.i .i64 0]:=rfl;by_cases hp:f.kind≠4/\Hr f=false
 .obtain⟨k4,an⟩:=hp;simp only[k4,an,ne_eq,not_false_eq_true,and_self,if_true];simp[JW,Rr,Jt,k4];unfold Hr at an;by_cases a1:f.fn=0
  .by_cases a2:f.items=[]
   .by_cases a3:f.op=0
    .simp[a1,a2,a3] at an;simp[a1,a2,a3,an]
    .simp[a1,a2,a3]
   .simp[a1,a2]
  .simp[a1]
 .have aX:f.kind=4\/(f.fn=0/\f.items=[]/\f.op=0/\zM f.bound=true):=by
   by_cases k4:f.kind=4
   .exact .inl k4
   .right
    have:Hr f=true:=by
     cases hq:Hr f with
     |true=>rfl
     |false=>exact absurd ⟨k4,hq⟩ hp
    simp[Hr] at this;exact⟨this.1.1.1,by simpa using this.1.1.2,this.1.2,this.2⟩
  rw[if_neg hp];by_cases hr:f.kind≠0/\f.row≠(0,0)
  .rw[if_pos hr];rcases aX with k4|⟨a1,a2,a3,a4⟩
   .simp[JW,Rr,Jt,k4,hr.2]
   .by_cases k4:f.kind=4
    .simp[JW,Rr,Jt,k4,hr.2]
    .simp[JW,Rr,Jt,k4,a1,a2,a3,a4,hr.1,hr.2]
  .rw[if_neg hr]
   have pH:f.kind=0\/f.row=(0,0):=by
    by_cases k0:f.kind=0
    .exact .inl k0
    .by_cases hz:f.row=(0,0)
     .exact .inr hz
     .exact absurd ⟨k0,hz⟩ hr
   cases A with
   |true=>
    rcases aX with k4|⟨a1,a2,a3,a4⟩
    .rcases pH with k0|hz
     .omega
     .simp[JW,Rr,Jt,k4,hz,hA]
    .by_cases k4:f.kind=4
     .rcases pH with k0|hz
      .omega
      .simp[JW,Rr,Jt,k4,hz,hA]
     .rcases pH with k0|hz
      .simp[JW,Rr,Jt,k0,a1,a2,a3,a4,hA]
      .by_cases k0:f.kind=0
       .simp[JW,Rr,Jt,k0,a1,a2,a3,a4,hA]
       .simp[JW,Rr,Jt,k0,k4,a1,a2,a3,a4,hz,hA]
   |false=>
    simp only[false_eq_true,if_false];by_cases k0:f.kind=0
    .have:f.fn=0/\f.items=[]/\f.op=0/\zM f.bound=true:=by rcases aX with k4|h;omega;exact h
     obtain⟨a1,a2,a3,a4⟩:=this;simp[JW,Rr,Jt,k0,a1,a2,a3,a4,hA,h92];cases R<;>by_cases hl:f.args=[]<;>simp[hl]
    .have hz:f.row=(0,0):=by rcases pH with h|h;exact absurd h k0;exact h
     by_cases k4:f.kind=4
     .simp[JW,Rr,Jt,k4,hz,hA,hI];by_cases l0:f.args=[]
      .by_cases li:0<f.items.length
       .cases B<;>cases C<;>cases F<;>simp[l0,li,hS,hF]
       .simp[l0,li]
      .simp[l0]
     .have:f.fn=0/\f.items=[]/\f.op=0/\zM f.bound=true:=by rcases aX with h|h;exact absurd h k4;exact h
      obtain⟨a1,a2,a3,a4⟩:=this;have two:∀l:List Z,(l.length:Int)+1+1+1≠2:=fun l=>by omega
      have one:∀l:List Z,(l.length:Int)+1+1≠1:=fun l=>by omega
      by_cases k1:f.kind=1
      .match hl:f.args with
       |[]=>simp[JW,Rr,Jt,k1,a1,a2,a3,a4,hz,hl,hl▸hA,Sb]
       |[a]=>simp[JW,Rr,Jt,k1,a1,a2,a3,a4,hz,hl,hl▸hA,Sb]
       |[a,b]=>
        have:=H.eq a b (h.args a (by simp[hl]));simp[-Oi,JW,Rr,Jt,k1,a1,a2,a3,a4,hz,hl,hl▸hA,Sb,this]
       |a::b::c::l=>simp[JW,Rr,Jt,k1,a1,a2,a3,a4,hz,hl,hl▸hA,Sb,two]
      .by_cases k2:f.kind=2
       .match hl:f.args with
        |[]=>simp[JW,Rr,Jt,k2,a1,a2,a3,a4,hz,hl,hl▸hA,Ze]
        |[a]=>
         simp[JW,Rr,Jt,k2,a1,a2,a3,a4,hz,hl,hl▸hA,Ze,H.ot,H.bc];cases P.ot a<;>cases P.bc a<;>simp
        |a::b::l=>simp[JW,Rr,Jt,k2,a1,a2,a3,a4,hz,hl,hl▸hA,Ze,one]
       .by_cases k3:f.kind=3
        .match hl:f.args with
         |[]=>simp[JW,Rr,Jt,k3,a1,a2,a3,a4,hz,hl,hl▸hA,ZA]
         |[a]=>
          have:=H.Qk a (h.args a (by simp[hl]));simp[JW,Rr,Jt,k3,a1,a2,a3,a4,hz,hl,hl▸hA,ZA,this]
         |a::b::l=>simp[JW,Rr,Jt,k3,a1,a2,a3,a4,hz,hl,hl▸hA,ZA,one]
        .simp[JW,Rr,Jt,k0,k1,k2,k3,k4,a1,a2,a3,a4,hz,hA]
def LY{β:Type}(c:β->β->Int)(p:Option β)(t:β):Bool:=match p with
 |none=>true
 |some g=>decide (c g t<0)
theorem ZD(p:Option (Fc Z))(f:Fc Z)(l:List (Fc Z)):nz P p (f::l)=((kP f&&LY (EU P.c) p f&&nr P f)&&nz P (some f) l):=by cases p<;>rfl
theorem ZG(p:Option (Tm Z))(t:Tm Z)(l:List (Tm Z)):wk P p (t::l)=((decide (1<=t.c)&&decide (t.c<=1152921504606846976)&&LY (Hw P.c) p t&&nz P none t.fs)&&wk P (some t) l):=by cases p<;>rfl
theorem vFs_nil(p:Option (Fc Z)):nz P p []=true:=by cases p<;>rfl
theorem vTs_nil(p:Option (Tm Z)):wk P p []=true:=by cases p<;>rfl
theorem iU{β:Type}(c:β->β->Int){l:List β}{k:Nat}{g:β}(h:l[k]? = some g)(t:β):LY c (pre l (k+1)) t=decide (c g t<0):=by rw[T7 h];rfl
set_option maxHeartbeats 1000000 in
theorem v62f(
       H:VM e ok P) (t:Tm Z) (Lp:My ok t) (a0 b2 a10 a11 a12 b42 b43 b13:D) (id:Nat) (S0:A1) (hid:AA S0 id=some (.box (Cj e t))) (Q:Ex->List D->A1->Prop)
  (hF:nz P none t.fs=false->∀S,Q .ret (B0 85 [(0,.top),(2,.b false),(4,.top),(10,.top),(11,.top),(12,.top),(13,b13),(40,.top),(41,.top),(42,.top),(43,.top)]) S)
  (hT:nz P none t.fs=true->∀S b42 b43,Q (.exit 2) (B0 85 [(0,a0),(2,b2),(4,.bx id 0),(10,a10),(11,a11),(12,a12),(13,b13),(40,BI e t.nl t.fs),(41,.i .i64 t.fs.length),(42,b42),(43,b43)]) S) :
  W (call dp) (.loop [] Ye) (B0 85 [(0,a0),(2,b2),(4,.bx id 0),(10,a10),(11,a11),(12,a12),(13,b13),(40,BI e t.nl t.fs),(41,.i .i64 t.fs.length),(42,.i .i64 0),(43,b43)]) S0 Q:=by
 have he:=H.he;have KR:=Lp.len
 let J2:Nat->List D->A1->Prop:=fun q fr S=>∃i b43,fr=B0 85 [(0,a0),(2,b2),(4,.bx id 0),(10,a10),(11,a11),(12,a12),(13,b13),(40,BI e t.nl t.fs),(41,.i .i64 t.fs.length),(42,.i .i64 (i:Nat)),(43,b43)]/\i+q=t.fs.length/\nz P none t.fs=nz P (pre t.fs i) (t.fs.drop i)/\AA S id=some (.box (Cj e t))
 refine AW J2 ?_ t.fs.length _ _ ⟨0,_,rfl,by simp,by simp[YY],hid⟩;intro q2 fr S hJ;obtain⟨i,b43,C7,hi,EM,hS⟩:=hJ;rw[C7];rw[<-Ay,e62_0];simp[s62_0];split<;>rename_i h2
 .obtain⟨f,hf⟩:=AZ (l:=t.fs) (k:=i) (by omega);have hfm:=gC hf;have KB:=Lp.fs f hfm;have Vi:¬id=S.length:=by have:=AJ hS;omega
  rw[BG hf,ZD] at EM;have h98:=v115 he f;have h100:=v117 H f KB;have w1:IntKind.i64.wrap ((i:Int)+1)=((i+1:Nat):Int):=Br (k:=i) h2 Lp.len;have bad:nz P none t.fs=false->Q .ret (B0 85 [(0,.top),(2,.b false),(4,.top),(10,.top),(11,.top),(12,.top),(13,b13),(40,.top),(41,.top),(42,.top),(43,.top)]) (.box (EF e f)::S):=fun h=>hF h _
  have NA:kP f=true->LY (EU P.c) (pre t.fs i) f=true->nr P f=true->∀b42,∃m',m'<q2/\J2 m' (B0 85 [(0,a0),(2,b2),(4,.bx id 0),(10,a10),(11,a11),(12,a12),(13,b13),(40,BI e t.nl t.fs),(41,.i .i64 t.fs.length),(42,.i .i64 ((i+1:Nat):Int)),(43,b42)]) (.box (EF e f)::S):=by intro g1 g2 g3 b42;refine⟨q2-1,by omega,⟨i+1,_,rfl,by omega,?_,AM hS⟩⟩;rw[EM,g1,g2,g3,T7 hf];rfl
  have hpv:∀k',i=k'+1->∃g,t.fs[k']? = some g/\A0 (call dp) 116 [.agg (GZ e g),.agg (GZ e f)]=some (.i .i64 (EU P.c g f)):=by intro k' Qy;obtain⟨g,hg⟩:=AZ (l:=t.fs) (k:=k') (by omega);exact⟨g,hg,v116 he H.c g f (Lp.fs g (gC hg))⟩
  unfold kP at EM NA;simp only[w1];generalize nr P f=VV at *;by_cases a1:f.exp<1
  .have:decide (1<=f.exp)=false:=by simp;omega
   simp only[this,Bool.false_and] at EM;simp[Aq e _ hf,a1];exact bad EM
  .have a1':decide (1<=f.exp)=true:=by simp;omega
   by_cases a2:idem f=true/\¬f.exp=1
   .simp only[a2.1,a2.2,decide_false,Bool.not_true,Bool.or_false,Bool.and_false,Bool.false_and] at EM;simp[Aq e _ hf,a1,h98,a2];exact bad EM
   .have a3:(decide (1<=f.exp)&&(!idem f||decide (f.exp=1)))=true:=by
     cases hq:idem f
     .simp[a1']
     .have:f.exp=1:=by
       by_cases Qv:f.exp=1
       .exact Qv
       .exact absurd ⟨hq,Qv⟩ a2
      simp[this]
    have a4:idem f=false\/(idem f=true/\f.exp=1):=by
     cases hq:idem f
     .exact .inl rfl
     .right;refine⟨rfl,?_⟩;by_cases Qv:f.exp=1
      .exact Qv
      .exact absurd ⟨hq,Qv⟩ a2
    rw[a3,Bool.true_and] at EM
    replace NA:=NA a3
    rcases Nat.eq_zero_or_pos i with i0|i0
    .have an:LY (EU P.c) (pre t.fs i) f=true:=by rw[i0];rfl
     have xh:¬0<i:=by omega
     rw[an,Bool.true_and] at EM
     replace NA:=NA an
     cases VV with
     |false=>
      rcases a4 with a4|⟨a4,a5⟩
      .simp[Aq e _ hf,a1,h98,a4,h100,xh];exact bad (by simpa using EM)
      .simp[Aq e _ hf,a5,h98,a4,h100,xh];exact bad (by simpa using EM)
     |true=>
      rcases a4 with a4|⟨a4,a5⟩
      .simp[Aq e _ hf,a1,h98,a4,h100,xh];exact NA rfl _
      .simp[Aq e _ hf,a5,h98,a4,h100,xh];exact NA rfl _
    .obtain⟨k',Qy⟩:∃k',i=k'+1:=⟨i-1,by omega⟩
     obtain⟨g,hg,hc⟩:=hpv k' Qy;have hpp:LY (EU P.c) (pre t.fs i) f=decide (EU P.c g f<0):=by rw[Qy];exact iU _ hg f
     rw[hpp] at EM NA;have w2:IntKind.i64.wrap ((i:Int)-1)=(k':Int):=by unfold Bi at KR;rw[wrap64 ⟨by omega,by omega⟩];omega
     have xh:0<i:=i0;by_cases YP:EU P.c g f<0
     .have UA:¬0<=EU P.c g f:=by omega
      simp only[YP,decide_true,Bool.true_and] at EM
      replace NA:=NA (by simpa using YP)
      cases VV with
      |false=>
       rcases a4 with a4|⟨a4,a5⟩
       .simp[Aq e _ hf,Aq e _ hg,a1,h98,a4,h100,xh,Vi,hS,w2,hc,UA];exact bad (by simpa using EM)
       .simp[Aq e _ hf,Aq e _ hg,a5,h98,a4,h100,xh,Vi,hS,w2,hc,UA];exact bad (by simpa using EM)
      |true=>
       rcases a4 with a4|⟨a4,a5⟩
       .simp[Aq e _ hf,Aq e _ hg,a1,h98,a4,h100,xh,Vi,hS,w2,hc,UA];exact NA rfl _
       .simp[Aq e _ hf,Aq e _ hg,a5,h98,a4,h100,xh,Vi,hS,w2,hc,UA];exact NA rfl _
     .have UA:0<=EU P.c g f:=by omega
      simp only[YP,decide_false,Bool.false_and] at EM;rcases a4 with a4|⟨a4,a5⟩
      .simp[Aq e _ hf,Aq e _ hg,a1,h98,a4,h100,xh,Vi,hS,w2,hc,UA];exact bad EM
      .simp[Aq e _ hf,Aq e _ hg,a5,h98,a4,h100,xh,Vi,hS,w2,hc,UA];exact bad EM
 .rw[drop_eq_nil_of_le (show t.fs.length<=i by omega),vFs_nil] at EM;exact hT EM _ _ _
set_option maxHeartbeats 1000000 in
theorem v62s(
       H:VM e ok P) (hs:UL 167 (CL e) (Hd ok)) (hd:UL 166 (CL e) (Hd ok)) (x:An Z) (hx:Hd ok x) :
  A0 (call dp) 62 [CL e x]=some (.b (ov P e x)):=by
 have he:=H.he;have h96:=v113 he hs hd x hx;have hlen:=hx.len;apply i62 _ _ (by simp[A9,Bj he]) rfl;unfold ov;simp[-Oi,s62,h96];cases U6:Ui e x
 .simp
 .simp;generalize hR:wk P none x.ts=R
  let J:Nat->List D->A1->Prop:=fun q fr S=>∃k b2 b4 b13 b40 b41 b42 b43,fr=B0 85 [(0,CL e x),(2,b2),(4,b4),(10,CL e x),(11,.i .i64 x.ts.length),(12,.i .i64 (k:Nat)),(13,b13),(40,b40),(41,b41),(42,b42),(43,b43)]/\k+q=x.ts.length/\wk P none x.ts=wk P (pre x.ts k) (x.ts.drop k)
  refine AW J ?_ x.ts.length _ _ ⟨0,_,_,_,_,_,_,_,rfl,by simp,by simp[YY]⟩;intro q fr S hJ;obtain⟨k,b2,b4,b13,b40,b41,b42,b43,C7,hk,hv⟩:=hJ;rw[C7];rw[<-Ay,e62_1];simp[s62_1];rw[hR] at hv;split<;>rename_i h
  .obtain⟨t,ht⟩:=AZ (l:=x.ts) (k:=k) (by omega);have oY:=gC ht;have Lp:=hx.ts t oY;rw[BG ht,ZG] at hv;have w1:IntKind.i64.wrap ((k:Int)+1)=((k+1:Nat):Int):=Br (k:=k) h hx.len
   have inner:decide (1<=t.c)=true->decide (t.c<=1152921504606846976)=true->LY (Hw P.c) (pre x.ts k) t=true->∀b2 b13 b43 S0 id,AA S0 id=some (.box (Cj e t)) ->
     W (call dp) (.loop [] Ye) (B0 85 [(0,CL e x),(2,b2),(4,.bx id 0),(10,CL e x),(11,.i .i64 x.ts.length),(12,.i .i64 (k:Nat)),(13,b13),(40,BI e t.nl t.fs),(41,.i .i64 t.fs.length),(42,.i .i64 0),(43,b43)]) S0
      (Af 2 (Af 1 (QS (call dp) W9 (KE (fun Au S'=>∃m',m'<q/\J m' Au S') (Af 0 (QS (call dp) XH (Aw [.t 2] fun dd _=>Ae dd=.b R))))))):=by
    intro g1 g2 g3 b2 b13 b43 S0 id hid;rw[g1,g2,g3] at hv;refine v62f H t Lp _ _ _ _ _ b43 _ _ id S0 hid _ ?_ ?_
    .intro hvf S;rw[hvf] at hv;simp[hv]
    .intro hvf S b42 b43;rw[hvf] at hv;simp[e62_r0,uw];rw[w1];exact⟨q-1,by omega,⟨k+1,_,_,_,_,_,_,_,rfl,by omega,by rw[hR,hv,T7 ht];rfl⟩⟩
   by_cases c1:t.c<1
   .have:decide (1<=t.c)=false:=by simp;omega
    rw[this] at hv;simp[Bn e _ ht,c1,hv]
   .have c1':decide (1<=t.c)=true:=by simp;omega
    by_cases c2:1152921504606846976<t.c
    .have:decide (t.c<=1152921504606846976)=false:=by simp;omega
     rw[this] at hv;simp[Bn e _ ht,c1,c2,hv]
    .have c2':decide (t.c<=1152921504606846976)=true:=by simp;omega
     rcases Nat.eq_zero_or_pos k with k0|k0
     .have an:LY (Hw P.c) (pre x.ts k) t=true:=by rw[k0];rfl
      have k0':¬0<k:=by omega
      simp[Bn e _ ht,c1,c2,k0'];exact inner c1' c2' an _ _ _ _ _ (by simp)
     .obtain⟨k',Qy⟩:∃k',k=k'+1:=⟨k-1,by omega⟩
      obtain⟨g,hg⟩:=AZ (l:=x.ts) (k:=k') (by omega);have hc:=v114 he H.c g t (hx.ts g (gC hg));have hpp:LY (Hw P.c) (pre x.ts k) t=decide (Hw P.c g t<0):=by rw[Qy];exact iU _ hg t
      rw[hpp] at hv inner;have w2:IntKind.i64.wrap ((k:Int)-1)=(k':Int):=by unfold Bi at hlen;rw[wrap64 ⟨by omega,by omega⟩];omega
      by_cases YP:Hw P.c g t<0
      .have UA:¬0<=Hw P.c g t:=by omega
       simp[Bn e _ ht,Bn e _ hg,c1,c2,k0,w2,hc,UA];exact inner c1' c2' (by simpa using YP) _ _ _ _ _ (by simp)
      .have UA:0<=Hw P.c g t:=by omega
       simp only[YP,decide_false,Bool.and_false,Bool.false_and] at hv;simp[Bn e _ ht,Bn e _ hg,c1,c2,k0,w2,hc,UA,hv]
  .rw[drop_eq_nil_of_le (show x.ts.length<=k by omega),vTs_nil] at hv;simp[e62_r1,wD,hv]
end
end Go.Proofs.YtjniafcnjbbomaaGreatDoor.DE.V
namespace Go.Proofs.YtjniafcnjbbomaaGreatDoor.DE
open Go
def s244:Cn:=fun cf a0 a1 S Post=>OX (A4 .lss .num a0 a1) fun x1=>WB x1
 (Post (.n (-1)) S)
 (OX (A4 .gtr .num a0 a1) fun x2=>WB x2
 (Post (.n 1) S)
 (Post (.n 0) S))
def i244:I2 244 s244:=Oc d244
def s165:Cn:=fun cf a0 a1 S Post=>Cg 2 true a0 S fun x1 S2=>Cg 2 true a1 S2 fun x3 S4=>OX (AO 0 x1) fun x5=>OX (AE S4 1 false x5) fun x6=>OX (AO 0 x3) fun x7=>OX (AE S4 1 false x7) fun x8=>OX (A0 cf 244 [x6,x8]) fun x9=>OX (A4 .neq .num x9 (.n 0)) fun x10=>WB x10
 (Post x9 S4)
 (OX (AO 1 x1) fun x11=>OX (AE S4 1 false x11) fun x12=>OX (AO 1 x3) fun x13=>OX (AE S4 1 false x13) fun x14=>OX (A0 cf 244 [x12,x14]) fun x15=>Post x15 S4)
def e165:E2 d165 s165:=PL
def i165:I2 165 s165:=Oc d165 (e:=e165)
abbrev UI(a0 a2 a3 a4 a5 a6 a7 a8 a13 a23 a46 a61:D):List D:=B0 74 [(0,a0),(2,a2),(3,a3),(4,a4),(5,a5),(6,a6),(7,a7),(8,a8),(13,a13),(23,a23),(46,a46),(61,a61)]
def s61_0:N4:=fun cf a0 a2 a3 a4 a5 a6 a7 a8 a13 a23 a46 a61 S Q=>OX (AO 5 a6) fun x1=>OX (AE S 1 false x1) fun x2=>OX (AK false x2) fun x3=>OX (A4 .lss .num a8 x3) fun x4=>WB x4
 (OX (AO 5 a6) fun x5=>OX (AE S 1 false x5) fun x6=>OX (Ak 4 x6 a8) fun x7=>OX (AO 3 x7) fun x8=>OX (AE S 1 false x8) fun x9=>OX (A0 cf 61 [x9]) fun x10=>OX (A0 cf 112 [a3,x10]) fun x11=>OX (A4 .add .num a8 (.n 1)) fun x12=>Q .normal (UI a0 a2 x11 a4 a5 a6 a7 x12 a13 a23 a46 .top) S)
 (Q (.exit 6) (UI a0 a2 a3 a4 a5 a6 a7 a8 a13 a23 a46 x4) S)
def e61_0:L12 vI UI s61_0:=mq
def rP:N4:=fun cf a0 a2 a3 a4 a5 a6 a7 a8 a13 a23 a46 a61 S Q=>W cf (.loop [] vI) (UI a0 a2 a3 a4 a5 a6 .top (.n 0) a13 a23 .top a61) S (Af 6 Q)
def e61_r0:N12 W5 UI rP:=mf
def wI:N4:=fun cf a0 a2 a3 a4 a5 a6 a7 a8 a13 a23 a46 a61 S Q=>OX (A4 .add .num a5 (.n 1)) fun x13=>Q .normal (UI a0 a2 a3 a4 x13 .top a7 .top a13 a23 a46 .top) S
def e61_r1:N12 Y1 UI wI:=mf
def s61_1:N4:=fun cf a0 a2 a3 a4 a5 a6 a7 a8 a13 a23 a46 a61 S Q=>OX (AO 3 a6) fun x14=>OX (AE S 1 false x14) fun x15=>OX (AK false x15) fun x16=>OX (A4 .lss .num a7 x16) fun x17=>WB x17
 (OX (AO 3 a6) fun x18=>OX (AE S 1 false x18) fun x19=>OX (Ak 1 x19 a7) fun x20=>OX (AE S 1 false x20) fun x21=>OX (A0 cf 61 [x21]) fun x22=>OX (A0 cf 112 [a3,x22]) fun x23=>OX (A4 .add .num a7 (.n 1)) fun x24=>Q .normal (UI a0 a2 x23 a4 a5 a6 x24 a8 a13 a23 .top a61) S)
 (Q (.exit 4) (UI a0 a2 a3 a4 a5 a6 a7 a8 a13 a23 x17 a61) S)
def e61_1:L12 kc UI s61_1:=mq
def rj:N4:=fun cf a0 a2 a3 a4 a5 a6 a7 a8 a13 a23 a46 a61 S Q=>OX (A4 .add .num a4 (.n 1)) fun x25=>Q .normal (UI a0 a2 a3 x25 .top a6 a7 a8 a13 .top a46 a61) S
def e61_r2:N12 WN UI rj:=mf
def s61_2:N4:=fun cf a0 a2 a3 a4 a5 a6 a7 a8 a13 a23 a46 a61 S Q=>OX (Ak 2 a0 a4) fun x26=>OX (AO 1 x26) fun x27=>OX (AE S 1 false x27) fun x28=>OX (AK false x28) fun x29=>OX (A4 .lss .num a5 x29) fun x30=>WB x30
 (OX (Ak 2 a0 a4) fun x31=>OX (AO 1 x31) fun x32=>OX (AE S 1 false x32) fun x33=>OX (Ak 11 x33 a5) fun x34=>OX (AO 0 x34) fun x35=>OX (AE S 10 true x35) fun x36=>al [.n 0,.n 0,.n 0,.z 1,.n 0,.z 4,.n 0,.n 0,.n 0,.s []] S fun x37 S38=>OX (Ax S38 10 true x37 x36) fun S40=>OX (AO 0 x37) fun x41=>OX (AE S40 1 false x41) fun x42=>OX (A4 .eql .num x42 (.n 0)) fun x43=>jn (fun(y45 y46 y47 y48 y49 y50 y51 y52 y53 y54 y55 y56:D) (S57:A1)=>W cf (.loop [] kc) (UI y45 y46 y47 y48 y49 y50 (.n 0) y52 y53 .top y55 y56) S57 (Af 4 (QS cf W5 (Af 3 (QS cf Y1 Q))))) fun k44=>WB x43
 (OX (AO 1 x37) fun x58=>OX (AE S40 2 true x58) fun x59=>OX (A0 cf 111 [a3,x59]) fun x60=>k44 a0 a2 x60 a4 a5 x37 a7 a8 a13 D.top a46 a61 S40)
 (k44 a0 a2 a3 a4 a5 x37 a7 a8 a13 x43 a46 a61 S40))
 (Q (.exit 2) (UI a0 a2 a3 a4 a5 a6 a7 a8 a13 x30 a46 a61) S)
def e61_2:L12 pk UI s61_2:=mq
def qu:N4:=fun cf a0 a2 a3 a4 a5 a6 a7 a8 a13 a23 a46 a61 S Q=>Q .ret (UI .top a3 .top .top a5 a6 a7 a8 .top a23 a46 a61) S
def e61_r3:N12 Wv UI qu:=mf
def s61_3:N4:=fun cf a0 a2 a3 a4 a5 a6 a7 a8 a13 a23 a46 a61 S Q=>OX (AK false a0) fun x61=>OX (A4 .lss .num a4 x61) fun x62=>WB x62
 (W cf (.loop [] pk) (UI a0 a2 a3 a4 (.n 0) a6 a7 a8 .top a23 a46 a61) S (Af 2 (Af 1 (QS cf WN Q))))
 (Q (.exit 0) (UI a0 a2 a3 a4 a5 a6 a7 a8 x62 a23 a46 a61) S)
def e61_3:L12 rn UI s61_3:=mq
def s61:EV:=fun cf a0 S Post=>OX (AV 2 true []) fun x63=>W cf (.loop [] rn) (UI a0 .top ((HE 2 x63 S).1) (.n 0) .top .top .top .top .top .top .top .top) (HE 2 x63 S).2 (Af 0 (QS cf Wv (Aw [.t 2] Post)))
def j61:J1 61 s61:=xx d61
abbrev bX(a0 a3 a4 a5 a18:D):List D:=B0 46 [(0,a0),(3,a3),(4,a4),(5,a5),(18,a18)]
def RM:V7:=fun cf a0 a3 a4 a5 a18 S Q=>OX (AK false a0) fun x1=>OX (A4 .lss .num a5 x1) fun x2=>OX (A8 x2 true (some a0)) fun x3=>OX (A8 x2 true (some a5)) fun x4=>OX (A8 x2 true (Ak 2 x3 x4)) fun x5=>OX (A8 x2 true (AE S 2 true x5)) fun x6=>OX (A8 x2 true (AE S 2 true a3)) fun x7=>OX (A8 x2 true (A4 .eql (.agg [.i,.i]) x6 x7)) fun x8=>OX (AU x2 x8 (.b false)) fun x9=>WB x9
 (Q .ret (bX .top .top a0 .top .top) S)
 (OX (AV 2 true []) fun x10=>OX (GG 2 a0 none (some a5)) fun x11=>OX (AE (HE 2 x10 S).2 2 true a3) fun x12=>OX (AV 2 true [x12]) fun x13=>OX (GG 2 a0 (some a5) none) fun x14=>OX (Be 2 false (HE 2 x10 S).1 x11 (HE 2 x10 S).2) fun p16=>OX (AE p16.2 2 true a3) fun x17=>GF x17 x12=true /\
 (OX (Be 2 false p16.1 (.sl 2 false x13 .ro) p16.2) fun p19=>OX (Be 2 false p19.1 x14 p19.2) fun p21=>Q .ret (bX .top .top p21.1 .top .top) p21.2))
def zW:N5 RG bX RM:=kN5
def XY:V7:=fun cf a0 a3 a4 a5 a18 S Q=>OX (AK false a0) fun x22=>OX (A4 .lss .num a5 x22) fun x23=>OX (A8 x23 true (some a0)) fun x24=>OX (A8 x23 true (some a5)) fun x25=>OX (A8 x23 true (Ak 2 x24 x25)) fun x26=>OX (A8 x23 true (AE S 2 true x26)) fun x27=>OX (A8 x23 true (AE S 2 true a3)) fun x28=>OX (A8 x23 true (A0 cf 165 [x27,x28])) fun x29=>OX (A8 x23 true (A4 .lss .num x29 (.n 0))) fun x30=>OX (AU x23 x30 (.b false)) fun x31=>WB x31
 (OX (A4 .add .num a5 (.n 1)) fun x32=>Q .normal (bX a0 a3 a4 x32 .top) S)
 (Q (.exit 0) (bX a0 a3 a4 a5 x31) S)
def e111_0:L5 eM bX XY:=kL5
def s111:Cn:=fun cf a0 a1 S Post=>Cg 2 true a1 S fun x33 S34=>W cf (.loop [] eM) (bX a0 x33 .top (.n 0) .top) S34 (Af 0 (QS cf RG (Aw [.t 4] Post)))
def e111:E2 d111 s111:=PL
def j111:J2 111 s111:=UE d111 (e:=e111)
abbrev nC(a0 a1 a4 a5 a9:D):List D:=B0 19 [(0,a0),(1,a1),(4,a4),(5,a5),(9,a9)]
def gP:V7:=fun cf a0 a1 a4 a5 a9 S Q=>Q .ret (nC .top .top a0 .top .top) S
def e112_r0:N5 Wh nC gP:=kN5
def rI:V7:=fun cf a0 a1 a4 a5 a9 S Q=>OX (AK false a1) fun x1=>OX (A4 .lss .num a5 x1) fun x2=>WB x2
 (OX (Ak 2 a1 a5) fun x3=>OX (AE S 2 true x3) fun x4=>OX (A0 cf 111 [a0,x4]) fun x5=>OX (A4 .add .num a5 (.n 1)) fun x6=>Q .normal (nC x5 a1 a4 x6 .top) S)
 (Q (.exit 0) (nC a0 a1 a4 a5 x2) S)
def e112_0:L5 fO nC rI:=kL5
def s112:Cn:=fun cf a0 a1 S Post=>W cf (.loop [] fO) (nC a0 a1 .top (.n 0) .top) S (Af 0 (QS cf Wh (Aw [.t 4] Post)))
def j112:J2 112 s112:=UE d112
def s68:EV:=fun cf a0 S Post=>al [.z 2] S fun x1 S2=>OX (cf 126 [a0,(.fn 127 [x1])] S2) fun p4=>OX (AE p4.2 1 false x1) fun x5=>OX (A0 cf 128 [x5]) fun x6=>Post x6 p4.2
def e68:E1 d68 s68:=Uf
def j68:J1 68 s68:=xx d68 (e:=e68)
abbrev LX(a1 a7 a12 a13 a14 a15 a19 a20 a21 a22 a31 a32 a33 a34 a43 a44 a45 a46:D):List D:=B0 56 [(1,a1),(7,a7),(12,a12),(13,a13),(14,a14),(15,a15),(19,a19),(20,a20),(21,a21),(22,a22),(31,a31),(32,a32),(33,a33),(34,a34),(43,a43),(44,a44),(45,a45),(46,a46)]
def uZ:Ti:=fun cf a1 a7 a12 a13 a14 a15 a19 a20 a21 a22 a31 a32 a33 a34 a43 a44 a45 a46 S Q=>OX (A4 .lss .num a45 a44) fun x1=>WB x1
 (OX (Ak 4 a43 a45) fun x2=>OX (AE S 4 true x2) fun x3=>al [.n 0,.n 0,.s [],.z 2] S fun x4 S5=>OX (Ax S5 4 true x4 x3) fun S7=>OX (AO 3 x4) fun x8=>OX (AE S7 1 false x8) fun x9=>OX (cf 126 [x9,a1] S7) fun p11=>OX (A4 .add .num a45 (.n 1)) fun x12=>Q .normal (LX a1 a7 a12 a13 a14 a15 a19 a20 a21 a22 a31 a32 a33 a34 a43 a44 x12 .top) p11.2)
 (Q (.exit 6) (LX a1 a7 a12 a13 a14 a15 a19 a20 a21 a22 a31 a32 a33 a34 a43 a44 a45 x1) S)
def e126_0:L18 bP LX uZ:=yo
def iA:Ti:=fun cf a1 a7 a12 a13 a14 a15 a19 a20 a21 a22 a31 a32 a33 a34 a43 a44 a45 a46 S Q=>OX (AO 0 a7) fun x13=>OX (AO 5 x13) fun x14=>OX (AE S 1 false x14) fun x15=>OX (AK false x15) fun x16=>W cf (.loop [] bP) (LX a1 .top a12 a13 a14 a15 a19 a20 a21 a22 .top .top .top .top x15 x16 (.n 0) a46) S (Af 6 Q)
def e126_r0:N18 XT LX iA:=kN18
def kj:Ti:=fun cf a1 a7 a12 a13 a14 a15 a19 a20 a21 a22 a31 a32 a33 a34 a43 a44 a45 a46 S Q=>OX (A4 .add .num a21 (.n 1)) fun x17=>Q .normal (LX a1 a7 a12 a13 a14 a15 a19 a20 x17 a22 a31 a32 a33 a34 .top .top .top .top) S
def e126_r1:N18 Vw LX kj:=kN18
def uE:Ti:=fun cf a1 a7 a12 a13 a14 a15 a19 a20 a21 a22 a31 a32 a33 a34 a43 a44 a45 a46 S Q=>OX (A4 .lss .num a33 a32) fun x18=>WB x18
 (OX (Ak 1 a31 a33) fun x19=>OX (AE S 1 false x19) fun x20=>OX (cf 126 [x20,a1] S) fun p22=>OX (A4 .add .num a33 (.n 1)) fun x23=>Q .normal (LX a1 a7 a12 a13 a14 a15 a19 a20 a21 a22 a31 a32 x23 .top a43 a44 a45 a46) p22.2)
 (Q (.exit 4) (LX a1 a7 a12 a13 a14 a15 a19 a20 a21 a22 a31 a32 a33 x18 a43 a44 a45 a46) S)
def e126_1:L18 dP LX uE:=yo
def kD:Ti:=fun cf a1 a7 a12 a13 a14 a15 a19 a20 a21 a22 a31 a32 a33 a34 a43 a44 a45 a46 S Q=>OX (A4 .add .num a14 (.n 1)) fun x24=>Q .normal (LX a1 a7 a12 a13 x24 a15 .top .top .top .top a31 a32 a33 a34 a43 a44 a45 a46) S
def zJ:N18 Wu LX kD:=kN18
def qf:Ti:=fun cf a1 a7 a12 a13 a14 a15 a19 a20 a21 a22 a31 a32 a33 a34 a43 a44 a45 a46 S Q=>OX (A4 .lss .num a21 a20) fun x25=>WB x25
 (OX (Ak 11 a19 a21) fun x26=>OX (AE S 11 true x26) fun x27=>al [.n 0,.n 0,.n 0,.z 1,.n 0,.z 4,.n 0,.n 0,.n 0,.s [],.n 0] S fun x28 S29=>OX (Ax S29 11 true x28 x27) fun S31=>OX (AO 0 x28) fun x32=>OX (AE S31 10 true x32) fun x33=>OX (NT a1) fun q35=>OX (cf q35.1 ([x33]++q35.2) S31) fun p36=>OX (AO 0 x28) fun x37=>OX (AO 3 x37) fun x38=>OX (AE p36.2 1 false x38) fun x39=>OX (AK false x39) fun x40=>W cf (.loop [] dP) (LX a1 x28 a12 a13 a14 a15 a19 a20 a21 .top x39 x40 (.n 0) a34 a43 a44 a45 a46) p36.2 (Af 4 (QS cf XT (Af 3 (QS cf Vw Q)))))
 (Q (.exit 2) (LX a1 a7 a12 a13 a14 a15 a19 a20 a21 x25 a31 a32 a33 a34 a43 a44 a45 a46) S)
def e126_2:L18 df LX qf:=yo
def wO:Ti:=fun cf a1 a7 a12 a13 a14 a15 a19 a20 a21 a22 a31 a32 a33 a34 a43 a44 a45 a46 S Q=>OX (A4 .lss .num a14 a13) fun x41=>WB x41
 (OX (Ak 2 a12 a14) fun x42=>OX (AE S 2 true x42) fun x43=>al [.n 0,.z 11] S fun x44 S45=>OX (Ax S45 2 true x44 x43) fun S47=>OX (AO 1 x44) fun x48=>OX (AE S47 1 false x48) fun x49=>OX (AK false x49) fun x50=>W cf (.loop [] df) (LX a1 a7 a12 a13 a14 .top x49 x50 (.n 0) a22 a31 a32 a33 a34 a43 a44 a45 a46) S47 (Af 2 (Af 1 (QS cf Wu Q))))
 (Q (.exit 0) (LX a1 a7 a12 a13 a14 x41 a19 a20 a21 a22 a31 a32 a33 a34 a43 a44 a45 a46) S)
def e126_3:L18 bI LX wO:=yo
def s126:Cn:=fun cf a0 a1 S Post=>OX (AK false a0) fun x51=>W cf (.loop [] bI) (LX a1 .top a0 x51 (.n 0) .top .top .top .top .top .top .top .top .top .top .top .top .top) S (Af 0 (Aw [] Post))
def f126:F2 126 s126:=eR d126
def s127:Cn:=fun cf a0 a1 S Post=>Cg 10 true a0 S fun x1 S2=>OX (AO 0 x1) fun x3=>OX (AE S2 1 false x3) fun x4=>OX (A4 .eql .num x4 (.n 0)) fun x5=>jn (fun(y7 y8 y9:D) (S10:A1)=>Post (.AY []) S10) fun k6=>WB x5
 (OX (AE S2 1 false a1) fun x11=>OX (AO 1 x1) fun x12=>OX (AE S2 2 true x12) fun x13=>OX (AV 2 true [x13]) fun x14=>OX (Be 2 false x11 (.sl 2 false x14 .ro) S2) fun p16=>OX (Ax p16.2 1 false a1 p16.1) fun S18=>k6 D.top D.top D.top S18)
 (k6 a1 x1 x5 S2)
def f127:F2 127 s127:=eR d127
abbrev Qj(a2 a7 a8 a9 a10 a14 a15 a16 a17:D):List D:=B0 32 [(2,a2),(7,a7),(8,a8),(9,a9),(10,a10),(14,a14),(15,a15),(16,a16),(17,a17)]
def gX:oh:=fun cf a2 a7 a8 a9 a10 a14 a15 a16 a17 S Q=>OX (A4 .add .num a9 (.n 1)) fun x1=>Q .normal (Qj a2 a7 a8 x1 a10 .top .top .top .top) S
def yv:N9 Ws Qj gX:=kN9
def ri:oh:=fun cf a2 a7 a8 a9 a10 a14 a15 a16 a17 S Q=>OX (A4 .lss .num a16 a15) fun x2=>WB x2
 (OX (Ak 11 a14 a16) fun x3=>OX (AE S 11 true x3) fun x4=>al [.n 0,.n 0,.n 0,.z 1,.n 0,.z 4,.n 0,.n 0,.n 0,.s [],.n 0] S fun x5 S6=>OX (Ax S6 11 true x5 x4) fun S8=>OX (AO 0 x5) fun x9=>OX (AO 0 x9) fun x10=>OX (AE S8 1 false x10) fun x11=>OX (A4 .eql .num x11 (.n 4)) fun x12=>OX (A8 x12 false (AO 0 x5)) fun x13=>OX (A8 x12 false (AO 3 x13)) fun x14=>OX (A8 x12 false (AE S8 1 false x14)) fun x15=>OX (A8 x12 false (A0 cf 151 [x15,(.fn 122 [])])) fun x16=>OX (AU x12 (.b true) x16) fun x17=>WB x17
 (Q .ret (Qj (.b true) .top .top .top a10 .top .top .top .top) S8)
 (OX (A4 .add .num a16 (.n 1)) fun x18=>Q .normal (Qj a2 a7 a8 a9 a10 a14 a15 x18 .top) S8))
 (Q (.exit 2) (Qj a2 a7 a8 a9 a10 a14 a15 a16 x2) S)
def e122_0:L9 cR Qj ri:=kL9
def iR:oh:=fun cf a2 a7 a8 a9 a10 a14 a15 a16 a17 S Q=>Q .ret (Qj (.b false) .top .top .top .top a14 a15 a16 a17) S
def yY:N9 X9 Qj iR:=kN9
def sg:oh:=fun cf a2 a7 a8 a9 a10 a14 a15 a16 a17 S Q=>OX (A4 .lss .num a9 a8) fun x19=>WB x19
 (OX (Ak 2 a7 a9) fun x20=>OX (AE S 2 true x20) fun x21=>al [.n 0,.z 11] S fun x22 S23=>OX (Ax S23 2 true x22 x21) fun S25=>OX (AO 1 x22) fun x26=>OX (AE S25 1 false x26) fun x27=>OX (AK false x27) fun x28=>W cf (.loop [] cR) (Qj a2 a7 a8 a9 .top x27 x28 (.n 0) a17) S25 (Af 2 (Af 1 (QS cf Ws Q))))
 (Q (.exit 0) (Qj a2 a7 a8 a9 x19 a14 a15 a16 a17) S)
def e122_1:L9 dU Qj sg:=kL9
def s122:EV:=fun cf a0 S Post=>OX (AK false a0) fun x29=>W cf (.loop [] dU) (Qj .top a0 x29 (.n 0) .top .top .top .top .top) S (Af 0 (QS cf X9 (Aw [.t 2] Post)))
def fH:E1 d122 s122:=Uf
def i122:I1 122 s122:=JF d122 (e:=fH)
def s123:Cn:=fun cf a0 a1 S Post=>OX (cf 194 [a0,a1] S) fun p2=>OX (A4 .geq .num p2.1 (.n 0)) fun x3=>Post x3 p2.2
def f123:F2 123 s123:=eR d123
abbrev dE(a0 a1 a4 a7 a8 a9:D):List D:=B0 19 [(0,a0),(1,a1),(4,a4),(7,a7),(8,a8),(9,a9)]
def gw:Mi:=fun cf a0 a1 a4 a7 a8 a9 S Q=>Q .ret (dE .top .top (.n (-1)) .top .top .top) S
def AA6:N6 W4 dE gw:=bK
def qk:Mi:=fun cf a0 a1 a4 a7 a8 a9 S Q=>OX (A4 .lss .num a8 a7) fun x1=>WB x1
 (OX (Ak 2 a0 a8) fun x2=>OX (AE S 2 true x2) fun x3=>OX (NT a1) fun q5=>OX (cf q5.1 ([x3]++q5.2) S) fun p6=>WB p6.1
 (Q .ret (dE .top .top a8 .top .top .top) p6.2)
 (OX (A4 .add .num a8 (.n 1)) fun x7=>Q .normal (dE a0 a1 a4 a7 x7 .top) p6.2))
 (Q (.exit 0) (dE a0 a1 a4 a7 a8 x1) S)
def e194_0:L6 bw dE qk:=bu
def s194:Cn:=fun cf a0 a1 S Post=>OX (AK false a0) fun x8=>W cf (.loop [] bw) (dE a0 a1 .top x8 (.n 0) .top) S (Af 0 (QS cf W4 (Aw [.t 4] Post)))
def f194:F2 194 s194:=eR d194
def s124:Cn:=fun cf a0 a1 S Post=>Cg 2 true a0 S fun x1 S2=>OX (AE S2 1 false a1) fun x3=>OX (AE S2 2 true x1) fun x4=>OX (A0 cf 48 [x3,x4]) fun x5=>OX (ES .not x5) fun x6=>Post x6 S2
def f124:F2 124 s124:=eR d124
abbrev aJ(a2 a4 a5 a6 a14 a15 a16 a17:D):List D:=B0 46 [(2,a2),(4,a4),(5,a5),(6,a6),(14,a14),(15,a15),(16,a16),(17,a17)]
def jN:PW:=fun cf a2 a4 a5 a6 a14 a15 a16 a17 S Q=>OX (AE S 3 true a6) fun x1=>OX (Ax S 3 true a4 x1) fun S3=>Q .ret (aJ .top a4 (.n 0) .top .top .top .top .top) S3
def zH:N8 W0 aJ jN:=uS
def uW:PW:=fun cf a2 a4 a5 a6 a14 a15 a16 a17 S Q=>OX (A4 .lss .num a16 a15) fun x4=>WB x4
 (OX (Ak 2 a14 a16) fun x5=>OX (AE S 2 true x5) fun x6=>al [.n 0,.z 11] S fun x7 S8=>OX (Ax S8 2 true x7 x6) fun S10=>OX (AE S10 2 true a2) fun x11=>OX (AE S10 2 true x7) fun x12=>OX (A0 cf 196 [x11,x12]) fun x13=>OX (Ag x13 0) fun x14=>OX (Ag x13 1) fun x15=>al [.z 2,.z 3,.n 0] S10 fun x16 S17=>OX (Ax S17 3 true x16 x14) fun S19=>OX (A4 .neq .num x15 (.n 0)) fun x20=>WB x20
 (OX (B8 [.z 2,.z 3,.n 0] []) fun x21=>OX (Ax S19 3 true a4 (.agg x21)) fun S23=>Q .ret (aJ .top a4 x15 .top .top .top .top .top) S23)
 (OX (AE S19 2 true a2) fun x24=>OX (AE S19 3 true a6) fun x25=>OX (AE S19 3 true x16) fun x26=>OX (A0 cf 198 [x25,x26]) fun x27=>OX (Ag x27 0) fun x28=>OX (Ag x27 1) fun x29=>OX (A0 cf 197 [x24,x28,x29]) fun x30=>OX (Ag x30 0) fun x31=>OX (Ag x30 1) fun x32=>OX (Ax S19 3 true a6 x31) fun S34=>OX (A4 .neq .num x32 (.n 0)) fun x35=>WB x35
 (OX (B8 [.z 2,.z 3,.n 0] []) fun x36=>OX (Ax S34 3 true a4 (.agg x36)) fun S38=>Q .ret (aJ .top a4 x32 .top .top .top .top .top) S38)
 (OX (A4 .add .num a16 (.n 1)) fun x39=>Q .normal (aJ a2 a4 a5 a6 a14 a15 x39 .top) S34)))
 (Q (.exit 0) (aJ a2 a4 a5 a6 a14 a15 a16 x4) S)
def e125_0:L8 bA aJ uW:=uA
def s125:Cn:=fun cf a0 a1 S Post=>Cg 2 true a0 S fun x40 S41=>al [.z 2,.z 3,.n 0] S41 fun x42 S43=>OX (AO 0 x40) fun x44=>OX (AE S43 1 false x44) fun x45=>OX (A0 cf 195 [x45,(.b false)]) fun x46=>al [.z 2,.z 3,.n 0] S43 fun x47 S48=>OX (Ax S48 3 true x47 x46) fun S50=>OX (AK false a1) fun x51=>W cf (.loop [] bA) (aJ x40 x42 .top x47 a1 x51 (.n 0) .top) S50 (Af 0 (QS cf W0 (Aw [.cell 4 3 true,.t 5] Post)))
def j125:J2 125 s125:=UE d125
abbrev ZJ(a2 a4 a5 a6 a15 a16 a17 a18:D):List D:=B0 48 [(2,a2),(4,a4),(5,a5),(6,a6),(15,a15),(16,a16),(17,a17),(18,a18)]
def iO:PW:=fun cf a2 a4 a5 a6 a15 a16 a17 a18 S Q=>OX (AE S 3 true a6) fun x1=>OX (Ax S 3 true a4 x1) fun S3=>Q .ret (ZJ .top a4 (.n 0) .top .top .top .top .top) S3
def zd:N8 Y9 ZJ iO:=uS
def qq:PW:=fun cf a2 a4 a5 a6 a15 a16 a17 a18 S Q=>OX (A4 .lss .num a17 a16) fun x4=>WB x4
 (OX (Ak 11 a15 a17) fun x5=>OX (AE S 11 true x5) fun x6=>al [.n 0,.n 0,.n 0,.z 1,.n 0,.z 4,.n 0,.n 0,.n 0,.s [],.n 0] S fun x7 S8=>OX (Ax S8 11 true x7 x6) fun S10=>OX (AE S10 2 true a2) fun x11=>OX (AO 0 x7) fun x12=>OX (AE S10 10 true x12) fun x13=>OX (A0 cf 270 [x11,x13]) fun x14=>OX (Ag x14 0) fun x15=>OX (Ag x14 1) fun x16=>al [.z 2,.z 3,.n 0] S10 fun x17 S18=>OX (Ax S18 3 true x17 x15) fun S20=>OX (A4 .neq .num x16 (.n 0)) fun x21=>WB x21
 (OX (B8 [.z 2,.z 3,.n 0] []) fun x22=>OX (Ax S20 3 true a4 (.agg x22)) fun S24=>Q .ret (ZJ .top a4 x16 .top .top .top .top .top) S24)
 (OX (AE S20 2 true a2) fun x25=>OX (AE S20 3 true a6) fun x26=>OX (AE S20 3 true x17) fun x27=>OX (A0 cf 271 [x26,x27]) fun x28=>OX (Ag x28 0) fun x29=>OX (Ag x28 1) fun x30=>OX (A0 cf 197 [x25,x29,x30]) fun x31=>OX (Ag x31 0) fun x32=>OX (Ag x31 1) fun x33=>OX (Ax S20 3 true a6 x32) fun S35=>OX (A4 .neq .num x33 (.n 0)) fun x36=>WB x36
 (OX (B8 [.z 2,.z 3,.n 0] []) fun x37=>OX (Ax S35 3 true a4 (.agg x37)) fun S39=>Q .ret (ZJ .top a4 x33 .top .top .top .top .top) S39)
 (OX (A4 .add .num a17 (.n 1)) fun x40=>Q .normal (ZJ a2 a4 a5 a6 a15 a16 x40 .top) S35)))
 (Q (.exit 0) (ZJ a2 a4 a5 a6 a15 a16 a17 x4) S)
def e196_0:L8 eE ZJ qq:=uA
def s196:Cn:=fun cf a0 a1 S Post=>Cg 2 true a0 S fun x41 S42=>Cg 2 true a1 S42 fun x43 S44=>al [.z 2,.z 3,.n 0] S44 fun x45 S46=>OX (AO 0 x41) fun x47=>OX (AE S46 1 false x47) fun x48=>OX (A0 cf 195 [x48,(.b true)]) fun x49=>al [.z 2,.z 3,.n 0] S46 fun x50 S51=>OX (Ax S51 3 true x50 x49) fun S53=>OX (AO 1 x43) fun x54=>OX (AE S53 1 false x54) fun x55=>OX (AK false x55) fun x56=>W cf (.loop [] eE) (ZJ x41 x45 .top x50 x55 x56 (.n 0) .top) S53 (Af 0 (QS cf Y9 (Aw [.cell 4 3 true,.t 5] Post)))
def j196:J2 196 s196:=UE d196
def s197:Pq:=fun cf a0 a1 a2 S Post=>Cg 2 true a0 S fun x1 S2=>Cg 3 true a1 S2 fun x3 S4=>al [.z 2,.z 3,.n 0] S4 fun x5 S6=>OX (A4 .eql .num a2 (.n 0)) fun x7=>OX (A8 x7 true (AO 1 x3)) fun x8=>OX (A8 x7 true (AE S6 1 false x8)) fun x9=>OX (A8 x7 true (AK false x9)) fun x10=>OX (A8 x7 true (AO 1 x1)) fun x11=>OX (A8 x7 true (AE S6 1 false x11)) fun x12=>OX (A8 x7 true (A4 .gtr .num x10 x12)) fun x13=>OX (AU x7 x13 (.b false)) fun x14=>WB x14
 (OX (B8 [.z 2,.z 3,.n 0] []) fun x15=>OX (Ax S6 3 true x5 (.agg x15)) fun S17=>OX (CE S17 3 true x5) fun x18=>Post (.AY [x18,(.n 6)]) S17)
 (OX (AE S6 3 true x3) fun x19=>OX (Ax S6 3 true x5 x19) fun S21=>OX (CE S21 3 true x5) fun x22=>Post (.AY [x22,a2]) S21)
def Jp:E3 d197 s197:=yG
def i197:I3 197 s197:=mI3 d197 (e:=Jp)
def Yu:Cn:=fun cf a0 a1 S Post=>Cg 2 true a0 S fun x1 S2=>Cg 10 true a1 S2 fun x3 S4=>al [.z 2,.z 3,.n 0] S4 fun x5 S6=>OX (AO 0 x3) fun x7=>OX (AE S6 1 false x7) fun x8=>OX (A4 .eql .num x8 (.n 0)) fun x9=>WB x9
 (OX (AO 0 x1) fun x10=>OX (AE S6 1 false x10) fun x11=>OX (AO 1 x3) fun x12=>OX (AE S6 2 true x12) fun x13=>OX (A0 cf 322 [x11,x13]) fun x14=>OX (Ag x14 0) fun x15=>OX (Ag x14 1) fun x16=>OX (Ax S6 3 true x5 x15) fun S18=>OX (CE S18 3 true x5) fun x19=>Post (.AY [x19,x16]) S18)
 (OX (AE S6 2 true x1) fun x20=>OX (AO 3 x3) fun x21=>OX (AE S6 1 false x21) fun x22=>OX (Ak 1 x22 (.n 0)) fun x23=>OX (AE S6 1 false x23) fun x24=>OX (A0 cf 125 [x20,x24]) fun x25=>OX (Ag x25 0) fun x26=>OX (Ag x25 1) fun x27=>al [.z 2,.z 3,.n 0] S6 fun x28 S29=>OX (AE S29 2 true x1) fun x30=>GF x30 x20=true /\
 (OX (AE S29 1 false x21) fun x31=>GF x31 x22=true /\
 (OX (AE S29 1 false x23) fun x32=>GF x32 x24=true /\
 (OX (Ax S29 3 true x28 x26) fun S34=>OX (A4 .neq .num x27 (.n 0)) fun x35=>OX (A8 x35 false (AO 0 x3)) fun x36=>OX (A8 x35 false (AE S34 1 false x36)) fun x37=>OX (A8 x35 false (A4 .eql .num x37 (.n 2))) fun x38=>OX (AU x35 (.b true) x38) fun x39=>WB x39
 (OX (AE S34 3 true x28) fun x40=>OX (Ax S34 3 true x5 x40) fun S42=>OX (CE S42 3 true x5) fun x43=>Post (.AY [x43,x27]) S42)
 (OX (AO 0 x3) fun x44=>OX (AE S34 1 false x44) fun x45=>OX (A4 .eql .num x45 (.n 3)) fun x46=>WB x46
 (OX (AE S34 3 true x28) fun x47=>OX (A0 cf 323 [x47]) fun x48=>OX (Ax S34 3 true x5 x48) fun S50=>OX (CE S50 3 true x5) fun x51=>Post (.AY [x51,(.n 0)]) S50)
 (OX (AE S34 2 true x1) fun x52=>OX (AO 3 x3) fun x53=>OX (AE S34 1 false x53) fun x54=>OX (Ak 1 x54 (.n 1)) fun x55=>OX (AE S34 1 false x55) fun x56=>OX (A0 cf 125 [x52,x56]) fun x57=>OX (Ag x57 0) fun x58=>OX (Ag x57 1) fun x59=>al [.z 2,.z 3,.n 0] S34 fun x60 S61=>OX (AE S61 2 true x1) fun x62=>GF x62 x52=true /\
 (OX (AE S61 1 false x53) fun x63=>GF x63 x54=true /\
 (OX (AE S61 1 false x55) fun x64=>GF x64 x56=true /\
 (OX (Ax S61 3 true x60 x58) fun S66=>OX (A4 .neq .num x59 (.n 0)) fun x67=>WB x67
 (OX (B8 [.z 2,.z 3,.n 0] []) fun x68=>OX (Ax S66 3 true x5 (.agg x68)) fun S70=>OX (CE S70 3 true x5) fun x71=>Post (.AY [x71,x59]) S70)
 (OX (AE S66 2 true x1) fun x72=>OX (AE S66 3 true x28) fun x73=>OX (AE S66 3 true x60) fun x74=>OX (A0 cf 323 [x74]) fun x75=>OX (A0 cf 271 [x73,x75]) fun x76=>OX (Ag x76 0) fun x77=>OX (Ag x76 1) fun x78=>OX (A0 cf 197 [x72,x77,x78]) fun x79=>OX (Ag x79 0) fun x80=>OX (Ag x79 1) fun x81=>OX (Ax S66 3 true x5 x80) fun S83=>OX (CE S83 3 true x5) fun x84=>Post (.AY [x84,x81]) S83))))))))))
def j270:J2 270 Yu:=UE d270
end Go.Proofs.YtjniafcnjbbomaaGreatDoor.DE
namespace Go.Proofs.YtjniafcnjbbomaaGreatDoor.DE.V
open Go BT
def emA:(n:Nat)->Eu n->Bool
 |0,x=>nomatch x
 |_+1,x=>decide (x.ts.length=0)
def isCA:(n:Nat)->Eu n->Bool
 |0,x=>nomatch x
 |_+1,x=>ot x
def isUA:(n:Nat)->Eu n->Bool
 |0,x=>nomatch x
 |_+1,x=>bc x
def hasCA:(n:Nat)->Eu n->Bool
 |0,x=>nomatch x
 |_+1,x=>Qk x
noncomputable def Kp:(n:Nat)->Eu n->Bool
 |0,x=>nomatch x
 |n+1,x=>ov ⟨Kp n,emA n,isCA n,isUA n,hasCA n,Ey n⟩ (As n) x
noncomputable def oz(n:Nat):iF (Eu n):=⟨Kp n,emA n,isCA n,isUA n,hasCA n,Ey n⟩
theorem Yl:∀n,VM (As n) (Bf n) (oz n)
 |0=>⟨Az 0,(fun a=>nomatch a),(fun a=>nomatch a),(fun a=>nomatch a),(fun a=>nomatch a),(fun a=>nomatch a),(fun a=>nomatch a),(fun a=>nomatch a)⟩
 |n+1=>{
   he:=Az (n+1)
   len:=fun a=>⟨a.ts.length,M4 (As n) a,rfl⟩
   V:=fun a h=>v62s (Yl n) (tT (n+1)) (qX (n+1)) a h
   ot:=fun a=>v180 (Az n) a
   bc:=fun a=>v181 (Az n) a
   Qk:=fun a h=>v77 (Az n) a (Hd.len h)
   c:=uG (n+1)
   eq:=fun a b h=>v179 (n+1) a b h }
noncomputable def KJ(p:SA):Bool:=Kp p.1 p.2
theorem v62S(p:SA)(h:Qc p):A0 (call dp) 62 [eS p]=some (.b (KJ p)):=(Yl p.1).V p.2 h
section
variable {Z:Type}
def nu(T:Z->Bool)(f:Fc Z):Bool:=decide (f.kind=4)||f.args.any T
def AAg(T:Z->Bool)(t:Tm Z):Bool:=t.fs.any (nu T)
def AAW(T:Z->Bool)(x:An Z):Bool:=x.ts.any (AAg T)
end
def iG:(n:Nat)->Eu n->Bool
 |0,x=>nomatch x
 |n+1,x=>AAW (iG n) x
def Tsts{Z:Type}(e:Z->D)(ok:Z->Prop)(T:Z->Bool):Prop:=∀a,ok a->A0 (call dp) 122 [e a]=some (.b (T a))
set_option maxHeartbeats 1000000 in
theorem v122s{Z:Type}{e:Z->D}{ok:Z->Prop}{T:Z->Bool}(he:GE e)(H:Tsts e ok T):Tsts (CL e) (Hd ok) (AAW T):=by
 intro x hx;have U5:=hx.len;apply i122 _ _ (by simp[A9,Bj he]) rfl;simp[s122]
 let J:Nat->List D->A1->Prop:=fun q fr S=>∃k b2 b10 b14 b15 b16 b17,fr=B0 32 [(2,b2),(7,CL e x),(8,.i .i64 x.ts.length),(9,.i .i64 (k:Nat)),(10,b10),(14,b14),(15,b15),(16,b16),(17,b17)]/\k+q=x.ts.length/\AAW T x=(x.ts.drop k).any (AAg T)
 refine AW J ?_ x.ts.length _ _ ⟨0,_,_,_,_,_,_,rfl,by simp,rfl⟩;intro q fr S hJ;obtain⟨k,b2,b10,b14,b15,b16,b17,C7,hk,hv⟩:=hJ;rw[C7];rw[<-Ay,e122_1];simp[sg];split<;>rename_i h
 .obtain⟨t,ht⟩:=AZ (l:=x.ts) (k:=k) (by omega);have Lp:=hx.ts t (gC ht);have htl:=Lp.len;rw[BG ht,any_cons] at hv;simp[Bn e _ ht]
  let J2:Nat->List D->A1->Prop:=fun q fr S=>∃i b2 b10 b17,fr=B0 32 [(2,b2),(7,CL e x),(8,.i .i64 x.ts.length),(9,.i .i64 (k:Nat)),(10,b10),(14,BI e t.nl t.fs),(15,.i .i64 t.fs.length),(16,.i .i64 (i:Nat)),(17,b17)]/\i+q=t.fs.length/\AAg T t=(t.fs.drop i).any (nu T)
  refine AW J2 ?_ t.fs.length _ _ ⟨0,_,_,_,rfl,by simp,rfl⟩;intro q2 fr S hJ;obtain⟨i,b2,b10,b17,C7,hi,EM⟩:=hJ;rw[C7];rw[<-Ay,e122_0];simp[ri];split<;>rename_i h2
  .obtain⟨f,hf⟩:=AZ (l:=t.fs) (k:=i) (by omega);have KB:=Lp.fs f (gC hf);rw[BG hf,any_cons] at EM;have hA:=v151 he T 122 f.NG f.args KB.OG fun a ha=>H a (KB.args a ha);have hfc:nu T f=(decide (f.kind=4)||f.args.any T):=rfl;generalize f.args.any T=A at *;simp[Aq e _ hf];by_cases k4:f.kind=4
   .simp only[hfc,k4,decide_true,Bool.true_or] at EM;rw[EM,Bool.true_or] at hv;simp[k4,hv]
   .cases A with
    |true=>
     simp only[hfc,k4,decide_false,Bool.false_or,Bool.true_or] at EM;rw[EM,Bool.true_or] at hv;simp[k4,hA,hv]
    |false=>
     simp only[hfc,k4,decide_false,Bool.or_self,Bool.false_or] at EM;simp[k4,hA];rw[Br (k:=i) h2 htl];exact⟨q2-1,by omega,⟨i+1,_,_,_,rfl,by omega,EM⟩⟩
  .rw[drop_eq_nil_of_le (show t.fs.length<=i by omega),any_nil] at EM;rw[EM,Bool.false_or] at hv;simp[yv,gX];rw[Br (k:=k) h U5];exact⟨q-1,by omega,⟨k+1,_,_,_,_,_,_,rfl,by omega,hv⟩⟩
 .rw[drop_eq_nil_of_le (show x.ts.length<=k by omega),any_nil] at hv;simp[yY,iR,hv]
theorem v122:∀n,Tsts (As n) (Bf n) (iG n)
 |0=>fun x=>nomatch x
 |n+1=>v122s (Az n) (v122 n)
section
open Go
set_option maxRecDepth 20000
def Hx(l:List Row):List D:=(l.map Ar).flatten
def flat(d:Array Row):List D:=Hx d.toList
def put(S:A1)(id:Nat)(d:Array Row):A1:=sset S id (.box (flat d))
def iN(k:Nat):D:=.i .i64 (k:Int)
def YK(id n:Nat):D:=.ar 2 id 0 n
def Yg:D:=.fn 200 []
theorem Ef(x:Row)(l:List Row):Hx (x::l)=.i .i64 x.1::.i .i64 x.2::Hx l:=rfl
theorem GS:∀l:List Row,(Hx l).length=2*l.length
 |[]=>rfl
 |x::l=>by rw[Ef];simp[GS l];omega
theorem aI:∀{l:List Row} {k:Nat} {r:Row},l[k]? = some r->MM (Hx l) (k*2) 2 true=some (.agg (Ar r))
 |[],_,_,h=>by simp at h
 |x::l,0,r,h=>by simp at h;subst h;simp[Ef,MM,Ar]
 |x::l,k+1,r,h=>by
  have ih:=aI (l:=l) (k:=k) (by simpa using h);have e:(k+1)*2=k*2+1+1:=by omega
  simp only[MM,if_true,GS] at ih ⊢;rw[Ef,e];simp only[List.drop_succ_cons,length_cons,GS];split at ih
  .rw[if_pos (by omega)];exact ih
  .cases ih
theorem ZB:∀{l:List Row} {k:Nat} (r:Row),k<l.length->Ai (Hx l) (k*2) (Ar r)=Hx (l.set k r)
 |[],_,_,h=>by simp at h
 |x::l,0,r,_=>rfl
 |x::l,k+1,r,h=>by
  have ih:=ZB (l:=l) (k:=k) r (by simpa using h);have e:(k+1)*2=k*2+1+1:=by omega
  rw[Ef,e,List.set_cons_succ,Ef,<-ih];rfl
theorem jnE{Z:Type}(K:Z)(X:Z->Prop):jn K X=X K:=(rfl)
theorem AAe(S:A1)(id:Nat)(d:Array Row):(put S id d).length=S.length:=BR _ _ _
theorem MA{S:A1}{id:Nat}(d:Array Row)(h:id<S.length):AA (put S id d) id=some (.box (flat d)):=AR _ h
theorem yq{d:Array Row}{k:Nat}(h:k<d.size):d.toList[k]? = some d[k]!:=by rw[Array.getElem?_toList,Array.getElem?_eq_getElem h,getElem!_pos d k h]
theorem ia_N{id n k:Nat}(h:k<n):Ak 2 (YK id n) (iN k)=some (.bx id (k*2)):=by simp only[YK,iN,Ak];rw[if_pos ⟨by omega,by omega,trivial⟩];simp
theorem ld_N{S:A1}{id k:Nat}{d:Array Row}(hi:id<S.length)(h:k<d.size):AE (put S id d) 2 true (.bx id (k*2))=some (.agg (Ar d[k]!)):=by simp only[AE,MA d hi];exact aI (yq h)
theorem st_N{S:A1}{id k:Nat}{d:Array Row}(r:Row)(hi:id<S.length)(h:k<d.size):Ax (put S id d) 2 true (.bx id (k*2)) (.agg (Ar r))=some (put S id (d.setIfInBounds k r)):=by
 have hl:(flat d).length=2*d.size:=by rw[flat,GS];simp
 simp only[Ax,MA d hi,Sv];rw[if_pos (by omega),flat,ZB r (by simpa using h),put,HG,put,flat,Array.toList_setIfInBounds]
theorem sZ{a b:Nat}(h:a+b<4000000000):A4 .add .num (iN a) (iN b)=some (iN (a+b)):=by simp only[iN,EB];rw[wrap64 ⟨by omega,by omega⟩];rfl
theorem sub_N{a b:Nat}(h:b<=a)(h':a<4000000000):A4 .sub .num (iN a) (iN b)=some (iN (a-b)):=by simp only[iN,Cp];rw[wrap64 ⟨by omega,by omega⟩];congr 2;omega
theorem Q4(a b:Nat):A4 .lss .num (iN a) (iN b)=some (.b (decide (a<b))):=by simp only[iN,Jv];congr 3;simp
theorem l0:D.i .i64 0=iN 0:=rfl
theorem l1:D.i .i64 1=iN 1:=rfl
theorem l2:D.i .i64 2=iN 2:=rfl
theorem l3:D.i .i64 3=iN 3:=rfl
theorem l4:D.i .i64 4=iN 4:=rfl
def Ln(g:Nat->Row):Nat->List Row
 |0=>[]
 |m+1=>if 0<m/\g m=g (m-1) then Ln g m else Ln g m++[g m]
theorem jT(g:Nat->Row):∀m,0<m->0<(Ln g m).length
 |0,h=>by omega
 |m+1,_=>by
  simp only[Ln];split
  .rename_i h;exact jT g m h.1
  .simp
theorem Wo(g:Nat->Row)(r:Row):∀m,r∈Ln g m<->∃i,i<m/\g i=r
 |0=>by simp[Ln]
 |m+1=>by
  have ih:=Wo g r m;simp only[Ln];split
  .rename_i h;rw[ih];constructor
   .rintro⟨i,h1,h2⟩;exact⟨i,by omega,h2⟩
   .rintro⟨i,h1,h2⟩;by_cases e:i=m
    .subst e;exact⟨i-1,by omega,by rw[<-h.2,h2]⟩
    .exact⟨i,by omega,h2⟩
  .rw[List.mem_append,ih,List.mem_singleton];constructor
   .rintro(⟨i,h1,h2⟩|h)
    .exact⟨i,by omega,h2⟩
    .exact⟨m,by omega,h.symm⟩
   .rintro⟨i,h1,h2⟩;by_cases e:i=m
    .subst e;exact .inr h2.symm
    .exact .inl ⟨i,by omega,h2⟩
def Asc(l:List Row):Prop:=l.Pairwise fun x y=>Jz x y=true
theorem QG{x y:Row}(h1:Jz x y=false)(h2:Jz y x=false):x=y:=by rw[K8] at h1 h2;exact Prod.ext (by omega) (by omega)
theorem jc(g:Nat->Row)(n:Nat)(hs:∀i j,i<j->j<n->Jz (g j) (g i)=false):∀m,m<=n->Asc (Ln g m)
 |0,_=>List.Pairwise.nil
 |m+1,hm=>by
  have ih:=jc g n hs m (by omega);simp only[Ln];split
  .exact ih
  .rename_i h;refine List.pairwise_append.2 ⟨ih,List.pairwise_singleton _ _,?_⟩;intro x hx y hy;rw[List.mem_singleton] at hy;subst hy;obtain⟨i,hi,rfl⟩:=(Wo g x m).1 hx;cases hc:Jz (g i) (g m) with
   |true=>rfl
   |false=>
    exfalso;have e:g i=g m:=QG hc (hs i m hi (by omega));apply h;refine⟨by omega,?_⟩;by_cases hi':i=m-1
    .rw[<-hi',e]
    .have a1:=hs i (m-1) (by omega) (by omega);have a2:=hs (m-1) m (by omega) (by omega);rw[e] at a1;exact QG a2 a1
theorem Q8:∀(l cs:List D) (o m:Nat),m<=o->(Ai cs o l).take m=cs.take m
 |[],_,_,_,_=>rfl
 |x::l,cs,o,m,h=>by
  have ft:∀(cs:List D) (o m:Nat),m<=o->(Bc cs o x).take m=cs.take m:=by
   intro cs
   induction cs with
   |nil=>intros;rfl
   |cons c cs ih=>
    intro o m h;cases o with
    |zero=>
         have:m=0:=by omega
         subst this;rfl
    |succ o=>
     cases m with
     |zero=>rfl
     |succ m=>simp only[Bc,take_succ_cons,ih o m (by omega)]
  rw[Ai,Q8 l _ (o+1) m (by omega),ft cs o m h]
theorem Tv:∀(l cs:List D) (o:Nat),(Ai cs o l).length=cs.length
 |[],_,_=>rfl
 |x::l,cs,o=>by
  have ft:∀(cs:List D) (o:Nat),(Bc cs o x).length=cs.length:=by
   intro cs
   induction cs with
   |nil=>intros;rfl
   |cons c cs ih=>intro o;cases o<;>simp[Bc,ih]
  rw[Ai,Tv l,ft]
theorem Th:∀(l cs:List D),l.length=cs.length->Ai cs 0 l=l:=by
 have key:∀(l pre cs:List D),l.length=cs.length->Ai (pre++cs) pre.length l=pre++l:=by
  intro l
  induction l with
  |nil=>intro pre cs h;cases cs<;>simp_all [Ai]
  |cons d l ih=>
   intro pre cs h;cases cs with
   |nil=>simp at h
   |cons x cs=>
    simp only[Ai]
    have e:Bc (pre++x::cs) pre.length d=(pre++[d])++cs:=by
     clear ih h
     induction pre with
     |nil=>rfl
     |cons y pre ihp=>simp[Bc,ihp]
    rw[e];have:=ih (pre++[d]) cs (by simpa using h);simp only[length_append,length_cons,length_nil,List.append_assoc,List.cons_append,List.nil_append] at this ⊢;exact this
 intro l cs h;exact key l [] cs h
theorem MZ(a b:Row):(¬nJ a b<0)<->Jz a b=false:=by simp[Jz]
theorem v199{S:A1}{id n:Nat}{d:Array Row}(hid:id<S.length)(hn:d.size=n)(h9:n<=60000) :
  ∃d':Array Row,call dp 199 [YK id n,Yg] (put S id d)=some (.AY [],put S id d')/\d'.toList.Perm d.toList/\∀i j,i<j->j<n->Jz d'[j]! d'[i]! = false:=by
 obtain⟨m,h1,h2,h3⟩:=Z0 (cf:=call dq) Ar nJ 2 200 d.toList (fun _ _=>rfl) (fun _ _=>rfl) (by simp;omega) (fun x _ y _=>z200 x y)
  (fun x _ y _ h=>by
   have e1:Jz x y=true:=by simp[Jz,h]
   rw[MZ,K8]
   rw[VU] at e1;omega)
  (fun x _ y _ z _ h k=>by rw[MZ,K8] at h k ⊢;omega)
  (fun x _ y _ h k=>by
   rw[MZ,K8] at h k;have e1:x.1=y.1:=by omega
   have e2:x.2=y.2:=by omega
   rw[Prod.ext e1 e2])
 have yJ:m.length=n:=by rw[h1.length_eq];simpa using hn
 have KR:(flat d).length=2*n:=by rw[flat,GS];simp[hn]
 obtain⟨r,S',e,rfl,rfl⟩:=f199 (YK id n) Yg (put S id d) (fun r S'=>r=.AY []/\S'=put S id m.toArray) (by
  obtain⟨v,Yo,hv⟩:=v193 n (by omega);have hl:AK false (YK id n)=some (iN n):=rfl
  have hc:BA .u64 (iN n)=some (.i .u64 n):=by rw[iN,Nw];congr 2;simp[IntKind.wrap,IntKind.signed,IntKind.bits];omega
  have hch:chunks 2 n (flat d)=d.toList.map Ar:=by have:=HJ 2 (d.toList.map Ar) (fun x hx=>by simp at hx;obtain⟨y,z,_,rfl⟩:=hx;rfl);rw[List.length_map] at this;rw[<-hn];exact this
  have hs:=Uy (g0:=273) (f:=d273) rfl (k:=2) (by omega) (by omega) rfl (S:=put S id d) (id:=id) (n:=n) (g:=200) (lim:=v) (MA d hid) (by omega) (by rw[hch];exact h3) (by omega)
  have hp:Ai (flat d) 0 (m.map Ar).flatten=flat m.toArray:=by
   rw[show(m.map Ar).flatten=flat m.toArray by simp[flat,Hx]];have h1:=Tv (flat m.toArray) (flat d) 0;have h2:(flat m.toArray).length=(flat d).length:=by rw[KR,flat,GS];simp[yJ]
   exact Th _ _ h2
  rw[hp] at hs
  have hs':call dp 273 [YK id n,.i .i64 0,iN n,.i .i64 v,Yg] (put S id d)=some (.AY [],put S id m.toArray):=by have e:sset (put S id d) id (.box (flat m.toArray))=put S id m.toArray:=HG _ _ S id;rw[e] at hs;exact hs
  simp only[s199,hl,A5,hc,Yo,hs']
  exact⟨trivial,trivial⟩)
 refine⟨m.toArray,e,by simpa using h1,fun i j l8 hj=>?_⟩;have q:=List.pairwise_iff_getElem.1 h2 i j (by omega) (by omega) l8;rw[MZ] at q;rw[getElem!_pos m.toArray j (by simp;omega),getElem!_pos m.toArray i (by simp;omega)];simpa using q
theorem v199e(nl:Bool)(o:JB)(S:A1):call dp 199 [.sl 2 nl [] o,Yg] S=some (.AY [],S):=by
 obtain⟨v,Yo,_⟩:=v193 0 (by omega)
 obtain⟨r,S',e,rfl,rfl⟩:=f199 (.sl 2 nl [] o) Yg S (fun r S'=>r=.AY []/\S'=S) (by
  have hl:AK false (.sl 2 nl [] o)=some (.i .i64 0):=rfl;have hc:BA .u64 (.i .i64 0)=some (.i .u64 0):=rfl;have xi:A0 (call dp) 193 [.i .u64 0]=some (.i .i64 v):=Yo;simp only[s199,hl,A5,hc,xi,Yg,SV (g0:=273) (f:=d273) rfl (by decide)]
  exact⟨trivial,trivial⟩)
 exact e
theorem tt(r s:Row):A4 .eql (.agg [.i,.i]) (.agg (Ar r)) (.agg (Ar s))=some (.b (decide (r=s))):=QF r s
theorem QA:∀(k:Nat) (cs:List D) (l:List Row),l.length=k->cs.take (2*k)=Hx l->chunks 2 k cs=l.map Ar
 |0,_,l,h,_=>by have:=List.length_eq_zero_iff.1 h;subst this;rfl
 |k+1,cs,[],h,_=>by simp at h
 |k+1,cs,x::l,h,e=>by
  rw[Ef] at e
  match cs,e with
  |[],e=>simp at e
  |[a],e=>rw[show 2*(k+1)=2*k+1+1 by omega] at e;simp at e
  |a::b::cs,e=>
   rw[show 2*(k+1)=2*k+1+1 by omega] at e;simp only[take_succ_cons,List.cons.injEq] at e;obtain⟨rfl,rfl,e⟩:=e;have ih:=QA k cs l (by simpa using h) e;simp only[chunks,take_succ_cons,List.take_zero,List.drop_succ_cons,List.drop_zero,ih,map_cons];rfl
theorem Ux(d:Array Row)(l:List Row)(h:l.length<=d.size)(hg:∀j,j<l.length->l[j]? = some d[j]!):(flat d).take (2*l.length)=Hx l:=by
 have e:d.toList.take l.length=l:=by
  apply List.ext_getElem?;intro j;by_cases hj:j<l.length
  .rw[List.getElem?_take_of_lt hj,yq (by omega),hg j hj]
  .rw[List.getElem?_take_eq_none (by omega),List.getElem?_eq_none (by omega)]
 have ft:∀(k:Nat) (l:List Row),k<=l.length->(Hx l).take (2*k)=Hx (l.take k):=by
  intro k
  induction k with
  |zero=>intros;rfl
  |succ k ih=>
   intro l h;cases l with
   |nil=>simp at h
   |cons x l=>
    rw[show 2*(k+1)=2*k+1+1 by omega,Ef,take_succ_cons,take_succ_cons,take_succ_cons,Ef,ih l (by simpa using h)]
 rw[flat,ft _ _ (by simpa using h),e]
theorem jh(d:Array Row)(c i:Nat)(v:Row)(hc:c<d.size):(d.setIfInBounds c v)[i]! = if i=c then v else d[i]!:=by
 by_cases h:i=c
 .subst h;rw[if_pos rfl,getElem!_pos _ _ (by simpa using hc)];simp
 .rw[if_neg h];simp only[getElem!_def,Array.getElem?_setIfInBounds];rw[if_neg (fun e=>h e.symm)]
theorem ia_2{id k m j:Nat}(h:j<m):Ak 2 (.ar 2 id (k*2) m) (iN j)=some (.bx id ((k+j)*2)):=by simp only[iN,Ak];rw[if_pos ⟨by omega,by omega,trivial⟩];simp;omega
theorem gW(r s:Row):A4 .neq (.agg [.i,.i]) (.agg (Ar r)) (.agg (Ar s))=some (.b (!decide (r=s))):=QB r s
theorem v201{S:A1}{id n:Nat}{d:Array Row}(hid:id<S.length)(hn:d.size=n)(h0:0<n)(h9:n<=1000000) :
  ∃k cs S',call dp 201 [YK id n] (put S id d)=some (.ar 2 id 0 k,S')/\AA S' id=some (.box cs)/\k=(Ln (fun i=>d[i]!) n).length/\cs.take (2*k)=Hx (Ln (fun i=>d[i]!) n):=by
 let g:Nat->Row:=fun i=>d[i]!
 have hg:∀i,d[i]! = g i:=fun _=>rfl
 obtain⟨r,S',e,k,cs,rfl,h1,h2,h3⟩:=f201 (YK id n) (put S id d) (fun r S'=>∃k cs,r=.ar 2 id 0 k/\AA S' id=some (.box cs)/\k=(Ln g n).length/\cs.take (2*k)=Hx (Ln g n)) (by
  have hl:AK false (YK id n)=some (iN n):=rfl
  have whole:∀S',S'=put S id d->Ln g n=(List.range n).map g->∃k cs,YK id n=.ar 2 id 0 k/\AA S' id=some (.box cs)/\k=(Ln g n).length/\cs.take (2*k)=Hx (Ln g n):=by
   rintro _ rfl hr;have hlen:(Ln g n).length=n:=by rw[hr];simp
   refine⟨n,flat d,rfl,MA d hid,hlen.symm,?_⟩;have:=Ux d (Ln g n) (by omega) (fun j hj=>by rw[hr] at hj ⊢;simp at hj;simp[hj];rfl);rw[hlen] at this;exact this
  by_cases h2:n<2
  .simp only[rE,hl,l2,A5,Q4,h2,decide_true,KN,if_true];have:n=1:=by omega
   exact whole _ rfl (by subst this;rfl)
  simp only[rE,hl,l1,l2,A5,Q4,h2,decide_false,KN,false_eq_true,if_false]
  let J:Nat->List D->A1->Prop:=fun q fr S'=>∃k x2 x4 x5 x13 x25 x32,k+q=n/\1<=k/\Ln g k=(List.range k).map g/\S'=put S id d /\
   fr=B0 61 [(0,YK id n),(2,x2),(3,iN k),(4,x4),(5,x5),(13,x13),(25,x25),(32,x32)]
  refine AW J ?_ (n-1) _ _ ⟨1,_,_,_,_,_,_,by omega,by omega,rfl,rfl,rfl⟩;rintro q fr S' ⟨k,x2,x4,x5,x13,x25,x32,hk,hk1,hr,rfl,rfl⟩;rw[<-Ay,e201_1];by_cases Ap:k<n
  case neg=>
   have:k=n:=by omega
   subst this;simp only[WA,hl,A5,Q4,Ap,decide_false,KN,false_eq_true,if_false,BC,Av,Ad,AAV,gL,Cb];exact whole _ rfl hr
  have m1:A4 .sub .num (iN k) (iN 1)=some (iN (k-1)):=sub_N (by omega) (by omega);have m2:A4 .add .num (iN k) (iN 1)=some (iN (k+1)):=sZ (by omega);have i0:=ia_N (id:=id) (n:=n) (k:=k) (by omega);have i1:=ia_N (id:=id) (n:=n) (k:=k-1) (by omega);have d0:=ld_N (d:=d) (k:=k) hid (by omega);have d1:=ld_N (d:=d) (k:=k-1) hid (by omega);rw[hg] at d0 d1;by_cases hdup:g k=g (k-1)
  case neg=>
   simp only[WA,hl,l1,A5,Q4,Ap,decide_true,KN,if_true,i0,i1,d0,d1,m1,tt,hdup,decide_false,false_eq_true,if_false,gK,m2,GP,Ao];refine⟨q-1,by omega,k+1,_,_,_,_,_,_,by omega,by omega,?_,rfl,rfl⟩;rw[Ln,if_neg (by simp[hdup]),hr,List.range_succ];simp
  have hsl:∀k,k<n->GG 2 (YK id n) (some (iN k)) none=some (.ar 2 id (k*2) (n-k)):=by
   intro k hk;have Qy:(k:Int)<=n:=by omega
   have:¬n=k:=by omega
   simp[GG,YK,bounds,iN,Qy,this]
  simp only[WA,hl,l1,A5,Q4,Ap,decide_true,KN,if_true,i0,i1,d0,d1,m1,tt,hdup,hsl k Ap]
  let J2:Nat->List D->A1->Prop:=fun q fr S'=>∃c j d' x2 x13 x25 x32,j+q=n-k/\1<=j/\c=(Ln g (k+j)).length/\c<=k+j-1/\d'.size=n/\(∀i,i<c->(Ln g (k+j))[i]? = some d'[i]!)/\(∀i,c<=i->d'[i]! = g i)/\S'=put S id d' /\
   fr=B0 61 [(0,YK id n),(2,x2),(3,iN c),(4,.ar 2 id (k*2) (n-k)),(5,iN j),(13,x13),(25,x25),(32,x32)]
  have PO:Ln g (k+1)=Ln g k:=by rw[Ln,if_pos ⟨by omega,hdup⟩]
  have ND:(Ln g k).length=k:=by rw[hr];simp
  refine AW J2 ?_ (n-k-1) _ _ ⟨k,1,d,_,_,_,_,by omega,by omega,by rw[PO,ND],by omega,hn,?_,fun i _=>rfl,rfl,rfl⟩
  .rintro q fr S' ⟨c,j,d',x2,x13,x25,x32,hj,hj1,hc,hcm,Rp,U8,hsuf,rfl,rfl⟩;rw[<-Ay,e201_0];have YB:AK false (.ar 2 id (k*2) (n-k))=some (iN (n-k)):=rfl;have hcp:0<c:=by rw[hc];exact jT g _ (by omega)
   by_cases YI:j<n-k
   .have a0:=ia_2 (id:=id) (k:=k) YI;have a1:=ia_2 (id:=id) (k:=k) (m:=n-k) (j:=j-1) (by omega);have b0:=ld_N (d:=d') (k:=k+j) hid (by omega);have b1:=ld_N (d:=d') (k:=k+(j-1)) hid (by omega);rw[hsuf (k+j) (by omega)] at b0;rw[hsuf (k+(j-1)) (by omega),show k+(j-1)=k+j-1 by omega] at b1;rw[show k+(j-1)=k+j-1 by omega] at a1;have p1:A4 .sub .num (iN j) (iN 1)=some (iN (j-1)):=sub_N (by omega) (by omega);have p2:A4 .add .num (iN j) (iN 1)=some (iN (j+1)):=sZ (by omega);have p3:A4 .add .num (iN c) (iN 1)=some (iN (c+1)):=sZ (by omega);by_cases hd:g (k+j)=g (k+j-1)
    .simp only[XX,YB,l1,A5,Q4,YI,decide_true,KN,if_true,a0,a1,b0,b1,p1,gW,hd,Bool.not_true,false_eq_true,if_false,jnE,p2,Ao];have he:Ln g (k+(j+1))=Ln g (k+j):=by rw[<-add_assoc,Ln,if_pos ⟨by omega,hd⟩]
     exact⟨q-1,by omega,c,j+1,d',_,_,_,_,by omega,by omega,by rw[he,hc],by omega,Rp,fun i hi=>by rw[he];exact U8 i hi,hsuf,rfl,rfl⟩
    .have a2:=ia_N (id:=id) (n:=n) (k:=c) (by omega);have s1:=st_N (d:=d') (k:=c) (g (k+j)) hid (by omega);simp only[XX,YB,l1,A5,Q4,YI,decide_true,KN,if_true,a0,a1,b0,b1,p1,gW,hd,decide_false,Bool.not_false,a2,s1,p3,jnE,p2,Ao];have he:Ln g (k+(j+1))=Ln g (k+j)++[g (k+j)]:=by rw[<-add_assoc,Ln,if_neg (fun h=>hd h.2)]
     refine⟨q-1,by omega,c+1,j+1,d'.setIfInBounds c (g (k+j)),_,_,_,_,by omega,by omega,by rw[he,hc];simp,by omega,by simp[Rp],?_,?_,rfl,rfl⟩
     .intro i hi;rw[he,jh _ _ _ _ (by omega)];by_cases e:i=c
      .rw[if_pos e,e,hc];simp
      .rw[if_neg e,gE (by omega)];exact U8 i (by omega)
     .intro i hi;rw[jh _ _ _ _ (by omega),if_neg (by omega)];exact hsuf i (by omega)
   .have hjn:k+j=n:=by omega
    rw[hjn] at hc U8
    have YP:qe 2 [iN 0,iN 0] (put S id d') (.ar 2 id (c*2) (n-c))=some (sset (put S id d') id (.box (Ai (flat d') (c*2) (List.replicate (n-c) [iN 0,iN 0]).flatten))):=by
     have KR:(flat d').length=2*n:=by rw[flat,GS];simp[Rp]
     simp only[qe,MA d' hid];rw[if_pos ⟨trivial,rfl⟩,if_pos (by omega)]
    have Ro:GG 2 (YK id n) none (some (iN c))=some (.ar 2 id 0 c):=by
     have Qy:(c:Int)<=n:=by omega
     have:¬c=0:=by omega
     simp[GG,YK,bounds,iN,Qy,this]
    simp only[XX,YB,A5,Q4,YI,decide_false,KN,false_eq_true,if_false,BC,Av,Ad,zC,kq,l0,hsl c (by omega),YP,Ro,Jb,PQ,Ja,Cb];refine⟨c,_,rfl,AR _ (by rw[AAe];exact hid),hc,?_⟩;rw[Q8 _ _ _ _ (by omega)];have:=Ux d' (Ln g n) (by omega) (fun j hj=>U8 j (by omega));rw[<-hc] at this;exact this
  .intro i hi;rw[PO,hr];simp[hi]
   rfl)
 exact⟨k,cs,S',e,h1,h2,h3⟩
theorem v128(nl:Bool)(l:List Row)(hn:nl=true->l=[])(h:l.length<=60000) :
  ∃s B3,A0 (call dp) 128 [AN nl l]=some (AN B3 s)/\Asc s/\(∀r,r∈s<->r∈l)/\(B3=true->s=[]):=by
 let P:D->Prop:=fun r=>∃s B3,r=AN B3 s/\Asc s/\(∀r,r∈s<->r∈l)/\(B3=true->s=[])
 suffices hh:∃r,A0 (call dp) 128 [AN nl l]=some r/\P r by obtain⟨r,e,s,B3,rfl,h1,h2⟩:=hh;exact⟨s,B3,e,h1,h2⟩
 apply j128 _ _ (by simp[A9]) (by rintro r ⟨s,B3,rfl,_⟩;simp);rw[QK];by_cases hl:l=[]
 .subst hl;have key:s128 (call dp) (AN nl []) [] (fun d _=>P (Ae d))<->OX (call dp 1159 [AN nl []] []) fun p2=>OX (call dp 199 [p2.1,Yg] p2.2) fun p4=>OX (call dp 201 [p2.1] p4.2) fun p6=>OX (Lr p6.1 p6.2) fun p7=>P (Ae p7.1):=Iff.rfl;rw[key]
  obtain⟨o,ZM⟩:∃o,call dp 1159 [AN nl []] []=some (.sl 2 nl [] o,[]):=by
   cases nl with
   |true=>
    obtain⟨r,S',e,rfl,rfl⟩:=qS (AN true []) [] (fun r S'=>r=.sl 2 true [] .ro/\S'=[]) (by simp[YV]);exact⟨_,e⟩
   |false=>
    obtain⟨r,S',e,rfl,rfl⟩:=qS (AN false []) [] (fun r S'=>r=.sl 2 false [] .G4/\S'=[]) (by
     have hb:A4 .eql .sl (.sl 2 false [] .ro) (.sl 2 true [] .ro)=some (.b false):=rfl
     simp[YV,Be,AN,AP,hb])
    exact⟨_,e⟩
  have tm:call dp 201 [.sl 2 nl [] o] []=some (.sl 2 nl [] o,[]):=by obtain⟨r,S',e,rfl,rfl⟩:=f201 (.sl 2 nl [] o) [] (fun r S'=>r=.sl 2 nl [] o/\S'=[]) (by simp[rE]);exact e
  simp only[ZM,A5,v199e,tm,Lr];exact⟨[],nl,rfl,List.Pairwise.nil,by simp,by simp⟩
 .have hnl:nl=false:=by
   cases nl with
   |true=>exact absurd (hn rfl) hl
   |false=>rfl
  subst hnl;have hlen:0<l.length:=List.length_pos_iff.2 hl
  have ZM:call dp 1159 [AN false l] []=some (YK 0 l.length,put [.gone] 0 l.toArray):=by
   obtain⟨r,S',e,rfl,rfl⟩:=qS (AN false l) [] (fun r S'=>r=YK 0 l.length/\S'=put [.gone] 0 l.toArray) (by
    have hm:(l.map Ar).isEmpty=false:=by cases l<;>simp_all
    have yJ:l.length<=AP:=by simp[AP];omega
    have hb:A4 .eql .sl (.sl 2 false (l.map Ar) .ro) (.sl 2 true [] .ro)=some (.b false):=rfl;simp[YV,Be,AN,hm,yJ,hl,hb]
    exact⟨rfl,rfl⟩)
   exact e
  have hid:0<([.gone]:A1).length:=by simp
  obtain⟨d',e199,hp,hs⟩:=v199 (S:=[.gone]) (id:=0) (n:=l.length) (d:=l.toArray) hid (by simp) h;have Cw:d'.size=l.length:=by simpa using hp.length_eq
  obtain⟨k,cs,S',tm,hg,hk,U3⟩:=v201 (S:=[.gone]) (id:=0) (n:=l.length) (d:=d') hid Cw hlen (by omega)
  let g:Nat->Row:=fun i=>d'[i]!
  change k=(Ln g l.length).length at hk;change cs.take (2*k)=Hx (Ln g l.length) at U3
  have hle:2*k<=cs.length:=by have:=congrArg List.length U3;rw[List.length_take,GS,<-hk] at this;omega
  have hfz:Lr (.ar 2 0 0 k) S'=some (.sl 2 false (chunks 2 k cs) .ro,sset S' 0 .gone):=by simp only[Lr,hg];rw[if_pos (by omega)];rfl
  have key:s128 (call dp) (AN false l) [] (fun d _=>P (Ae d))<->OX (call dp 1159 [AN false l] []) fun p2=>OX (call dp 199 [p2.1,Yg] p2.2) fun p4=>OX (call dp 201 [p2.1] p4.2) fun p6=>OX (Lr p6.1 p6.2) fun p7=>P (Ae p7.1):=Iff.rfl;rw[key];simp only[ZM,A5,e199,tm,hfz,QA k cs (Ln g l.length) hk.symm U3];refine⟨Ln g l.length,false,rfl,jc g l.length (fun i j l8 hj=>hs i j l8 hj) _ (le_refl _),?_,by simp⟩;intro r;rw[Wo];have lI:d'.toList.Perm l:=by simpa using hp
  rw[<-lI.mem_iff];constructor
  .rintro⟨i,hi,rfl⟩;exact gC (yq (d:=d') (by omega))
  .intro hr;obtain⟨i,hi,e⟩:=List.mem_iff_getElem.1 hr;refine⟨i,by simp at hi;omega,?_⟩;have:=yq (d:=d') (k:=i) (by simpa using hi);rw[gA hi,e] at this;exact(Option.some.inj this).symm
end
end Go.Proofs.YtjniafcnjbbomaaGreatDoor.DE.V
