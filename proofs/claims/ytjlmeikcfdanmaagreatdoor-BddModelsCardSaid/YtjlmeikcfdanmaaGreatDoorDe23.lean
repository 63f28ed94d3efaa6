/-
  THE EVALUATOR IN THE STYLE OF WHAT COMES NEXT: each operation hands its value on; reckoned by the kernel.
-/
import Derived.Test.YtjlmeikcfdanmaaGreatDoorDe22
namespace Go.Proofs.YtjlmeikcfdanmaaGreatDoor.DE
open Go

/-- A value that is there is handed on. -/
def OX {α : Type} (o : Option α) (K : α → Prop) : Prop := match o with
  | some x => K x
  | none => False

@[congr] theorem OX_congr {α : Type} {o o' : Option α} {K : α → Prop} (h : o = o') : OX o K = OX o' K := by rw [h]
@[simp] theorem OX_some {α : Type} (x : α) (K : α → Prop) : OX (some x) K = K x := (rfl)

/-! Operations on values. -/

def nilckD : D → Option D
  | .bx i o => some (.bx i o)
  | .el c o => some (.el c o)
  | .fn g c => some (.fn g c)
  | _ => none

def pickD (c a b : D) : Option D := match c with
  | .b x => some (if x then a else b)
  | _ => none

def convD (k : IntKind) : D → Option D
  | .i _ n => some (.i k (k.wrap n))
  | _ => none

def faD (o : Nat) : D → Option D
  | .bx id p => some (.bx id (p + o))
  | .el cs p => some (.el cs (p + o))
  | _ => none

def fldD (o k : Nat) (g : Bool) : D → Option D
  | .agg cs => rdK cs o k g
  | _ => none

def iaaD (n k : Nat) (x i : D) : Option D := match x, i with
  | .bx id o, .i _ m => if 0 ≤ m ∧ m < n then some (.bx id (o + m.toNat * k)) else none
  | _, _ => none

def ixsD (x i : D) : Option D := match x, i with
  | .s l, .i _ m => if 0 ≤ m then (l[m.toNat]?).map fun c => .i .u8 c.toNat else none
  | _, _ => none

def okD (ok : Bool) (z : D) : Option D → D
  | some v => if ok then .tup [v, .b true] else v
  | none => if ok then .tup [z, .b false] else z

def lkD' (kk : KK) (ok : Bool) (z : D) (S : Store) (m key : D) : Option D := if isKey kk key then
    (match m with
    | .nilm => some (okD ok z none)
    | .mp id => match sget S id with
      | some (.map es) => (lkD kk key es).map (okD ok z)
      | _ => none
    | _ => none) else none

def extD (x : D) (j : Nat) : Option D := match x with
  | .tup cs => cs[j]?
  | _ => none

def lenD (str : Bool) (x : D) : Option D := match str, x with
  | false, .sl _ _ xs _ => some (.i .i64 xs.length)
  | false, .ar _ _ _ n => some (.i .i64 n)
  | true, .s l => some (.i .i64 l.length)
  | _, _ => none

def mxD (x y : D) : Option D := match x, y with
  | .i k a, .i k' b => if k = k' then some (.i k (if b > a then b else a)) else none
  | _, _ => none

def mnD (x y : D) : Option D := match x, y with
  | .i k a, .i k' b => if k = k' then some (.i k (if b < a then b else a)) else none
  | _, _ => none

def cmpsD (x y : D) : Option D := match x, y with
  | .s a, .s b => some (.i .i64 (if Op.bytesLess a b then -1 else if a == b then 0 else 1))
  | _, _ => none

def avP (fr : List D) : List (Nat × Nat × Bool × A) → List (Nat × Nat × Bool × D)
  | [] => []
  | (o, k, g, x) :: l => (o, k, g, av fr x) :: avP fr l

def bldV (z : List D) : List (Nat × Nat × Bool × D) → Option (List D)
  | [] => some z
  | (o, k, g, x) :: ps => match cellsK k g x with
    | some cs => if o + k ≤ z.length then bldV (splice z o cs) ps else none
    | none => none

def cellsV (k : Nat) (g : Bool) : List D → Option (List (List D))
  | [] => some []
  | x :: l => match cellsK k g x, cellsV k g l with
    | some cs, some r => some (cs :: r)
    | _, _ => none

def muD' (kk : KK) (S : Store) (m key v : D) : Option Store := if isKey kk key then
    (match m with
    | .mp id => match sget S id with
      | some (.map es) => (muD kk key v es).map fun es' => sset S id (.map es')
      | _ => none
    | _ => none) else none

def clrD (k : Nat) (z : List D) (S : Store) (x : D) : Option Store := match x with
  | .ar k' id o n => if k' = k ∧ z.length = k then (match sget S id with
    | some (.box cs) => if o + n * k ≤ cs.length then some (sset S id (.box (splice cs o (List.replicate n z).flatten))) else none
    | _ => none) else none
  | .sl _ _ [] _ => some S
  | _ => none

def fnD : D → Option (Nat × List D)
  | .fn g cs => some (g, cs)
  | _ => none

def mkslV (k : Nat) (arr : Bool) (z : List D) (S : Store) (n : D) : Option (D × Store) := match n with
  | .i _ m => if 0 ≤ m ∧ m ≤ maxLenD then
      (if arr then some (.ar k S.length 0 m.toNat, .box (List.replicate m.toNat z).flatten :: S)
      else (if m = 0 then some (.sl k false [] .cap0, S) else some (.sl k false (List.replicate m.toNat z) (.tok S.length), .tok true :: S))) else none
  | _ => none

def bslO (k : Nat) (l : List (List D)) (S : Store) : D × Store := if l.isEmpty then (.sl k false [] .cap0, S) else (.sl k false l (.tok S.length), .tok true :: S)

def mentV (kk : KK) (z : D) (S : Store) (m key : D) : Option (D × Store) := if isKey kk key then
    (match m with
    | .mp id => match sget S id with
      | some (.map es) => match posD kk key es 0 with
        | some (some j) => match es[j]? with
          | some e => some (.tup [e.2, .i .i64 j], sset S id (.map (putD key j es)))
          | none => none
        | some none => some (.tup [z, .i .i64 es.length], sset S id (.map (es ++ [(key, z)])))
        | none => none
      | _ => none
    | _ => none) else none

def estV (S : Store) (m j v : D) : Option Store := match m, j with
  | .mp id, .i _ n => match sget S id with
    | some (.map es) => if 0 ≤ n ∧ n < es.length then some (sset S id (.map (valD v n.toNat es))) else none
    | _ => none
  | _, _ => none

/-- Is the operation's outcome a value alone? -/
def isV : R → Bool
  | .alloc _ => false
  | .box _ _ _ => false
  | .bsl _ _ own _ => !own
  | .st _ _ _ _ => false
  | .mkmap => false
  | .mksl _ _ _ _ => false
  | .mu _ _ _ _ => false
  | .ment _ _ _ _ => false
  | .est _ _ _ => false
  | .app _ _ _ _ => false
  | .clr _ _ _ => false
  | .call _ iso _ => iso
  | .calld _ iso _ => iso
  | _ => true

section
variable (cf : CallF) (fr : List D) (S : Store)

def rV : R → Option D
  | .mv x => some (av fr x)
  | .nilck x => nilckD (av fr x)
  | .pick c a b => pickD (av fr c) (av fr a) (av fr b)
  | .bld z ps => (bldV z (avP fr ps)).map .agg
  | .bsl k g _ xs => (cellsV k g (avs fr xs)).map fun l => .sl k false l .ro
  | .ld k g a => ldD S k g (av fr a)
  | .bin op q x y => binD op q (av fr x) (av fr y)
  | .un op x => unD op (av fr x)
  | .conv k x => convD k (av fr x)
  | .mkfn g cs => some (.fn g (avs fr cs))
  | .slc k x lo hi => slcD k (av fr x) (avo fr lo) (avo fr hi)
  | .slcs x lo hi => slcsD (av fr x) (avo fr lo) (avo fr hi)
  | .fa o x => faD o (av fr x)
  | .fld o k g x => fldD o k g (av fr x)
  | .ia k x i => iaD k (av fr x) (av fr i)
  | .iaa n k x i => iaaD n k (av fr x) (av fr i)
  | .ixs x i => ixsD (av fr x) (av fr i)
  | .lk kk ok z m key => lkD' kk ok z S (av fr m) (av fr key)
  | .ext x j => extD (av fr x) j
  | .len str x => lenD str (av fr x)
  | .mx x y => mxD (av fr x) (av fr y)
  | .mn x y => mnD (av fr x) (av fr y)
  | .cmps x y => cmpsD (av fr x) (av fr y)
  | .call g _ args => isoCall cf g (avs fr args)
  | .calld f _ args => match fnD (av fr f) with
    | some p => isoCall cf p.1 (avs fr args ++ p.2)
    | none => none
  | _ => none

def wpR : R → (D → Store → Prop) → Prop
  | .mv x, K => K (av fr x) S
  | .mkfn g cs, K => K (.fn g (avs fr cs)) S
  | .alloc z, K => K (.bx S.length 0) (.box z :: S)
  | .mkmap, K => K (.mp S.length) (.map [] :: S)
  | .box k g x, K => OX (cellsK k g (av fr x)) fun cs => K (.bx S.length 0) (.box cs :: S)
  | .bld z ps, K => OX (bldV z (avP fr ps)) fun cs => K (.agg cs) S
  | .bsl k g own xs, K => match own with
    | false => OX (cellsV k g (avs fr xs)) fun l => K (.sl k false l .ro) S
    | true => OX (cellsV k g (avs fr xs)) fun l => K (bslO k l S).1 (bslO k l S).2
  | .st k g a v, K => OX (stD S k g (av fr a) (av fr v)) fun S' => K (.tup []) S'
  | .mksl k arr z n, K => OX (mkslV k arr z S (av fr n)) fun p => K p.1 p.2
  | .mu kk m key v, K => OX (muD' kk S (av fr m) (av fr key) (av fr v)) fun S' => K (.tup []) S'
  | .app k arr x y, K => OX (appD k arr (av fr x) (av fr y) S) fun p => K p.1 p.2
  | .clr k z x, K => OX (clrD k z S (av fr x)) fun S' => K (.tup []) S'
  | .call g iso args, K => match iso with
    | true => OX (isoCall cf g (avs fr args)) fun d => K d S
    | false => OX (cf g (avs fr args) S) fun p => K p.1 p.2
  | .calld f iso args, K => match iso with
    | true => OX (fnD (av fr f)) fun q => OX (isoCall cf q.1 (avs fr args ++ q.2)) fun d => K d S
    | false => OX (fnD (av fr f)) fun q => OX (cf q.1 (avs fr args ++ q.2) S) fun p => K p.1 p.2
  | .ment kk z m key, K => OX (mentV kk z S (av fr m) (av fr key)) fun p => K p.1 p.2
  | .est m j v, K => OX (estV S (av fr m) (av fr j) (av fr v)) fun S' => K (.tup []) S'
  | r, K => OX (rV cf fr S r) fun d => K d S

end

def al (z : List D) (S : Store) (K : D → Store → Prop) : Prop := K (.bx S.length 0) (.box z :: S)
def mm (S : Store) (K : D → Store → Prop) : Prop := K (.mp S.length) (.map [] :: S)
def jn {α : Type} (K : α) (X : α → Prop) : Prop := X K

/-- A frame: what is not named is empty. -/
def mkf (n : Nat) : List (Nat × D) → List D
  | [] => List.replicate n .top
  | (i, v) :: l => fset (mkf n l) i v

/-- Under a guard: the value, or nothing. -/
def gsel (d : D) (w : Bool) (o : Option D) : Option D := match d with
  | .b x => if x = w then o else some (.tup [])
  | .tup [] => some (.tup [])
  | _ => none

def gselS (d : D) (w : Bool) (S : Store) (o : Option (D × Store)) : Option (D × Store) := match d with
  | .b x => if x = w then o else some (.tup [], S)
  | .tup [] => some (.tup [], S)
  | _ => none

@[simp] theorem gsel_tt (o : Option D) : gsel (.b true) true o = o := (rfl)
@[simp] theorem gsel_ff (o : Option D) : gsel (.b false) false o = o := (rfl)
@[simp] theorem gsel_tf (o : Option D) : gsel (.b true) false o = some (.tup []) := (rfl)
@[simp] theorem gsel_ft (o : Option D) : gsel (.b false) true o = some (.tup []) := (rfl)
@[simp] theorem gsel_skip (w : Bool) (o : Option D) : gsel (.tup []) w o = some (.tup []) := (rfl)
@[simp] theorem gselS_tt (S : Store) (o : Option (D × Store)) : gselS (.b true) true S o = o := (rfl)
@[simp] theorem gselS_ff (S : Store) (o : Option (D × Store)) : gselS (.b false) false S o = o := (rfl)
@[simp] theorem gselS_tf (S : Store) (o : Option (D × Store)) : gselS (.b true) false S o = some (.tup [], S) := (rfl)
@[simp] theorem gselS_ft (S : Store) (o : Option (D × Store)) : gselS (.b false) true S o = some (.tup [], S) := (rfl)
@[simp] theorem gselS_skip (w : Bool) (S : Store) (o : Option (D × Store)) : gselS (.tup []) w S o = some (.tup [], S) := (rfl)

/-! The frame is kept as a list that stands there. -/
def setF : List D → Nat → D → (List D → Prop) → Prop
  | [], _, _, K => K []
  | _ :: l, 0, v, K => K (v :: l)
  | d :: l, n + 1, v, K => setF l n v fun l' => K (d :: l')
def setO (fr : List D) (dst : Option Nat) (d : D) (K : List D → Prop) : Prop := match dst with
  | none => K fr
  | some t => setF fr t d K
def killF : List D → List Nat → (List D → Prop) → Prop
  | fr, [], K => K fr
  | fr, t :: l, K => setF fr t .top fun fr' => killF fr' l K
def frc : List D → (List D → Prop) → Prop
  | [], K => K []
  | d :: l, K => frc l fun l' => K (d :: l')

theorem setF_eq : ∀ (fr : List D) (t : Nat) (d : D) (K : List D → Prop), setF fr t d K = K (fset fr t d)
  | [], _, _, _ => rfl
  | _ :: _, 0, _, _ => rfl
  | _ :: l, n + 1, v, K => by simp only [setF, fset]; exact setF_eq l n v _
theorem setO_eq (fr : List D) (dst : Option Nat) (d : D) (K : List D → Prop) : setO fr dst d K = K (fsetO fr dst d) := by
  cases dst with
  | none => rfl
  | some t => exact setF_eq fr t d K
theorem killF_eq : ∀ (l : List Nat) (fr : List D) (K : List D → Prop), killF fr l K = K (fkill fr l)
  | [], _, _ => rfl
  | t :: l, fr, K => by simp only [killF, setF_eq, fkill]; exact killF_eq l _ K
theorem frc_eq : ∀ (fr : List D) (K : List D → Prop), frc fr K = K fr
  | [], _ => rfl
  | d :: l, K => by simp only [frc]; exact frc_eq l _

def wpI (cf : CallF) : List I → List D → Store → (List D → Store → Prop) → Prop
  | [], fr, S, Q => Q fr S
  | .op dst none r :: is, fr, S, Q => wpR cf fr S r fun d S' => setO fr dst d fun fr' => wpI cf is fr' S' Q
  | .op dst (some (t, w)) r :: is, fr, S, Q => match isV r with
    | true => OX (gsel (fget fr t) w (rV cf fr S r)) fun d => setO fr dst d fun fr' => wpI cf is fr' S Q
    | false => OX (gselS (fget fr t) w S (evR cf fr S r)) fun p => setO fr dst p.1 fun fr' => wpI cf is fr' p.2 Q
  | .fz t :: is, fr, S, Q => OX (fzD (fget fr t) S) fun p => setF fr t p.1 fun fr' => wpI cf is fr' p.2 Q
  | .ck t r :: is, fr, S, Q => match isV r with
    | true => OX (rV cf fr S r) fun d => deq d (fget fr t) = true ∧ wpI cf is fr S Q
    | false => OX (evR cf fr S r) fun p => deq p.1 (fget fr t) = true ∧ wpI cf is fr S Q

def wp (cf : CallF) : C → List D → Store → (Ex → List D → Store → Prop) → Prop
  | .skip, fr, S, Q => Q .normal fr S
  | .reg is kl, fr, S, Q => wpI cf is fr S fun fr' S' => killF fr' kl fun fr2 => Q .normal fr2 S'
  | .dreg is kl, fr, S, Q => wpI cf (snds is) fr S fun fr' S' => killF fr' kl fun fr2 => Q .normal fr2 S'
  | .seq a b, fr, S, Q => wp cf a fr S (Qseq (fun fr' S' => wp cf b fr' S' Q) Q)
  | .cond c a b, fr, S, Q => WB (av fr c) (wp cf a fr S Q) (wp cf b fr S Q)
  | .blk id a, fr, S, Q => wp cf a fr S (Qblk id Q)
  | .loop kl a, fr, S, Q => W cf (.loop kl a) fr S Q
  | .exit id, fr, S, Q => Q (.exit id) fr S
  | .ret, fr, S, Q => Q .ret fr S
  | .bad, _, _, _ => False

section
variable {cf : CallF} {fr fr' : List D} {S S' : Store}

theorem bldV_eq : ∀ (ps : List (Nat × Nat × Bool × A)) (z : List D), bldV z (avP fr ps) = bldD fr z ps
  | [], _ => rfl
  | (o, k, g, x) :: ps, z => by
    simp only [avP, bldV, bldD]
    cases cellsK k g (av fr x) with
    | none => rfl
    | some cs =>
      simp only
      split
      · exact bldV_eq ps _
      · rfl

theorem cellsV_eq (k : Nat) (g : Bool) : ∀ (xs : List A), cellsV k g (avs fr xs) = cellsAll fr k g xs
  | [] => rfl
  | x :: xs => by
    simp only [avs, cellsV, cellsAll, cellsV_eq k g xs]
    cases cellsK k g (av fr x) <;> cases cellsAll fr k g xs <;> rfl

theorem rV_eq {r : R} (h : isV r = true) : evR cf fr S r = (rV cf fr S r).map fun d => (d, S) := by
  cases r <;> simp only [isV] at h <;> (try (cases h; done)) <;> simp only [evR, rV]
  case mv x => rfl
  case nilck x => cases av fr x <;> rfl
  case pick c a b =>
    cases av fr c <;> rfl
  case bld z ps => rw [bldV_eq]; cases bldD fr z ps <;> rfl
  case bsl k g own xs =>
    rw [cellsV_eq]
    have : own = false := by simpa using h
    subst this
    cases cellsAll fr k g xs <;> rfl
  case conv k x => cases av fr x <;> rfl
  case mkfn g cs => rfl
  case fa o x => cases av fr x <;> rfl
  case fld o k g x => cases av fr x <;> rfl
  case iaa n k x i =>
    cases av fr x <;> try rfl
    cases av fr i <;> try rfl
    simp only [iaaD]
    split <;> rfl
  case ixs x i =>
    cases av fr x <;> try rfl
    cases av fr i <;> try rfl
    rename_i l k m
    simp only [ixsD]
    split
    · cases l[m.toNat]? <;> rfl
    · rfl
  case lk kk ok z m key =>
    simp only [lkD']
    split
    · cases av fr m <;> try rfl
      rename_i id
      simp only
      cases sget S id with
      | none => rfl
      | some e =>
        cases e <;> try rfl
        rename_i es
        simp only
        cases lkD kk (av fr key) es with
        | none => rfl
        | some r => cases r <;> rfl
    · rfl
  case ext x j => cases av fr x <;> rfl
  case len str x => cases str <;> cases av fr x <;> rfl
  case mx x y =>
    cases av fr x <;> try rfl
    cases av fr y <;> try rfl
    simp only [mxD]
    split <;> rfl
  case mn x y =>
    cases av fr x <;> try rfl
    cases av fr y <;> try rfl
    simp only [mnD]
    split <;> rfl
  case call g iso args => subst h; rfl
  case calld f iso args => subst h; cases av fr f <;> rfl
  case cmps x y =>
    cases av fr x <;> try rfl
    cases av fr y <;> rfl

theorem OX_map {α β : Type} (o : Option α) (f : α → β) (K : β → Prop) : OX (o.map f) K = OX o fun x => K (f x) := by cases o <;> rfl

theorem wpR_eq (r : R) (K : D → Store → Prop) : wpR cf fr S r K = OX (evR cf fr S r) fun p => K p.1 p.2 := by
  have v : ∀ r, isV r = true → (OX (rV cf fr S r) fun d => K d S) = OX (evR cf fr S r) fun p => K p.1 p.2 := by
    intro r h
    rw [rV_eq h, OX_map]
  cases r <;> try exact v _ rfl
  case mv x => rfl
  case mkfn g cs => rfl
  case alloc z => rfl
  case mkmap => rfl
  case box k g x => simp only [wpR, evR, OX_map]
  case bld z ps => rw [← v _ rfl]; simp only [wpR, rV, OX_map]
  case bsl k g own xs =>
    cases own with
    | false => rw [← v _ rfl]; simp only [wpR, rV, OX_map]
    | true =>
      simp only [wpR, evR, cellsV_eq, OX_map, if_true]
      rfl
  case st k g a x => simp only [wpR, evR, OX_map]
  case mksl k arr z n =>
    simp only [wpR, evR]
    cases av fr n <;> rfl
  case mu kk m key x =>
    simp only [wpR, evR, muD']
    split
    · cases av fr m <;> try rfl
      rename_i id
      simp only
      cases sget S id with
      | none => rfl
      | some e =>
        cases e <;> try rfl
        simp only [OX_map]
    · rfl
  case ment kk z m key => rfl
  case est m j x =>
    simp only [wpR, evR, estV]
    cases av fr m <;> try rfl
    cases av fr j <;> try rfl
    rename_i id k n
    simp only
    cases sget S id with
    | none => rfl
    | some e =>
      cases e <;> try rfl
      simp only
      split <;> rfl
  case app k arr x y => rfl
  case clr k z x =>
    simp only [wpR, evR, clrD]
    cases av fr x <;> try rfl
    · rename_i k' nl xs ow
      cases xs <;> rfl
    · rename_i k' id o n
      simp only
      split
      · cases sget S id with
        | none => rfl
        | some e =>
          cases e <;> try rfl
          simp only
          split <;> rfl
      · rfl
  case call g iso args =>
    cases iso with
    | true => rw [← v _ rfl]; rfl
    | false => rfl
  case calld f iso args =>
    cases iso with
    | true =>
      rw [← v _ rfl]
      simp only [wpR, rV]
      cases fnD (av fr f) <;> rfl
    | false =>
      simp only [wpR, evR, callR]
      cases av fr f <;> rfl

theorem wpI_eq (Q : List D → Store → Prop) : ∀ (is : List I) (fr : List D) (S : Store), wpI cf is fr S Q = WI cf is fr S Q
  | [], _, _ => rfl
  | .op dst none r :: is, fr, S => by
    rw [WI_op]
    simp only [wpI, wpR_eq, setO_eq]
    cases evR cf fr S r with
    | none => rfl
    | some p => exact wpI_eq Q is _ _
  | .op dst (some (t, w)) r :: is, fr, S => by
    have e : wpI cf (.op dst (some (t, w)) r :: is) fr S Q = OX (gselS (fget fr t) w S (evR cf fr S r)) fun p => wpI cf is (fsetO fr dst p.1) p.2 Q := by
      simp only [wpI, setO_eq]
      split
      · rename_i h
        rw [rV_eq h]
        cases hd : fget fr t <;> try rfl
        · simp only [gsel, gselS]
          split
          · rw [OX_map]
          · rfl
        · rename_i l
          cases l <;> rfl
      · rfl
    rw [e, WI_gd]
    generalize fget fr t = d
    cases d <;> try rfl
    · rename_i x
      simp only [gselS, WG]
      split
      · cases evR cf fr S r with
        | none => rfl
        | some p => exact wpI_eq Q is _ _
      · exact wpI_eq Q is _ _
    · rename_i l
      cases l with
      | nil => exact wpI_eq Q is _ _
      | cons _ _ => rfl
  | .fz t :: is, fr, S => by
    rw [WI_fz]
    simp only [wpI, setF_eq]
    cases fzD (fget fr t) S with
    | none => rfl
    | some p => exact wpI_eq Q is _ _
  | .ck t r :: is, fr, S => by
    have e : wpI cf (.ck t r :: is) fr S Q = OX (evR cf fr S r) fun p => deq p.1 (fget fr t) = true ∧ wpI cf is fr S Q := by
      simp only [wpI]
      split
      · rename_i h
        rw [rV_eq h, OX_map]
      · rfl
    rw [e]
    simp only [WI, evI]
    cases evR cf fr S r with
    | none => rfl
    | some p =>
      simp only [OX]
      rw [wpI_eq Q is]
      by_cases h : deq p.1 (fget fr t) = true
      · simp [h]
      · have : deq p.1 (fget fr t) = false := by simpa using h
        simp [this]

theorem wp_W : ∀ (c : C) (fr : List D) (S : Store) (Q : Ex → List D → Store → Prop), wp cf c fr S Q = W cf c fr S Q
  | .skip, fr, S, Q => by rw [W_skip]; rfl
  | .reg is kl, fr, S, Q => by rw [W_reg, ← wpI_eq]; simp only [wp, killF_eq]
  | .dreg is kl, fr, S, Q => by rw [W_dreg, propext (WD_WI _ is fr S), ← wpI_eq]; simp only [wp, killF_eq]
  | .seq a b, fr, S, Q => by
    rw [W_seq, ← wp_W a]
    have : (fun fr S => W cf b fr S Q) = fun fr S => wp cf b fr S Q := by funext fr S; rw [wp_W b]
    rw [this]; rfl
  | .cond c a b, fr, S, Q => by rw [W_cond, ← wp_W a, ← wp_W b]; rfl
  | .blk id a, fr, S, Q => by rw [W_blk, ← wp_W a]; rfl
  | .loop kl a, fr, S, Q => rfl
  | .exit id, fr, S, Q => by rw [W_exit]; rfl
  | .ret, fr, S, Q => by rw [W_ret]; rfl
  | .bad, fr, S, Q => by simp [wp, W, execL]

end

end Go.Proofs.YtjlmeikcfdanmaaGreatDoor.DE
