/-
  REGIONS THAT DRAW THEIR ORDER: whatever order is drawn, what the evaluator's one order gives.
-/
import Derived.Test.YtjlmeikcfdanmaaGreatDoorDe17
import Derived.Orders
namespace Go.Proofs.YtjlmeikcfdanmaaGreatDoor.DE
open Go

/-! ## The check -/

def dstI : I → Option Nat
  | .op dst _ _ => dst
  | .fz t => some t
  | .ck _ _ => none

/-- An item read as an operation. -/
def asOp : I → Option (Option Nat × Option (Nat × Bool) × R)
  | .op dst gd r => some (dst, gd, r)
  | .ck t r => some (some t, none, r)
  | .fz _ => none

def isX : I → Bool
  | .op _ _ r => match kdR r with | .x => true | _ => false
  | _ => false

def kdX (r : R) : Bool := match kdR r with | .x => true | _ => false
def kdP (r : R) : Bool := match kdR r with | .p => true | _ => false

def nX : List (Nat × I) → Nat
  | [] => 0
  | (_, i) :: l => (if isX i then 1 else 0) + nX l

def xsOf : List (Nat × I) → List Nat
  | [] => []
  | (j, i) :: l => if isX i then j :: xsOf l else xsOf l

def ann : Nat → List (Nat × I) → List (Nat × Nat × I)
  | _, [] => []
  | n, (j, i) :: l => (n, j, i) :: ann ((if isX i then 1 else 0) + n) l

def noDst (u : Nat) (l : List (Nat × I)) : Bool := l.all fun q => dstI q.2 != some u

/-- No item writes what an earlier one has written, or has been asked about. -/
def uniq : List (Nat × I) → Bool
  | [] => true
  | (_, i) :: l => (match i with | .op (some t) _ _ => noDst t l | .ck t _ => noDst t l | _ => true) && uniq l

def bbit (B : List Nat) (q j : Nat) : Bool := (B.getD j 0).testBit q

def ndB : List Nat → Bool
  | [] => true
  | x :: l => l.all (fun y => y != x) && ndB l

def chainB (B : List Nat) : List Nat → Bool
  | x :: y :: l => bbit B x y && chainB B (y :: l)
  | _ => true

def usO : I → List Nat
  | .op _ gd r => usG gd ++ usR r
  | .fz _ => []
  | .ck _ r => usR r

/-- What the item looks at has been written by what stands before it, or will be written by what stands behind it. -/
def useOk (ops : List Oper) (B : List Nat) (pre : List (Nat × I)) (j : Nat) (i : I) (post : List (Nat × I)) : Bool :=
  (usO i).all fun u => (noDst u ((j, i) :: post) && ops.zipIdx.all fun q => q.1.dst != some u || bbit B q.2 j) || (noDst u pre && ops.zipIdx.all fun q => q.1.dst != some u || bbit B j q.2)

def usesOk (ops : List Oper) (B : List Nat) : List (Nat × I) → List (Nat × I) → Bool
  | _, [] => true
  | pre, (j, i) :: l => useOk ops B pre j i l && usesOk ops B (pre ++ [(j, i)]) l

def itemOk (P : Program) (dp : Nat → Option Fn) (ops : List Oper) (j : Nat) (i : I) : Bool := match ops[j]? with
  | some o => match asOp i with
    | some (dst, gd, r) => mI P dp ops o (.op dst gd r)
    | none => false
  | none => false

def ckOk : I → Bool
  | .ck _ r => !kdX r
  | _ => true

def covOk (B xs : List Nat) (A : List (Nat × Nat × I)) (j : Nat) : Bool :=
  A.any (fun q => q.2.1 == j && (match q.2.2 with | .op _ _ r => kdP r || kdX r | _ => false)) ||
  (List.range (xs.length + 1)).all fun k => xs.zipIdx.any (fun x => (bbit B x.1 j && !decide (x.2 < k)) || (bbit B j x.1 && !decide (k ≤ x.2))) ||
    A.any fun q => q.1 == k && q.2.1 == j && !isX q.2.2

def edgesOk (ops : List Oper) : Bool := ops.zipIdx.all fun q => q.1.after.toList.all fun e => !Region.binds .any e || decide (e.on < q.2)

def mDr (P : Program) (dp : Nat → Option Fn) (ops : List Oper) (is : List (Nat × I)) : Bool :=
  let B := befores ops []
  let A := ann 0 is
  let xs := xsOf is
  is.all (fun q => itemOk P dp ops q.1 q.2 && ckOk q.2) && uniq is && usesOk ops B [] is && edgesOk ops && ndB xs && chainB B xs && (List.range ops.length).all fun j => covOk B xs A j

/-! ## The evaluator: what an operation looks at -/

section
variable {cf : CallF} {fr fr' : List D} {S S' : Store}

theorem av_congr {x : A} (h : ∀ t ∈ usA x, fget fr t = fget fr' t) : av fr x = av fr' x := by
  cases x with
  | t n => exact h n (by simp [usA])
  | c d => rfl

theorem avo_congr {x : Option A} (h : ∀ t ∈ usAo x, fget fr t = fget fr' t) : avo fr x = avo fr' x := by
  cases x with
  | none => rfl
  | some x => simp only [avo, av_congr (x := x) h]

theorem avs_congr : ∀ {xs : List A}, (∀ t ∈ usAs xs, fget fr t = fget fr' t) → avs fr xs = avs fr' xs
  | [], _ => rfl
  | x :: xs, h => by
    simp only [usAs, List.mem_append] at h
    simp only [avs]
    rw [av_congr fun t ht => h t (.inl ht), avs_congr fun t ht => h t (.inr ht)]

theorem bldD_congr : ∀ {ps : List (Nat × Nat × Bool × A)} {z : List D}, (∀ t ∈ usPs ps, fget fr t = fget fr' t) → bldD fr z ps = bldD fr' z ps
  | [], _, _ => rfl
  | (o, k, g, x) :: ps, z, h => by
    simp only [usPs, List.mem_append] at h
    simp only [bldD]
    rw [av_congr fun t ht => h t (.inl ht)]
    split
    · split
      · exact bldD_congr fun t ht => h t (.inr ht)
      · rfl
    · rfl

theorem cellsAll_congr {k : Nat} {g : Bool} : ∀ {xs : List A}, (∀ t ∈ usAs xs, fget fr t = fget fr' t) → cellsAll fr k g xs = cellsAll fr' k g xs
  | [], _ => rfl
  | x :: xs, h => by
    simp only [usAs, List.mem_append] at h
    simp only [cellsAll]
    rw [av_congr fun t ht => h t (.inl ht), cellsAll_congr fun t ht => h t (.inr ht)]

theorem evR_congr {r : R} (h : ∀ t ∈ usR r, fget fr t = fget fr' t) : evR cf fr S r = evR cf fr' S r := by
  cases r <;> simp only [usR, List.mem_append] at h <;> simp only [evR]
  case mv x => rw [av_congr h]
  case nilck x => rw [av_congr h]
  case pick c a b => rw [av_congr fun t ht => h t (.inl ht), av_congr (x := a) fun t ht => h t (.inr (.inl ht)), av_congr (x := b) fun t ht => h t (.inr (.inr ht))]
  case box k g x => rw [av_congr h]
  case bld z ps => rw [bldD_congr h]
  case bsl k g own xs => rw [cellsAll_congr h]
  case ld k g x => rw [av_congr h]
  case st k g a v => rw [av_congr fun t ht => h t (.inl ht), av_congr (x := v) fun t ht => h t (.inr ht)]
  case bin op q x y => rw [av_congr fun t ht => h t (.inl ht), av_congr (x := y) fun t ht => h t (.inr ht)]
  case un op x => rw [av_congr h]
  case conv k x => rw [av_congr h]
  case mkfn g cs => rw [avs_congr h]
  case mksl k arr z n => rw [av_congr h]
  case slc k x lo hi => rw [av_congr fun t ht => h t (.inl ht), avo_congr (x := lo) fun t ht => h t (.inr (.inl ht)), avo_congr (x := hi) fun t ht => h t (.inr (.inr ht))]
  case slcs x lo hi => rw [av_congr fun t ht => h t (.inl ht), avo_congr (x := lo) fun t ht => h t (.inr (.inl ht)), avo_congr (x := hi) fun t ht => h t (.inr (.inr ht))]
  case fa o x => rw [av_congr h]
  case fld o k g x => rw [av_congr h]
  case ia k x i => rw [av_congr fun t ht => h t (.inl ht), av_congr (x := i) fun t ht => h t (.inr ht)]
  case iaa n k x i => rw [av_congr fun t ht => h t (.inl ht), av_congr (x := i) fun t ht => h t (.inr ht)]
  case ixs x i => rw [av_congr fun t ht => h t (.inl ht), av_congr (x := i) fun t ht => h t (.inr ht)]
  case lk kk ok z m key => rw [av_congr fun t ht => h t (.inl ht), av_congr (x := key) fun t ht => h t (.inr ht)]
  case mu kk m key v => rw [av_congr fun t ht => h t (.inl ht), av_congr (x := key) fun t ht => h t (.inr (.inl ht)), av_congr (x := v) fun t ht => h t (.inr (.inr ht))]
  case ment kk z m key => rw [av_congr fun t ht => h t (.inl ht), av_congr (x := key) fun t ht => h t (.inr ht)]
  case est m j v => rw [av_congr fun t ht => h t (.inl ht), av_congr (x := j) fun t ht => h t (.inr (.inl ht)), av_congr (x := v) fun t ht => h t (.inr (.inr ht))]
  case ext x j => rw [av_congr h]
  case len str x => rw [av_congr h]
  case app k arr x y => rw [av_congr fun t ht => h t (.inl ht), av_congr (x := y) fun t ht => h t (.inr ht)]
  case mx x y => rw [av_congr fun t ht => h t (.inl ht), av_congr (x := y) fun t ht => h t (.inr ht)]
  case mn x y => rw [av_congr fun t ht => h t (.inl ht), av_congr (x := y) fun t ht => h t (.inr ht)]
  case clr k z x => rw [av_congr h]
  case call g iso args => rw [avs_congr h]
  case calld f iso args => rw [av_congr fun t ht => h t (.inl ht), avs_congr fun t ht => h t (.inr ht)]
  case cmps x y => rw [av_congr fun t ht => h t (.inl ht), av_congr (x := y) fun t ht => h t (.inr ht)]

theorem wanted_congr {gd : Option (Nat × Bool)} (h : ∀ t ∈ usG gd, fget fr t = fget fr' t) : DE.wanted fr gd = DE.wanted fr' gd := by
  cases gd with
  | none => rfl
  | some p =>
    obtain ⟨t, b⟩ := p
    simp only [DE.wanted]
    rw [h t (by simp [usG])]

theorem map_snd {α β : Type} {x : Option α} {f : α → β} {T : Store} {r : β × Store} (h : (x.map fun y => (f y, T)) = some r) : r.2 = T := by
  cases x with
  | none => cases h
  | some y => simp at h; rw [← h]

/-- An operation that is no writing leaves the store. -/
theorem evR_same {r : R} {d : D} (hk : kdX r = false) (h : evR cf fr S r = some (d, S')) : S' = S := by
  cases r <;> simp only [kdX, kdR] at hk <;> (try (cases hk; done)) <;> simp only [evR] at h
  case mv x => injection h with h; injection h with _ h; exact h.symm
  case nilck x => split at h <;> first | (injection h with h; injection h with _ h; exact h.symm) | cases h
  case pick c a b => split at h <;> first | (injection h with h; injection h with _ h; exact h.symm) | cases h
  case bld z ps => exact map_snd h
  case bsl k g own xs =>
    cases hc : cellsAll fr k g xs with
    | none => simp [hc] at h
    | some l =>
      have hl := cellsAll_length hc
      simp only [hc, Option.map_some, Option.some.injEq] at h
      cases own with
      | false => simp at h; exact h.2.symm
      | true =>
        cases xs with
        | nil =>
          have : l = [] := List.eq_nil_of_length_eq_zero (by simpa using hl)
          subst this
          simp at h; exact h.2.symm
        | cons x xs => simp at hk
  case ld k g x => exact map_snd h
  case bin op q x y => exact map_snd h
  case un op x => exact map_snd h
  case conv k x => split at h <;> first | (injection h with h; injection h with _ h; exact h.symm) | cases h
  case mkfn g cs => injection h with h; injection h with _ h; exact h.symm
  case slc k x lo hi => exact map_snd h
  case slcs x lo hi => exact map_snd h
  case fa o x => split at h <;> first | (injection h with h; injection h with _ h; exact h.symm) | cases h
  case fld o k g x =>
    split at h
    · exact map_snd h
    · cases h
  case ia k x i => exact map_snd h
  case iaa n k x i =>
    split at h
    · split at h
      · injection h with h; injection h with _ h; exact h.symm
      · cases h
    · cases h
  case ixs x i =>
    split at h
    · split at h
      · exact map_snd h
      · cases h
    · cases h
  case lk kk ok z m key =>
    split at h
    · split at h
      · injection h with h; injection h with _ h; exact h.symm
      · split at h
        · split at h <;> first | (injection h with h; injection h with _ h; exact h.symm) | cases h
        · cases h
      · cases h
    · cases h
  case ext x j =>
    split at h
    · exact map_snd h
    · cases h
  case len str x => split at h <;> first | (injection h with h; injection h with _ h; exact h.symm) | cases h
  case mx x y =>
    split at h
    · split at h
      · injection h with h; injection h with _ h; exact h.symm
      · cases h
    · cases h
  case mn x y =>
    split at h
    · split at h
      · injection h with h; injection h with _ h; exact h.symm
      · cases h
    · cases h
  case call g iso args =>
    cases iso with
    | false => simp at hk
    | true => simp only [callR, if_true] at h; exact map_snd h
  case calld f iso args =>
    cases iso with
    | false => simp at hk
    | true =>
      split at h
      · simp only [callR, if_true] at h; exact map_snd h
      · cases h
  case cmps x y => split at h <;> first | (injection h with h; injection h with _ h; exact h.symm) | cases h

theorem map_any {α β : Type} {x : Option α} {f : α → β} {T T' : Store} {d : β} (h : (x.map fun y => (f y, T)) = some (d, T)) : (x.map fun y => (f y, T')) = some (d, T') := by
  cases x with
  | none => cases h
  | some y => simp at h ⊢; exact h

/-- An operation that has nothing to do with the store says the same at each. -/
theorem evR_any {r : R} {d : D} (hk : kdP r = true) (h : evR cf fr S r = some (d, S)) (T : Store) : evR cf fr T r = some (d, T) := by
  cases r <;> simp only [kdP, kdR] at hk <;> (try (cases hk; done)) <;> simp only [evR] at h ⊢
  case mv x => injection h with h; injection h with h _; rw [h]
  case nilck x => split at h <;> first | (injection h with h; injection h with h _; rw [← h]) | cases h
  case pick c a b => split at h <;> first | (injection h with h; injection h with h _; rw [← h]) | cases h
  case bld z ps => exact map_any h
  case bsl k g own xs =>
    cases hc : cellsAll fr k g xs with
    | none => simp [hc] at h
    | some l =>
      have hl := cellsAll_length hc
      simp only [hc, Option.map_some, Option.some.injEq] at h ⊢
      cases own with
      | false => simp at h ⊢; exact h
      | true =>
        cases xs with
        | nil =>
          have : l = [] := List.eq_nil_of_length_eq_zero (by simpa using hl)
          subst this
          simp at h ⊢; exact h
        | cons x xs => simp at hk
  case bin op q x y => exact map_any h
  case un op x => exact map_any h
  case conv k x => split at h <;> first | (injection h with h; injection h with h _; rw [← h]) | cases h
  case mkfn g cs => injection h with h; injection h with h _; rw [h]
  case slc k x lo hi => exact map_any h
  case slcs x lo hi => exact map_any h
  case fa o x => split at h <;> first | (injection h with h; injection h with h _; rw [← h]) | cases h
  case fld o k g x =>
    split at h
    · exact map_any h
    · cases h
  case ia k x i => exact map_any h
  case iaa n k x i =>
    split at h
    · split at h
      · rename_i hc
        rw [if_pos hc]
        injection h with h; injection h with h _; rw [h]
      · cases h
    · cases h
  case ixs x i =>
    split at h
    · split at h
      · rename_i hc
        rw [if_pos hc]
        exact map_any h
      · cases h
    · cases h
  case ext x j =>
    split at h
    · exact map_any h
    · cases h
  case len str x => split at h <;> first | (injection h with h; injection h with h _; rw [← h]) | cases h
  case mx x y =>
    split at h
    · split at h
      · rename_i hc
        rw [if_pos hc]
        injection h with h; injection h with h _; rw [h]
      · cases h
    · cases h
  case mn x y =>
    split at h
    · split at h
      · rename_i hc
        rw [if_pos hc]
        injection h with h; injection h with h _; rw [h]
      · cases h
    · cases h
  case call g iso args =>
    cases iso with
    | false => simp at hk
    | true => simp only [callR, if_true] at h ⊢; exact map_any h
  case calld f iso args =>
    cases iso with
    | false => simp at hk
    | true =>
      split at h
      · simp only [callR, if_true] at h ⊢; exact map_any h
      · cases h
  case cmps x y => split at h <;> first | (injection h with h; injection h with h _; rw [← h]) | cases h

end

end Go.Proofs.YtjlmeikcfdanmaaGreatDoor.DE
