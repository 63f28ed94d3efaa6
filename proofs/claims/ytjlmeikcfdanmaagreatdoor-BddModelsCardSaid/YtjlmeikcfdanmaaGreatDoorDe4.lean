/-
  WHICH OPERATION OF THE PROGRAM AN OPERATION OF THE EVALUATOR STANDS FOR; what an operation does to a world.
-/
import Derived.Test.YtjlmeikcfdanmaaGreatDoorDe3
import GoSem.Extern.BytealgCompare
namespace Go.Proofs.YtjlmeikcfdanmaaGreatDoor.DE
open Go

/-! ## Matching -/

def mV1 : Value → D → Bool
  | _, .top => true
  | .int k n, .i k' m => decide (k = k') && n == m
  | .bool a, .b c => a == c
  | .string s, .s l => s.data.toList == l
  | .slice none 0 0, .sl _ true [] _ => true
  | .map none, .nilm => true
  | .pointer none, .nilp => true
  | _, _ => false

def mVL : List Value → List D → Bool
  | [], [] => true
  | v :: l, d :: m => mV1 v d && mVL l m
  | _, _ => false

def mV : Value → D → Bool
  | .agg vs, .agg ds => mVL vs.toList ds
  | v, d => mV1 v d

section
variable (P : Program) (dp : Nat → Option Fn)

def mF (f : FuncId) (g : Nat) : Bool := match dp g with
  | some x => x.real == f
  | none => false

def mA : Operand → A → Bool
  | .tmp t, .t n => t == n
  | .const v, .c d => mV v d
  | .func f, .c (.fn g []) => mF dp f g
  | _, .c .top => true
  | _, _ => false

def mAs : List Operand → List A → Bool
  | [], [] => true
  | x :: l, y :: m => mA dp x y && mAs l m
  | _, _ => false

def mAo : Option Operand → Option A → Bool
  | none, none => true
  | some x, some y => mA dp x y
  | _, _ => false

/-- Type t has k cells; g: it is a struct or an array. -/
def mT (t : TypeId) (k : Nat) (g : Bool) : Bool :=
  (match P.info? t with | some i => i.size == k | none => false) &&
  (match P.underlying t with
  | some (.struct _) => g
  | some (.array _ _) => g
  | some _ => !g && k == 1
  | none => false)

def mSz (t : TypeId) (k : Nat) : Bool := match P.info? t with | some i => i.size == k | none => false

def mZ (t : TypeId) (z : List D) : Bool := match P.info? t with
  | some i => match i.zero with
    | some v => mVL v.cells.toList z && v.cells.toList.all Value.oneCell'
    | none => false
  | none => false

/-- The zero value of t, as one value. -/
def mZ1 (t : TypeId) (z : D) : Bool := match P.info? t with
  | some i => match i.zero with
    | some v => mV v z
    | none => false
  | none => false

def mU (t : TypeId) (p : TypeDesc → Bool) : Bool := match P.underlying t with | some d => p d | none => false

def isSliceOf (k : Nat) : TypeDesc → Bool
  | .slice e => mSz P e k
  | _ => false

def isString : TypeDesc → Bool
  | .string => true
  | _ => false

def mSK (t : TypeId) : SK → Bool
  | .i => mU P t fun d => match d with | .int _ => true | _ => false
  | .b => mU P t fun d => match d with | .bool => true | _ => false
  | .s => mU P t fun d => match d with | .string => true | _ => false

def flatFields : List Field → Nat → List SK → Bool
  | [], _, [] => true
  | f :: l, n, k :: ks => f.name != "_" && mSK P f.type k && mSz P f.type 1 && f.offset == n && flatFields l (n + 1) ks
  | _, _, _ => false

/-- t is a struct or an array of scalars of these kinds, all of which count in '=='. -/
def mFlat (t : TypeId) (ks : List SK) : Bool := match P.underlying t with
  | some (.struct fs) => !P.stoodInHeld t && !P.eqGuardType P.depth t && flatFields P fs.toList 0 ks
  | some (.array n e) => n == 2 && !P.eqGuardType P.depth t && ks.length == n && ks.all (mSK P e) && mSz P e 1
  | _ => false

/-- The type's kind in a comparison. -/
def mQ (t : TypeId) : Q → Bool
  | .num => true
  | .str => true
  | .bool => mU P t fun d => match d with | .bool => true | _ => false
  | .agg ks => mFlat P t ks
  | .sl => mU P t fun d => match d with | .slice _ => true | _ => false
  | .map => mU P t fun d => match d with | .map _ _ => true | _ => false

def mKey (t : TypeId) : KK → Bool
  | .one k => mSK P t k
  | .agg ks => mFlat P t ks

def mParts (places : List (Nat × TypeId)) : List (Nat × Operand) → List (Nat × Nat × Bool × A) → Bool
  | [], [] => true
  | (i, x) :: l, (o, k, g, y) :: m => (match places[i]? with | some (off, t) => off == o && mT P t k g | none => false) && mA dp x y && mParts places l m
  | _, _ => false

def mElems (k : Nat) (g : Bool) : Nat → List (Nat × Operand) → List A → Bool
  | _, [], [] => true
  | n, (i, x) :: l, y :: m => i == n && mA dp x y && mElems k g (n + 1) l m
  | _, _, _ => false

def mCallee (f : FuncId) : Bool := match P.funcs[f]? with
  | some fn => fn.name != "runtime.NumGoroutine" && fn.body.isSome
  | none => false

def mR (o : Op) : R → Bool
  | .mv y => match o with
    | .move x => mA dp x y
    | .assign x => mA dp x y
    | _ => false
  | .nilck y => match o with
    | .nilCheck x => mA dp x y
    | _ => false
  | .pick c a b => match o with
    | .pick c' a' b' => mA dp c' c && mA dp a' a && mA dp b' b
    | _ => false
  | .alloc z => match o with
    | .alloc t => mZ P t z
    | _ => false
  | .box k g y => match o with
    | .box t x => mT P t k g && mA dp x y
    | _ => false
  | .bld z ps => match o with
    | .build t parts => mZ P t z && (match P.underlying t with
      | some (.struct fs) => fs.toList.all (fun f => (P.info? f.type).isSome) && mParts P dp (fs.toList.map fun f => (f.offset, f.type)) parts.toList ps
      | some (.array n e) => (match P.info? e with | some i => mParts P dp ((List.range n).map fun j => (j * i.size, e)) parts.toList ps | none => false)
      | _ => false)
    | _ => false
  | .bsl k g _ ys => match o with
    | .buildSlice t len parts => (match P.underlying t with
      | some (.slice e) => mT P e k g && decide (0 < k) && decide (k ≤ 4096) && len == ys.length && decide (len ≤ 1024) && (match P.info? e with | some i => (match i.zero with | some v => v.cells.size == k | none => false) | none => false) && mElems dp k g 0 parts.toList ys
      | _ => false)
    | _ => false
  | .ld k g y => match o with
    | .load t x => mT P t k g && mA dp x y
    | _ => false
  | .st k g y u => match o with
    | .store t x v => mT P t k g && mA dp x y && mA dp v u
    | _ => false
  | .bin op q y z => match o with
    | .binOp op' t x v _ => decide (op = op') && mQ P t q && mA dp x y && mA dp v z
    | _ => false
  | .un op y => match o with
    | .unOp op' _ x => decide (op = op') && mA dp x y
    | _ => false
  | .conv k y => match o with
    | .convert s d x => (P.underlying s).isSome && mU P d (fun d => match d with | .int k' => decide (k = k') | _ => false) && mA dp x y
    | _ => false
  | .mkfn g ys => match o with
    | .makeFunc (.func f) first captured => first.isEmpty && mF dp f g && mAs dp captured.toList ys
    | _ => false
  | .mkmap => match o with
    | .makeMap _ none => true
    | _ => false
  | .mksl k _ z y => match o with
    | .makeSlice t x c => (match P.underlying t with
      | some (.slice e) => mSz P e k && mZ P e z && z.length == k && decide (0 < k) && (match P.info? e with | some i => decide (i.bytes ≤ 65536) | none => false)
      | _ => false) && mA dp x y && mA dp c y
    | _ => false
  | .slc k y lo hi => match o with
    | .slice t x l h none => mU P t (isSliceOf P k) && mA dp x y && mAo dp l lo && mAo dp h hi
    | _ => false
  | .slcs y lo hi => match o with
    | .slice t x l h none => mU P t isString && mA dp x y && mAo dp l lo && mAo dp h hi
    | _ => false
  | .fa off y => match o with
    | .fieldAddr t x j => (match P.underlying t with
      | some (.struct fs) => (match fs[j]? with | some f => f.offset == off && (match P.info? f.type with | some i => i.size != 0 | none => false) | none => false)
      | _ => false) && mA dp x y
    | _ => false
  | .fld off k g y => match o with
    | .field t x j => (match P.underlying t with
      | some (.struct fs) => (match fs[j]? with | some f => f.offset == off && mT P f.type k g | none => false)
      | _ => false) && mA dp x y
    | _ => false
  | .ia k y j => match o with
    | .indexAddr t x i => mU P t (isSliceOf P k) && mA dp x y && mA dp i j
    | _ => false
  | .iaa n k y j => match o with
    | .indexAddr t x i => mU P t (fun d => match d with | .array m e => m == n && mSz P e k | _ => false) && mA dp x y && mA dp i j
    | _ => false
  | .ixs y j => match o with
    | .index t x i => mU P t isString && mA dp x y && mA dp i j
    | _ => false
  | .lk kk ok z y key => match o with
    | .lookup t x i ok' => ok == ok' && (match P.underlying t with | some (.map kt et) => mKey P kt kk && mZ1 P et z | _ => false) && mA dp x y && mA dp i key
    | _ => false
  | .mu kk y key v => match o with
    | .mapUpdate t x i u => (match P.underlying t with | some (.map kt _) => mKey P kt kk | _ => false) && mA dp x y && mA dp i key && mA dp u v
    | .insert t x i u => (match P.underlying t with | some (.map kt _) => mKey P kt kk | _ => false) && mA dp x y && mA dp i key && mA dp u v
    | _ => false
  | .ment kk z y key => match o with
    | .mapEntry t x i => (match P.underlying t with | some (.map kt et) => mKey P kt kk && mZ1 P et z | _ => false) && mA dp x y && mA dp i key
    | _ => false
  | .est y j v => match o with
    | .entryStore _ x i u => mA dp x y && mA dp i j && mA dp u v
    | _ => false
  | .ext y j => match o with
    | .extract x i => i == j && mA dp x y
    | _ => false
  | .len str y => match o with
    | .call c => (match c.callee with | .builtin .len => true | _ => false) && (match c.argTypes.toList with | t :: _ => mU P t (fun d => match d with | .slice _ => !str | .string => str | _ => false) | _ => false) && mAs dp c.args.toList [y]
    | _ => false
  | .app k _ y z => match o with
    | .call c => (match c.callee with | .builtin .append => true | _ => false) && (match c.argTypes.toList with
        | [t, u] => (match P.underlying t with
          | some (.slice e) => mSz P e k && decide (0 < k) && (match P.info? e with | some i => decide (i.bytes ≤ 65536) && (match i.zero with | some v => v.cells.size == k && v.cells.toList.all Value.oneCell' | none => false) | none => false)
          | _ => false) && mU P u (fun d => match d with | .slice _ => true | _ => false)
        | _ => false) && mAs dp c.args.toList [y, z]
    | _ => false
  | .mx y z => match o with
    | .call c => (match c.callee with | .builtin .max => true | _ => false) && mAs dp c.args.toList [y, z]
    | _ => false
  | .mn y z => match o with
    | .call c => (match c.callee with | .builtin .min => true | _ => false) && mAs dp c.args.toList [y, z]
    | _ => false
  | .clr k z y => match o with
    | .call c => (match c.callee with | .builtin .clear => true | _ => false) && (match c.argTypes.toList with
        | [t] => (match P.underlying t with | some (.slice e) => mSz P e k && mZ P e z | _ => false)
        | _ => false) && mAs dp c.args.toList [y]
    | _ => false
  | .call g _ ys => match o with
    | .call c => (match c.callee with | .value (.func f) => mF dp f g | _ => false) && mAs dp c.args.toList ys
    | _ => false
  | .calld y _ ys => match o with
    | .call c => (match c.callee with | .value x => mA dp x y | _ => false) && mAs dp c.args.toList ys
    | _ => false
  | .cmps y z => match o with
    | .call c => (match c.callee with
      | .value (.func f) => (match P.funcs[f]? with | some fn => fn.name == "internal/bytealg.abigen_runtime_cmpstring" && fn.body.isNone && (Extern.findNext fn).isNone | none => false)
      | _ => false) && mAs dp c.args.toList [y, z]
    | _ => false

end

/-! ## Operands -/

section
variable {P : Program} {dp : Nat → Option Fn} {F F' : Fix} {G G' : List Gh} {w w' : World} {S S' : Store}

theorem mV1_rel {v : Value} {d : D} (h : mV1 v d = true) : Rel dp F G w v d := by
  unfold mV1 at h
  split at h
  · exact .top _
  · simp only [Bool.and_eq_true, decide_eq_true_eq, beq_iff_eq] at h
    obtain ⟨rfl, rfl⟩ := h
    exact .i _ _
  · simp only [beq_iff_eq] at h; subst h; exact .b _
  · rename_i s l
    simp only [beq_iff_eq] at h
    subst h
    exact .s _
  · exact .nil _ _
  · exact .nilm
  · exact .nilp
  · cases h

theorem mVL_get : ∀ {vs : List Value} {ds : List D} {j : Nat} {v : Value} {d : D}, mVL vs ds = true → vs[j]? = some v → ds[j]? = some d → mV1 v d = true
  | [], [], _, _, _, _, h, _ => by simp at h
  | [], _ :: _, _, _, _, h, _, _ => by simp [mVL] at h
  | _ :: _, [], _, _, _, h, _, _ => by simp [mVL] at h
  | x :: l, y :: m, 0, v, d, h, hv, hd => by
    simp only [mVL, Bool.and_eq_true] at h
    simp at hv hd
    subst hv hd
    exact h.1
  | x :: l, y :: m, j + 1, v, d, h, hv, hd => by
    simp only [mVL, Bool.and_eq_true] at h
    exact mVL_get h.2 (by simpa using hv) (by simpa using hd)

theorem mVL_length : ∀ {vs : List Value} {ds : List D}, mVL vs ds = true → vs.length = ds.length
  | [], [], _ => rfl
  | [], _ :: _, h => by simp [mVL] at h
  | _ :: _, [], h => by simp [mVL] at h
  | _ :: l, _ :: m, h => by
    simp only [mVL, Bool.and_eq_true] at h
    simp [mVL_length h.2]

theorem mV_rel {v : Value} {d : D} (h : mV v d = true) : Rel dp F G w v d := by
  unfold mV at h
  split at h
  · rename_i vs ds
    refine .agg vs ds (by simpa using mVL_length h) fun j v d hv hd => mV1_rel (mVL_get h ?_ hd)
    simpa using hv
  · exact mV1_rel h

/-- The frame's slots say what the evaluator's say. -/
structure Fr (dp : Nat → Option Fn) (F : Fix) (G : List Gh) (w : World) (a : Act) (fr : List D) : Prop where
  len : fr.length = a.tmps.size
  rel : ∀ t, Rel dp F G w (a.tmps.getD t undef) (fget fr t)

theorem Fr.ext {a : Act} {fr : List D} (h : Fr dp F G w a fr) (e : Ext F G w S F' G' w' S') : Fr dp F' G' w' a fr := ⟨h.len, fun t => (h.rel t).ext e⟩

theorem Fr.eval {a : Act} {fr : List D} (h : Fr dp F G w a fr) {x : Operand} {y : A} (hm : mA dp x y = true) : Rel dp F G w (a.eval x) (av fr y) := by
  unfold mA at hm
  split at hm
  · rename_i t n
    simp only [beq_iff_eq] at hm
    subst hm
    exact h.rel t
  · exact mV_rel hm
  · rename_i f g
    unfold mF at hm
    split at hm
    · rename_i x hx
      simp only [beq_iff_eq] at hm
      subst hm
      exact .fn g x hx #[] [] rfl (fun j v d hv => by simp at hv)
    · cases hm
  · exact .top _
  · cases hm

theorem Fr.evals {a : Act} {fr : List D} (h : Fr dp F G w a fr) : ∀ {xs : List Operand} {ys : List A}, mAs dp xs ys = true →
    xs.length = ys.length ∧ (avs fr ys).length = ys.length ∧ ∀ (j : Nat) (v : Value) (d : D), (xs.map a.eval)[j]? = some v → (avs fr ys)[j]? = some d → Rel dp F G w v d
  | [], [], _ => ⟨rfl, rfl, fun j v d hv => by simp at hv⟩
  | [], _ :: _, hm => by simp [mAs] at hm
  | _ :: _, [], hm => by simp [mAs] at hm
  | x :: l, y :: m, hm => by
    simp only [mAs, Bool.and_eq_true] at hm
    obtain ⟨h1, h2, h3⟩ := h.evals hm.2
    refine ⟨by simp [h1], by simp [avs, h2], fun j v d hv hd => ?_⟩
    cases j with
    | zero =>
      simp [avs] at hv hd
      subst hv hd
      exact h.eval hm.1
    | succ j => exact h3 j v d (by simpa using hv) (by simpa [avs] using hd)

theorem Fr.put {a : Act} {fr : List D} (h : Fr dp F G w a fr) (t : Option Nat) {v : Value} {d : D} (hv : Rel dp F G w v d) : Fr dp F G w (a.put t v) (fsetO fr t d) := by
  cases t with
  | none => exact h
  | some t =>
    refine ⟨by simp [fsetO, fset_length, Act.put, h.len], fun u => ?_⟩
    simp only [fsetO, fget_fset, Act.put]
    by_cases hu : u = t ∧ t < fr.length
    · obtain ⟨rfl, hu⟩ := hu
      rw [if_pos ⟨rfl, hu⟩]
      rw [h.len] at hu
      simpa [Array.getD, hu] using hv
    · rw [if_neg hu]
      have := h.rel u
      by_cases hut : u = t
      · subst hut
        have hlt : ¬ u < a.tmps.size := by rw [← h.len]; omega
        simpa [Array.getD, hlt] using this
      · have e : (a.tmps.setIfInBounds t v).getD u undef = a.tmps.getD u undef := by
          simp only [Array.getD_eq_getD_getElem?]
          rw [Array.getElem?_setIfInBounds_ne (Ne.symm hut)]
        rw [e]; exact this

theorem Fr.kill1 {a : Act} {fr : List D} (h : Fr dp F G w a fr) (t : Nat) : Fr dp F G w a (fset fr t .top) := by
  refine ⟨by simp [fset_length, h.len], fun u => ?_⟩
  rw [fget_fset]
  split
  · exact .top _
  · exact h.rel u

theorem Fr.kill {a : Act} {fr : List D} (h : Fr dp F G w a fr) : ∀ l : List Nat, Fr dp F G w a (fkill fr l) := by
  intro l
  induction l generalizing fr with
  | nil => exact h
  | cons t l ih => exact ih (h.kill1 t)

end

end Go.Proofs.YtjlmeikcfdanmaaGreatDoor.DE
