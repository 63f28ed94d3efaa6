/-
  OPERATIONS THAT LEAVE THE WORLD ALONE: what the evaluator says of them, the program does.
-/
import Derived.Test.YtjlmeikcfdanmaaGreatDoorDe4
import Derived.Laws.StructEq
namespace Go.Proofs.YtjlmeikcfdanmaaGreatDoor.DE
open Go

section
variable {P : Program} {dp : Nat → Option Fn} {F F' : Fix} {G G' : List Gh} {w w' : World} {S S' : Store} {a : Act} {fr : List D} {o : Oper} {d : D}

/-- The operation gives a value and leaves the world alone. -/
def Pur (P : Program) (dp : Nat → Option Fn) (F : Fix) (G : List Gh) (w : World) (a : Act) (o : Oper) (d : D) : Prop :=
  ∃ v, (execOp a.eval o).run P w = .ok (.value v) w ∧ Rel dp F G w v d

theorem pur_mv {y : A} (hm : mR P dp o.op (.mv y) = true) (hf : Fr dp F G w a fr) : Pur P dp F G w a o (av fr y) := by
  simp only [mR] at hm
  split at hm
  · rename_i x ho
    exact ⟨a.eval x, by simp only [execOp, ho, Sem.run_pure], hf.eval hm⟩
  · rename_i x ho
    exact ⟨a.eval x, by simp only [execOp, ho, Sem.run_pure], hf.eval hm⟩
  · cases hm

theorem pur_nilck {y : A} (hm : mR P dp o.op (.nilck y) = true) (hf : Fr dp F G w a fr)
    (he : (match av fr y with | .bx _ _ => true | .el _ _ => true | .fn _ _ => true | _ => false) = true) : Pur P dp F G w a o (av fr y) := by
  simp only [mR] at hm
  split at hm
  · rename_i x ho
    have hr := hf.eval hm
    refine ⟨a.eval x, ?_, hr⟩
    simp only [execOp, ho]
    generalize a.eval x = v at hr
    generalize av fr y = e at hr he
    cases hr <;> simp at he <;> simp
  · cases hm

theorem pur_pick {c x y : A} {t : Bool} (hm : mR P dp o.op (.pick c x y) = true) (hf : Fr dp F G w a fr) (he : av fr c = .b t) :
    Pur P dp F G w a o (if t then av fr x else av fr y) := by
  simp only [mR] at hm
  split at hm
  · rename_i c' x' y' ho
    simp only [Bool.and_eq_true] at hm
    obtain ⟨⟨h1, h2⟩, h3⟩ := hm
    have hc := hf.eval h1
    rw [he] at hc
    generalize hv : a.eval c' = v at hc
    cases hc
    refine ⟨if t then a.eval x' else a.eval y', ?_, ?_⟩
    · simp only [execOp, ho, hv, asBool, Sem.run_bind, Sem.run_pure, Result.andThen]
    · cases t
      · exact hf.eval h3
      · exact hf.eval h2
  · cases hm

theorem rel_oneCell {v : Value} (h : Rel dp F G w v d) (hd : isCell d = true) : v.oneCell' = true ∧ v.cells = #[v] := by
  cases h <;> first | (simp [isCell] at hd; done) | exact ⟨rfl, rfl⟩

theorem cellsK_rel {k : Nat} {g : Bool} {v : Value} {cs : List D} (h : Rel dp F G w v d) (hc : cellsK k g d = some cs) :
    cs.length = (if g then k else 1) ∧ v.cells.size = cs.length ∧ (∀ (j : Nat) (u : Value) (e : D), v.cells[j]? = some u → cs[j]? = some e → Rel dp F G w u e ∧ isCell e = true) := by
  cases g with
  | true =>
    simp only [cellsK] at hc
    split at hc
    · rename_i cs'
      split at hc
      · rename_i hl
        injection hc with hc
        subst hc
        cases h with
        | agg vs ds hl2 h =>
          exact ⟨by simpa using hl.1, hl2, fun j u e hu he => ⟨h j u e hu he, allCell_get hl.2 he⟩⟩
      · cases hc
    · cases hc
  | false =>
    simp only [cellsK] at hc
    split at hc
    · rename_i hd
      injection hc with hc
      subst hc
      obtain ⟨h1, h2⟩ := rel_oneCell h hd
      refine ⟨by simp, by simp [h2], fun j u e hu he => ?_⟩
      cases j with
      | zero =>
        rw [h2] at hu
        simp at hu he
        subst hu he
        exact ⟨h, hd⟩
      | succ j => simp at he
    · cases hc

theorem pur_ext {y : A} {j : Nat} {cs : List D} (hm : mR P dp o.op (.ext y j) = true) (hf : Fr dp F G w a fr) (he : av fr y = .tup cs) (hd : cs[j]? = some d) : Pur P dp F G w a o d := by
  simp only [mR] at hm
  split at hm
  · rename_i x i ho
    simp only [Bool.and_eq_true, beq_iff_eq] at hm
    obtain ⟨rfl, h⟩ := hm
    have hr := hf.eval h
    rw [he] at hr
    generalize hv : a.eval x = v at hr
    cases hr with
    | tup vs ds hl h =>
      have hlt : i < vs.size := by rw [hl]; exact (List.getElem?_eq_some_iff.1 hd).1
      refine ⟨vs[i], ?_, h i vs[i] d (Array.getElem?_eq_getElem hlt) hd⟩
      simp only [execOp, ho, hv, Instr.extract, Array.getElem?_eq_getElem hlt, Sem.run_bind, Sem.run_pure, Result.andThen]
  · cases hm

theorem pur_conv {k k' : IntKind} {y : A} {n : Int} (hm : mR P dp o.op (.conv k y) = true) (hf : Fr dp F G w a fr) (he : av fr y = .i k' n) : Pur P dp F G w a o (.i k (k.wrap n)) := by
  simp only [mR] at hm
  split at hm
  · rename_i s t x ho
    simp only [Bool.and_eq_true] at hm
    obtain ⟨⟨h1, h2⟩, h3⟩ := hm
    have hr := hf.eval h3
    rw [he] at hr
    generalize hv : a.eval x = v at hr
    cases hr
    obtain ⟨ds, hds⟩ := Option.isSome_iff_exists.1 h1
    unfold mU at h2
    split at h2
    · rename_i dt hdt
      dsimp only at h2
      split at h2
      · simp only [decide_eq_true_eq] at h2
        subst h2
        refine ⟨.int k (k.wrap n), ?_, .i _ _⟩
        simp only [execOp, ho, hv, convert, Sem.run_bind, run_underlying hds, run_underlying hdt, Result.andThen, Conv.intToInt, Sem.run_pure]
      · cases h2
    · cases h2
  · cases hm

theorem pur_mkfn {g : Nat} {ys : List A} (hm : mR P dp o.op (.mkfn g ys) = true) (hf : Fr dp F G w a fr) : Pur P dp F G w a o (.fn g (avs fr ys)) := by
  simp only [mR] at hm
  split at hm
  · rename_i f first captured ho
    simp only [Bool.and_eq_true] at hm
    obtain ⟨⟨h1, h2⟩, h3⟩ := hm
    obtain ⟨e1, e2, e3⟩ := hf.evals h3
    unfold mF at h2
    split at h2
    · rename_i x hx
      simp only [beq_iff_eq] at h2
      subst h2
      refine ⟨.func (.func x.real) #[] (captured.map a.eval), ?_, .fn g x hx _ _ (by simp [e2]; simpa using e1) fun j v d hv hd => e3 j v d (by simpa using hv) hd⟩
      have hfi : first.map a.eval = #[] := by
        have : first = #[] := by simpa using h1
        simp [this]
      simp only [execOp, ho, Instr.makeFunc, hfi, Sem.run_bind, Sem.run_pure, Result.andThen]
    · cases h2
  · cases hm

theorem pur_un {op : UnOp} {y : A} (hm : mR P dp o.op (.un op y) = true) (hf : Fr dp F G w a fr) (he : unD op (av fr y) = some d) : Pur P dp F G w a o d := by
  simp only [mR] at hm
  split at hm
  · rename_i op' t x ho
    simp only [Bool.and_eq_true, decide_eq_true_eq] at hm
    obtain ⟨rfl, h⟩ := hm
    have hr := hf.eval h
    unfold unD at he
    split at he
    · rename_i z heq
      rw [heq] at hr
      generalize hv : a.eval x = v at hr
      cases hr
      injection he with he
      subst he
      exact ⟨.bool (!z), by simp only [execOp, ho, hv, Op.unary, Sem.run_bind, Sem.run_pure, Result.andThen], .b _⟩
    · rename_i k n heq
      rw [heq] at hr
      generalize hv : a.eval x = v at hr
      cases hr
      injection he with he
      subst he
      exact ⟨.int k (k.wrap (0 - n)), by simp only [execOp, ho, hv, Op.unary, Op.intArith, Sem.run_bind, Sem.run_pure, Result.andThen], .i _ _⟩
    · rename_i k n heq
      rw [heq] at hr
      generalize hv : a.eval x = v at hr
      cases hr
      simp only [intOp] at he
      injection he with he
      subst he
      exact ⟨_, by simp only [execOp, ho, hv, Op.unary, Op.intBits, Sem.run_bind, Sem.run_pure, Result.andThen], .i _ _⟩
    · cases he
  · cases hm

theorem pur_mx {y z : A} {k : IntKind} {m n : Int} (hm : mR P dp o.op (.mx y z) = true) (hf : Fr dp F G w a fr) (h1 : av fr y = .i k m) (h2 : av fr z = .i k n) :
    Pur P dp F G w a o (.i k (if n > m then n else m)) := by
  simp only [mR] at hm
  split at hm
  · rename_i c ho
    simp only [Bool.and_eq_true] at hm
    obtain ⟨hb, hargs⟩ := hm
    split at hb
    · rename_i hcal
      obtain ⟨e1, e2, e3⟩ := hf.evals hargs
      have hl : c.args.toList.length = 2 := by rw [e1]; rfl
      match hx : c.args.toList, hl with
      | [x1, x2], _ =>
        rw [hx] at hargs
        simp only [mAs, Bool.and_eq_true] at hargs
        have r1 := hf.eval hargs.1
        have r2 := hf.eval hargs.2.1
        rw [h1] at r1; rw [h2] at r2
        generalize hv1 : a.eval x1 = v1 at r1
        generalize hv2 : a.eval x2 = v2 at r2
        cases r1; cases r2
        have hargs' : (c.args.map a.eval).toList = [.int k m, .int k n] := by simp [hx, hv1, hv2]
        refine ⟨.int k (if n > m then n else m), ?_, .i _ _⟩
        simp only [execOp, ho, resolve, hcal, Sem.run_bind, Sem.run_pure, Result.andThen, invoke, builtin, Builtin.max_, hargs', List.foldlM_cons, List.foldlM_nil, Builtin.max2]
    · cases hb
  · cases hm

theorem pur_mn {y z : A} {k : IntKind} {m n : Int} (hm : mR P dp o.op (.mn y z) = true) (hf : Fr dp F G w a fr) (h1 : av fr y = .i k m) (h2 : av fr z = .i k n) :
    Pur P dp F G w a o (.i k (if n < m then n else m)) := by
  simp only [mR] at hm
  split at hm
  · rename_i c ho
    simp only [Bool.and_eq_true] at hm
    obtain ⟨hb, hargs⟩ := hm
    split at hb
    · rename_i hcal
      obtain ⟨e1, e2, e3⟩ := hf.evals hargs
      have hl : c.args.toList.length = 2 := by rw [e1]; rfl
      match hx : c.args.toList, hl with
      | [x1, x2], _ =>
        rw [hx] at hargs
        simp only [mAs, Bool.and_eq_true] at hargs
        have r1 := hf.eval hargs.1
        have r2 := hf.eval hargs.2.1
        rw [h1] at r1; rw [h2] at r2
        generalize hv1 : a.eval x1 = v1 at r1
        generalize hv2 : a.eval x2 = v2 at r2
        cases r1; cases r2
        have hargs' : (c.args.map a.eval).toList = [.int k m, .int k n] := by simp [hx, hv1, hv2]
        refine ⟨.int k (if n < m then n else m), ?_, .i _ _⟩
        simp only [execOp, ho, resolve, hcal, Sem.run_bind, Sem.run_pure, Result.andThen, invoke, builtin, Builtin.min_, hargs', List.foldlM_cons, List.foldlM_nil, Builtin.min2]
    · cases hb
  · cases hm

theorem pur_len {str : Bool} {y : A} {n : Nat} (hm : mR P dp o.op (.len str y) = true) (hf : Fr dp F G w a fr)
    (he : (match str, av fr y with | false, .sl _ _ xs _ => some xs.length | false, .ar _ _ _ n => some n | true, .s l => some l.length | _, _ => none) = some n) : Pur P dp F G w a o (.i .i64 n) := by
  simp only [mR] at hm
  split at hm
  · rename_i c ho
    simp only [Bool.and_eq_true] at hm
    obtain ⟨⟨hb, ht⟩, hargs⟩ := hm
    split at hb
    · rename_i hcal
      split at ht
      · rename_i t ts hts
        have hat : c.argTypes[0]? = some t := by
          rw [← Array.getElem?_toList, hts]; rfl
        obtain ⟨e1, e2, e3⟩ := hf.evals hargs
        have hl : c.args.toList.length = 1 := by rw [e1]; rfl
        match hx : c.args.toList, hl with
        | [x1], _ =>
          rw [hx] at hargs
          simp only [mAs, Bool.and_eq_true] at hargs
          have r1 := hf.eval hargs.1
          have ha0 : (c.args.map a.eval)[0]? = some (a.eval x1) := by
            rw [← Array.getElem?_toList]; simp [hx]
          unfold mU at ht
          split at ht
          · rename_i td htd
            dsimp only at ht
            refine ⟨goInt n, ?_, by exact .i _ _⟩
            simp only [execOp, ho, resolve, hcal, Sem.run_bind, Sem.run_pure, Result.andThen, invoke, builtin, Builtin.len_, hat, ha0, run_underlying htd]
            generalize a.eval x1 = v at r1
            generalize av fr y = e at r1 he
            split at ht
            · cases str
              · cases r1 <;> simp at he <;> subst he <;> rfl
              · simp at ht
            · cases str
              · simp at ht
              · cases r1 <;> simp at he <;> subst he <;> rfl
            · cases ht
          · cases ht
      · cases ht
    · cases hb
  · cases hm

end

end Go.Proofs.YtjlmeikcfdanmaaGreatDoor.DE
