/-
  NARROWER THAN 'FOR EVERY INPUT', by the rows' own cells (each row's printed sentence says how): BddOperations: laid · BddBuild: loops, laid · BddValid: laid · BddModels: laid · BddCanonical: loops, laid · BddBoolean: laid · BddRestrict: laid.
  DERIVED. THE GIVEN ROWS OF THIS SEAT. 7 by the template 'for every input the law returns true; each argument reads behind the call as it read before'; 0 by the template 'total and deterministic' (their statements: YtjlmeikcfdanmaaGreatDoorTotals.lean).
  GIVEN WITH THE SEED: the statements are not yours to turn. If you find one false, say at which input.
  Laid BY PROGRAM, IN A SANDBOX (cutbox-rows.mjs): the forced cells as the released guide's own fill.sh prints them over the translation 30dc9e4ab1598940… (all of the seat's roots in one cut). By AI agents, Wed Nov 11 2026. No macro, syntax, notation, axiom, sorry.
-/
import Derived.Test.YtjlmeikcfdanmaaGreatDoorChecked
import GoSem.Claim
import GoSem.ClaimJoined
import GoSem.ClaimMapViews
import Derived.JoinedTies
import Derived.KernelRfl
namespace Go.Proofs.YtjlmeikcfdanmaaGreatDoor
/- THE CELL 'sum', in the pinned program and in every row, IS THE sha256 OF THE DUMP (.gsa) THAT YtjlmeikcfdanmaaGreatDoorProg.lean LOADS. Nothing in Lean hashes anything: it is a label: what it is worth is what the hold of that sum in a sandbox is worth. -/
noncomputable def Tryz.pinned : Pinned := { name := "ytjlmeikcfdanmaagreatdoor", sum := "30dc9e4ab15989402596c8326f79d5e2103ba9f6af0a3f85cb6acae03bfd2b28", checked := Tryz.checked }
namespace Rows
def none {H : Type} : Left H := { results := [], args := [] }

/- WHAT THE LISTED PACKAGE-LEVEL VARIABLES READ AS WHEN THE CALL BEGINS. Each datum BY PROGRAM (the guide's laid-datum.mjs) off the statement by which the dump's own 'gosem.cut.vars' lays the variable. In a bare row this is a premise. The card (YtjlmeikcfdanmaaGreatDoorCards.lean) ties it to the program's text. -/
def laid_math_bits_deBruijn32tab {H : Type} : DataW H := .agg [.lit (.int .u8 0), .lit (.int .u8 1), .lit (.int .u8 28), .lit (.int .u8 2), .lit (.int .u8 29), .lit (.int .u8 14), .lit (.int .u8 24), .lit (.int .u8 3), .lit (.int .u8 30), .lit (.int .u8 22), .lit (.int .u8 20), .lit (.int .u8 15), .lit (.int .u8 25), .lit (.int .u8 17), .lit (.int .u8 4), .lit (.int .u8 8), .lit (.int .u8 31), .lit (.int .u8 27), .lit (.int .u8 13), .lit (.int .u8 23), .lit (.int .u8 21), .lit (.int .u8 19), .lit (.int .u8 16), .lit (.int .u8 7), .lit (.int .u8 26), .lit (.int .u8 12), .lit (.int .u8 18), .lit (.int .u8 6), .lit (.int .u8 11), .lit (.int .u8 5), .lit (.int .u8 10), .lit (.int .u8 9)]
def laid_math_bits_deBruijn64tab {H : Type} : DataW H := .agg [.lit (.int .u8 0), .lit (.int .u8 1), .lit (.int .u8 56), .lit (.int .u8 2), .lit (.int .u8 57), .lit (.int .u8 49), .lit (.int .u8 28), .lit (.int .u8 3), .lit (.int .u8 61), .lit (.int .u8 58), .lit (.int .u8 42), .lit (.int .u8 50), .lit (.int .u8 38), .lit (.int .u8 29), .lit (.int .u8 17), .lit (.int .u8 4), .lit (.int .u8 62), .lit (.int .u8 47), .lit (.int .u8 59), .lit (.int .u8 36), .lit (.int .u8 45), .lit (.int .u8 43), .lit (.int .u8 51), .lit (.int .u8 22), .lit (.int .u8 53), .lit (.int .u8 39), .lit (.int .u8 33), .lit (.int .u8 30), .lit (.int .u8 24), .lit (.int .u8 18), .lit (.int .u8 12), .lit (.int .u8 5), .lit (.int .u8 63), .lit (.int .u8 55), .lit (.int .u8 48), .lit (.int .u8 27), .lit (.int .u8 60), .lit (.int .u8 41), .lit (.int .u8 37), .lit (.int .u8 16), .lit (.int .u8 46), .lit (.int .u8 35), .lit (.int .u8 44), .lit (.int .u8 21), .lit (.int .u8 52), .lit (.int .u8 32), .lit (.int .u8 23), .lit (.int .u8 11), .lit (.int .u8 54), .lit (.int .u8 26), .lit (.int .u8 40), .lit (.int .u8 15), .lit (.int .u8 34), .lit (.int .u8 20), .lit (.int .u8 31), .lit (.int .u8 10), .lit (.int .u8 25), .lit (.int .u8 14), .lit (.int .u8 19), .lit (.int .u8 9), .lit (.int .u8 13), .lit (.int .u8 8), .lit (.int .u8 7), .lit (.int .u8 6)]
def laid_internal_strconv_uint64pow10 {H : Type} : DataW H := .agg [.lit (.int .u64 1), .lit (.int .u64 10), .lit (.int .u64 100), .lit (.int .u64 1000), .lit (.int .u64 10000), .lit (.int .u64 100000), .lit (.int .u64 1000000), .lit (.int .u64 10000000), .lit (.int .u64 100000000), .lit (.int .u64 1000000000), .lit (.int .u64 10000000000), .lit (.int .u64 100000000000), .lit (.int .u64 1000000000000), .lit (.int .u64 10000000000000), .lit (.int .u64 100000000000000), .lit (.int .u64 1000000000000000), .lit (.int .u64 10000000000000000), .lit (.int .u64 100000000000000000), .lit (.int .u64 1000000000000000000), .lit (.int .u64 10000000000000000000)]

/-- 'lineagelaw11.BddOperations': WHATEVER THE INPUT: true; the input reads as it did. -/
def bddOperationsSpec : ChangeSpec := { name := "bddOperations", fn := fun _ => fun
  | [d1, d2, d3, d4, d5] => { results := [.lit (.bool true)], args := [d1, d2, d3, d4, d5] }
  | _ => none }
def bddOperationsRow : OpenClaim := { program := "ytjlmeikcfdanmaagreatdoor", sum := "30dc9e4ab15989402596c8326f79d5e2103ba9f6af0a3f85cb6acae03bfd2b28", func := "lineage/lineagelaw11.BddOperations", spec := "bddOperations", inPlace := ["internal/bytealg.abigen_runtime_cmpstring", "internal/abi.NoEscape", "internal/bytealg.MakeNoZero"], unfollowed := true, recurses := true, named := ["internal/strconv.uint64pow10", "math/bits.deBruijn32tab", "math/bits.deBruijn64tab"], plainKeys := false, apart := false, laid := [("math/bits.deBruijn32tab", laid_math_bits_deBruijn32tab), ("math/bits.deBruijn64tab", laid_math_bits_deBruijn64tab), ("internal/strconv.uint64pow10", laid_internal_strconv_uint64pow10)] }
def BddOperationsSaid : Prop := bddOperationsRow.holds Tryz.pinned (OpenSpec.ofChange bddOperationsSpec)

/-- ITS FALSE NEIGHBOUR: 'it returns false'. Refute it at one input. -/
def bddOperationsWrong : ChangeSpec := { name := "bddOperations", fn := fun _ => fun
  | [d1, d2, d3, d4, d5] => { results := [.lit (.bool false)], args := [d1, d2, d3, d4, d5] }
  | _ => none }
def BddOperationsWrongFalsely : Prop := bddOperationsRow.holds Tryz.pinned (OpenSpec.ofChange bddOperationsWrong)

/-- 'lineagelaw11.BddBuild': WHATEVER THE INPUT: true; the input reads as it did. -/
def bddBuildSpec : ChangeSpec := { name := "bddBuild", fn := fun _ => fun
  | [d1, d2, d3] => { results := [.lit (.bool true)], args := [d1, d2, d3] }
  | _ => none }
def bddBuildRow : OpenClaim := { program := "ytjlmeikcfdanmaagreatdoor", sum := "30dc9e4ab15989402596c8326f79d5e2103ba9f6af0a3f85cb6acae03bfd2b28", func := "lineage/lineagelaw11.BddBuild", spec := "bddBuild", inPlace := ["internal/bytealg.abigen_runtime_cmpstring", "internal/abi.NoEscape", "internal/bytealg.MakeNoZero"], unfollowed := true, recurses := true, named := ["internal/strconv.uint64pow10", "math/bits.deBruijn32tab", "math/bits.deBruijn64tab"], loops := true, plainKeys := false, apart := false, laid := [("math/bits.deBruijn32tab", laid_math_bits_deBruijn32tab), ("math/bits.deBruijn64tab", laid_math_bits_deBruijn64tab), ("internal/strconv.uint64pow10", laid_internal_strconv_uint64pow10)] }
def BddBuildSaid : Prop := bddBuildRow.holds Tryz.pinned (OpenSpec.ofChange bddBuildSpec)

/-- ITS FALSE NEIGHBOUR: 'it returns false'. Refute it at one input. -/
def bddBuildWrong : ChangeSpec := { name := "bddBuild", fn := fun _ => fun
  | [d1, d2, d3] => { results := [.lit (.bool false)], args := [d1, d2, d3] }
  | _ => none }
def BddBuildWrongFalsely : Prop := bddBuildRow.holds Tryz.pinned (OpenSpec.ofChange bddBuildWrong)

/-- 'lineagelaw11.BddValid': WHATEVER THE INPUT: true; the input reads as it did. -/
def bddValidSpec : ChangeSpec := { name := "bddValid", fn := fun _ => fun
  | [d1, d2] => { results := [.lit (.bool true)], args := [d1, d2] }
  | _ => none }
def bddValidRow : OpenClaim := { program := "ytjlmeikcfdanmaagreatdoor", sum := "30dc9e4ab15989402596c8326f79d5e2103ba9f6af0a3f85cb6acae03bfd2b28", func := "lineage/lineagelaw11.BddValid", spec := "bddValid", inPlace := ["internal/bytealg.abigen_runtime_cmpstring", "internal/abi.NoEscape", "internal/bytealg.MakeNoZero"], unfollowed := true, recurses := true, named := ["internal/strconv.uint64pow10", "math/bits.deBruijn32tab", "math/bits.deBruijn64tab"], plainKeys := false, apart := false, laid := [("math/bits.deBruijn32tab", laid_math_bits_deBruijn32tab), ("math/bits.deBruijn64tab", laid_math_bits_deBruijn64tab), ("internal/strconv.uint64pow10", laid_internal_strconv_uint64pow10)] }
def BddValidSaid : Prop := bddValidRow.holds Tryz.pinned (OpenSpec.ofChange bddValidSpec)

/-- ITS FALSE NEIGHBOUR: 'it returns false'. Refute it at one input. -/
def bddValidWrong : ChangeSpec := { name := "bddValid", fn := fun _ => fun
  | [d1, d2] => { results := [.lit (.bool false)], args := [d1, d2] }
  | _ => none }
def BddValidWrongFalsely : Prop := bddValidRow.holds Tryz.pinned (OpenSpec.ofChange bddValidWrong)

/-- 'lineagelaw11.BddModels': WHATEVER THE INPUT: true; the input reads as it did. -/
def bddModelsSpec : ChangeSpec := { name := "bddModels", fn := fun _ => fun
  | [d] => { results := [.lit (.bool true)], args := [d] }
  | _ => none }
def bddModelsRow : OpenClaim := { program := "ytjlmeikcfdanmaagreatdoor", sum := "30dc9e4ab15989402596c8326f79d5e2103ba9f6af0a3f85cb6acae03bfd2b28", func := "lineage/lineagelaw11.BddModels", spec := "bddModels", inPlace := ["internal/bytealg.abigen_runtime_cmpstring", "internal/abi.NoEscape", "internal/bytealg.MakeNoZero"], unfollowed := true, recurses := true, named := ["internal/strconv.uint64pow10", "math/bits.deBruijn32tab", "math/bits.deBruijn64tab"], plainKeys := false, apart := false, laid := [("math/bits.deBruijn32tab", laid_math_bits_deBruijn32tab), ("math/bits.deBruijn64tab", laid_math_bits_deBruijn64tab), ("internal/strconv.uint64pow10", laid_internal_strconv_uint64pow10)] }
def BddModelsSaid : Prop := bddModelsRow.holds Tryz.pinned (OpenSpec.ofChange bddModelsSpec)

/-- ITS FALSE NEIGHBOUR: 'it returns false'. Refute it at one input. -/
def bddModelsWrong : ChangeSpec := { name := "bddModels", fn := fun _ => fun
  | [d] => { results := [.lit (.bool false)], args := [d] }
  | _ => none }
def BddModelsWrongFalsely : Prop := bddModelsRow.holds Tryz.pinned (OpenSpec.ofChange bddModelsWrong)

/-- 'lineagelaw11.BddCanonical': WHATEVER THE INPUT: true; the input reads as it did. -/
def bddCanonicalSpec : ChangeSpec := { name := "bddCanonical", fn := fun _ => fun
  | [d1, d2, d3] => { results := [.lit (.bool true)], args := [d1, d2, d3] }
  | _ => none }
def bddCanonicalRow : OpenClaim := { program := "ytjlmeikcfdanmaagreatdoor", sum := "30dc9e4ab15989402596c8326f79d5e2103ba9f6af0a3f85cb6acae03bfd2b28", func := "lineage/lineagelaw11.BddCanonical", spec := "bddCanonical", inPlace := ["internal/bytealg.abigen_runtime_cmpstring", "internal/abi.NoEscape", "internal/bytealg.MakeNoZero"], unfollowed := true, recurses := true, named := ["internal/strconv.uint64pow10", "math/bits.deBruijn32tab", "math/bits.deBruijn64tab"], loops := true, plainKeys := false, apart := false, laid := [("math/bits.deBruijn32tab", laid_math_bits_deBruijn32tab), ("math/bits.deBruijn64tab", laid_math_bits_deBruijn64tab), ("internal/strconv.uint64pow10", laid_internal_strconv_uint64pow10)] }
def BddCanonicalSaid : Prop := bddCanonicalRow.holds Tryz.pinned (OpenSpec.ofChange bddCanonicalSpec)

/-- ITS FALSE NEIGHBOUR: 'it returns false'. Refute it at one input. -/
def bddCanonicalWrong : ChangeSpec := { name := "bddCanonical", fn := fun _ => fun
  | [d1, d2, d3] => { results := [.lit (.bool false)], args := [d1, d2, d3] }
  | _ => none }
def BddCanonicalWrongFalsely : Prop := bddCanonicalRow.holds Tryz.pinned (OpenSpec.ofChange bddCanonicalWrong)

/-- 'lineagelaw11.BddBoolean': WHATEVER THE INPUT: true; the input reads as it did. -/
def bddBooleanSpec : ChangeSpec := { name := "bddBoolean", fn := fun _ => fun
  | [d1, d2, d3, d4] => { results := [.lit (.bool true)], args := [d1, d2, d3, d4] }
  | _ => none }
def bddBooleanRow : OpenClaim := { program := "ytjlmeikcfdanmaagreatdoor", sum := "30dc9e4ab15989402596c8326f79d5e2103ba9f6af0a3f85cb6acae03bfd2b28", func := "lineage/lineagelaw11.BddBoolean", spec := "bddBoolean", inPlace := ["internal/bytealg.abigen_runtime_cmpstring", "internal/abi.NoEscape", "internal/bytealg.MakeNoZero"], unfollowed := true, recurses := true, named := ["internal/strconv.uint64pow10", "math/bits.deBruijn32tab", "math/bits.deBruijn64tab"], plainKeys := false, apart := false, laid := [("math/bits.deBruijn32tab", laid_math_bits_deBruijn32tab), ("math/bits.deBruijn64tab", laid_math_bits_deBruijn64tab), ("internal/strconv.uint64pow10", laid_internal_strconv_uint64pow10)] }
def BddBooleanSaid : Prop := bddBooleanRow.holds Tryz.pinned (OpenSpec.ofChange bddBooleanSpec)

/-- ITS FALSE NEIGHBOUR: 'it returns false'. Refute it at one input. -/
def bddBooleanWrong : ChangeSpec := { name := "bddBoolean", fn := fun _ => fun
  | [d1, d2, d3, d4] => { results := [.lit (.bool false)], args := [d1, d2, d3, d4] }
  | _ => none }
def BddBooleanWrongFalsely : Prop := bddBooleanRow.holds Tryz.pinned (OpenSpec.ofChange bddBooleanWrong)

/-- 'lineagelaw11.BddRestrict': WHATEVER THE INPUT: true; the input reads as it did. -/
def bddRestrictSpec : ChangeSpec := { name := "bddRestrict", fn := fun _ => fun
  | [d1, d2, d3, d4] => { results := [.lit (.bool true)], args := [d1, d2, d3, d4] }
  | _ => none }
def bddRestrictRow : OpenClaim := { program := "ytjlmeikcfdanmaagreatdoor", sum := "30dc9e4ab15989402596c8326f79d5e2103ba9f6af0a3f85cb6acae03bfd2b28", func := "lineage/lineagelaw11.BddRestrict", spec := "bddRestrict", inPlace := ["internal/bytealg.abigen_runtime_cmpstring", "internal/abi.NoEscape", "internal/bytealg.MakeNoZero"], unfollowed := true, recurses := true, named := ["internal/strconv.uint64pow10", "math/bits.deBruijn32tab", "math/bits.deBruijn64tab"], plainKeys := false, apart := false, laid := [("math/bits.deBruijn32tab", laid_math_bits_deBruijn32tab), ("math/bits.deBruijn64tab", laid_math_bits_deBruijn64tab), ("internal/strconv.uint64pow10", laid_internal_strconv_uint64pow10)] }
def BddRestrictSaid : Prop := bddRestrictRow.holds Tryz.pinned (OpenSpec.ofChange bddRestrictSpec)

/-- ITS FALSE NEIGHBOUR: 'it returns false'. Refute it at one input. -/
def bddRestrictWrong : ChangeSpec := { name := "bddRestrict", fn := fun _ => fun
  | [d1, d2, d3, d4] => { results := [.lit (.bool false)], args := [d1, d2, d3, d4] }
  | _ => none }
def BddRestrictWrongFalsely : Prop := bddRestrictRow.holds Tryz.pinned (OpenSpec.ofChange bddRestrictWrong)

/- THE SECOND FORM. 'bulk': how many values and letters a reading holds, each counted each time it is reached (what is shared counts as often as it is met; a slice's spare places count too). A statement '..UptoSaid' is the law's where the arguments, and the package variables that the reading takes, are together of bulk at most 1048576: NARROWER than '..Said'. Prove '..Said' where nothing that the law and all that it calls make is longer than what came in: it says more and counts as full. Else prove '..UptoSaid'. A law counts once. -/
mutual
def uptoBulk {H : Type} : DataW H → Nat
  | .lit (.string bytes) => bytes.length + 1
  | .lit _ => 1
  | .nil => 1
  | .ptr d => uptoBulk d + 1
  | .slice elems spare => uptoBulkAll elems + uptoBulkAll spare + 1
  | .agg parts => uptoBulkAll parts + 1
  | .iface _ d => uptoBulk d + 1
  | .map entries => uptoBulkEntries entries + 1
  | .held _ => 1
def uptoBulkAll {H : Type} : List (DataW H) → Nat
  | [] => 0
  | d :: r => uptoBulk d + uptoBulkAll r
def uptoBulkEntries {H : Type} : List (Lit × DataW H) → Nat
  | [] => 0
  | x :: r => uptoBulkEntry x + uptoBulkEntries r
def uptoBulkEntry {H : Type} : Lit × DataW H → Nat
  | (.string bytes, d) => bytes.length + uptoBulk d + 1
  | (_, d) => uptoBulk d + 1
 end
def uptoSmall : (H : Type) → List (DataW H) → Bool := fun _ ds => decide (uptoBulkAll ds ≤ 1048576)
def OpenSpec.upto (s : _root_.Go.ChangeSpec) : _root_.Go.OpenSpec := { _root_.Go.OpenSpec.ofChange s with cond := some uptoSmall }

/-- 'lineagelaw11.BddOperations', WHERE WHAT IT READS IS OF BULK AT MOST 1048576: true; the input reads as it did. -/
def bddOperationsUptoRow : OpenClaim := { program := "ytjlmeikcfdanmaagreatdoor", sum := "30dc9e4ab15989402596c8326f79d5e2103ba9f6af0a3f85cb6acae03bfd2b28", func := "lineage/lineagelaw11.BddOperations", spec := "bddOperations", inPlace := ["internal/bytealg.abigen_runtime_cmpstring", "internal/abi.NoEscape", "internal/bytealg.MakeNoZero"], unfollowed := true, recurses := true, named := ["internal/strconv.uint64pow10", "math/bits.deBruijn32tab", "math/bits.deBruijn64tab"], plainKeys := false, apart := false, laid := [("math/bits.deBruijn32tab", laid_math_bits_deBruijn32tab), ("math/bits.deBruijn64tab", laid_math_bits_deBruijn64tab), ("internal/strconv.uint64pow10", laid_internal_strconv_uint64pow10)], narrowed := true }
def BddOperationsUptoSaid : Prop := bddOperationsUptoRow.holds Tryz.pinned (OpenSpec.upto bddOperationsSpec)

/-- 'lineagelaw11.BddBuild', WHERE WHAT IT READS IS OF BULK AT MOST 1048576: true; the input reads as it did. -/
def bddBuildUptoRow : OpenClaim := { program := "ytjlmeikcfdanmaagreatdoor", sum := "30dc9e4ab15989402596c8326f79d5e2103ba9f6af0a3f85cb6acae03bfd2b28", func := "lineage/lineagelaw11.BddBuild", spec := "bddBuild", inPlace := ["internal/bytealg.abigen_runtime_cmpstring", "internal/abi.NoEscape", "internal/bytealg.MakeNoZero"], unfollowed := true, recurses := true, named := ["internal/strconv.uint64pow10", "math/bits.deBruijn32tab", "math/bits.deBruijn64tab"], loops := true, plainKeys := false, apart := false, laid := [("math/bits.deBruijn32tab", laid_math_bits_deBruijn32tab), ("math/bits.deBruijn64tab", laid_math_bits_deBruijn64tab), ("internal/strconv.uint64pow10", laid_internal_strconv_uint64pow10)], narrowed := true }
def BddBuildUptoSaid : Prop := bddBuildUptoRow.holds Tryz.pinned (OpenSpec.upto bddBuildSpec)

/-- 'lineagelaw11.BddValid', WHERE WHAT IT READS IS OF BULK AT MOST 1048576: true; the input reads as it did. -/
def bddValidUptoRow : OpenClaim := { program := "ytjlmeikcfdanmaagreatdoor", sum := "30dc9e4ab15989402596c8326f79d5e2103ba9f6af0a3f85cb6acae03bfd2b28", func := "lineage/lineagelaw11.BddValid", spec := "bddValid", inPlace := ["internal/bytealg.abigen_runtime_cmpstring", "internal/abi.NoEscape", "internal/bytealg.MakeNoZero"], unfollowed := true, recurses := true, named := ["internal/strconv.uint64pow10", "math/bits.deBruijn32tab", "math/bits.deBruijn64tab"], plainKeys := false, apart := false, laid := [("math/bits.deBruijn32tab", laid_math_bits_deBruijn32tab), ("math/bits.deBruijn64tab", laid_math_bits_deBruijn64tab), ("internal/strconv.uint64pow10", laid_internal_strconv_uint64pow10)], narrowed := true }
def BddValidUptoSaid : Prop := bddValidUptoRow.holds Tryz.pinned (OpenSpec.upto bddValidSpec)

/-- 'lineagelaw11.BddModels', WHERE WHAT IT READS IS OF BULK AT MOST 1048576: true; the input reads as it did. -/
def bddModelsUptoRow : OpenClaim := { program := "ytjlmeikcfdanmaagreatdoor", sum := "30dc9e4ab15989402596c8326f79d5e2103ba9f6af0a3f85cb6acae03bfd2b28", func := "lineage/lineagelaw11.BddModels", spec := "bddModels", inPlace := ["internal/bytealg.abigen_runtime_cmpstring", "internal/abi.NoEscape", "internal/bytealg.MakeNoZero"], unfollowed := true, recurses := true, named := ["internal/strconv.uint64pow10", "math/bits.deBruijn32tab", "math/bits.deBruijn64tab"], plainKeys := false, apart := false, laid := [("math/bits.deBruijn32tab", laid_math_bits_deBruijn32tab), ("math/bits.deBruijn64tab", laid_math_bits_deBruijn64tab), ("internal/strconv.uint64pow10", laid_internal_strconv_uint64pow10)], narrowed := true }
def BddModelsUptoSaid : Prop := bddModelsUptoRow.holds Tryz.pinned (OpenSpec.upto bddModelsSpec)

/-- 'lineagelaw11.BddCanonical', WHERE WHAT IT READS IS OF BULK AT MOST 1048576: true; the input reads as it did. -/
def bddCanonicalUptoRow : OpenClaim := { program := "ytjlmeikcfdanmaagreatdoor", sum := "30dc9e4ab15989402596c8326f79d5e2103ba9f6af0a3f85cb6acae03bfd2b28", func := "lineage/lineagelaw11.BddCanonical", spec := "bddCanonical", inPlace := ["internal/bytealg.abigen_runtime_cmpstring", "internal/abi.NoEscape", "internal/bytealg.MakeNoZero"], unfollowed := true, recurses := true, named := ["internal/strconv.uint64pow10", "math/bits.deBruijn32tab", "math/bits.deBruijn64tab"], loops := true, plainKeys := false, apart := false, laid := [("math/bits.deBruijn32tab", laid_math_bits_deBruijn32tab), ("math/bits.deBruijn64tab", laid_math_bits_deBruijn64tab), ("internal/strconv.uint64pow10", laid_internal_strconv_uint64pow10)], narrowed := true }
def BddCanonicalUptoSaid : Prop := bddCanonicalUptoRow.holds Tryz.pinned (OpenSpec.upto bddCanonicalSpec)

/-- 'lineagelaw11.BddBoolean', WHERE WHAT IT READS IS OF BULK AT MOST 1048576: true; the input reads as it did. -/
def bddBooleanUptoRow : OpenClaim := { program := "ytjlmeikcfdanmaagreatdoor", sum := "30dc9e4ab15989402596c8326f79d5e2103ba9f6af0a3f85cb6acae03bfd2b28", func := "lineage/lineagelaw11.BddBoolean", spec := "bddBoolean", inPlace := ["internal/bytealg.abigen_runtime_cmpstring", "internal/abi.NoEscape", "internal/bytealg.MakeNoZero"], unfollowed := true, recurses := true, named := ["internal/strconv.uint64pow10", "math/bits.deBruijn32tab", "math/bits.deBruijn64tab"], plainKeys := false, apart := false, laid := [("math/bits.deBruijn32tab", laid_math_bits_deBruijn32tab), ("math/bits.deBruijn64tab", laid_math_bits_deBruijn64tab), ("internal/strconv.uint64pow10", laid_internal_strconv_uint64pow10)], narrowed := true }
def BddBooleanUptoSaid : Prop := bddBooleanUptoRow.holds Tryz.pinned (OpenSpec.upto bddBooleanSpec)

/-- 'lineagelaw11.BddRestrict', WHERE WHAT IT READS IS OF BULK AT MOST 1048576: true; the input reads as it did. -/
def bddRestrictUptoRow : OpenClaim := { program := "ytjlmeikcfdanmaagreatdoor", sum := "30dc9e4ab15989402596c8326f79d5e2103ba9f6af0a3f85cb6acae03bfd2b28", func := "lineage/lineagelaw11.BddRestrict", spec := "bddRestrict", inPlace := ["internal/bytealg.abigen_runtime_cmpstring", "internal/abi.NoEscape", "internal/bytealg.MakeNoZero"], unfollowed := true, recurses := true, named := ["internal/strconv.uint64pow10", "math/bits.deBruijn32tab", "math/bits.deBruijn64tab"], plainKeys := false, apart := false, laid := [("math/bits.deBruijn32tab", laid_math_bits_deBruijn32tab), ("math/bits.deBruijn64tab", laid_math_bits_deBruijn64tab), ("internal/strconv.uint64pow10", laid_internal_strconv_uint64pow10)], narrowed := true }
def BddRestrictUptoSaid : Prop := bddRestrictUptoRow.holds Tryz.pinned (OpenSpec.upto bddRestrictSpec)

end Rows
end Go.Proofs.YtjlmeikcfdanmaaGreatDoor
