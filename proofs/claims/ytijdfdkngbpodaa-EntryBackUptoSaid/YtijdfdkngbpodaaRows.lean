/-
  No cell of these rows narrows 'for every input' (looked for: loops, veiled, ifaces, maps, wideKeys, modest, calm, conditions, laid).
  DERIVED. THE GIVEN ROWS OF THIS SEAT. 15 by the template 'for every input the law returns true; each argument reads behind the call as it read before'; 0 by the template 'total and deterministic' (their statements: YtijdfdkngbpodaaTotals.lean).
  GIVEN WITH THE SEED: the statements are not yours to turn. If you find one false, say at which input.
  Laid BY PROGRAM, IN A SANDBOX (cutbox-rows.mjs): the forced cells as the released guide's own fill.sh prints them over the translation c7ea5fc81afb6f5f… (all of the seat's roots in one cut). By AI agents, Wed Nov 11 2026. No macro, syntax, notation, axiom, sorry.
-/
import Derived.Test.YtijdfdkngbpodaaChecked
import GoSem.Claim
import GoSem.ClaimJoined
import GoSem.ClaimMapViews
import Derived.JoinedTies
import Derived.KernelRfl
namespace Go.Proofs.Ytijdfdkngbpodaa
/- THE CELL 'sum', in the pinned program and in every row, IS THE sha256 OF THE DUMP (.gsa) THAT YtijdfdkngbpodaaProg.lean LOADS. Nothing in Lean hashes anything: it is a label: what it is worth is what the hold of that sum in a sandbox is worth. -/
noncomputable def Try.pinned : Pinned := { name := "ytijdfdkngbpodaa", sum := "c7ea5fc81afb6f5f421dee41340036dd1b6b27099cfabb47f487d6b9558ad81b", checked := Try.checked }
namespace Rows
def none {H : Type} : Left H := { results := [], args := [] }

/-- 'lazaretlaw19.CostBytes': WHATEVER THE INPUT: true; the input reads as it did. -/
def costBytesSpec : ChangeSpec := { name := "costBytes", fn := fun _ => fun
  | [d1, d2, d3] => { results := [.lit (.bool true)], args := [d1, d2, d3] }
  | _ => none }
def costBytesRow : OpenClaim := { program := "ytijdfdkngbpodaa", sum := "c7ea5fc81afb6f5f421dee41340036dd1b6b27099cfabb47f487d6b9558ad81b", func := "lazaret/lazaretlaw19.CostBytes", spec := "costBytes", apart := false }
def CostBytesSaid : Prop := costBytesRow.holds Try.pinned (OpenSpec.ofChange costBytesSpec)

/-- ITS FALSE NEIGHBOUR: 'it returns false'. Refute it at one input. -/
def costBytesWrong : ChangeSpec := { name := "costBytes", fn := fun _ => fun
  | [d1, d2, d3] => { results := [.lit (.bool false)], args := [d1, d2, d3] }
  | _ => none }
def CostBytesWrongFalsely : Prop := costBytesRow.holds Try.pinned (OpenSpec.ofChange costBytesWrong)

/-- 'lazaretlaw19.CostMore': WHATEVER THE INPUT: true; the input reads as it did. -/
def costMoreSpec : ChangeSpec := { name := "costMore", fn := fun _ => fun
  | [d1, d2, d3] => { results := [.lit (.bool true)], args := [d1, d2, d3] }
  | _ => none }
def costMoreRow : OpenClaim := { program := "ytijdfdkngbpodaa", sum := "c7ea5fc81afb6f5f421dee41340036dd1b6b27099cfabb47f487d6b9558ad81b", func := "lazaret/lazaretlaw19.CostMore", spec := "costMore", apart := false }
def CostMoreSaid : Prop := costMoreRow.holds Try.pinned (OpenSpec.ofChange costMoreSpec)

/-- ITS FALSE NEIGHBOUR: 'it returns false'. Refute it at one input. -/
def costMoreWrong : ChangeSpec := { name := "costMore", fn := fun _ => fun
  | [d1, d2, d3] => { results := [.lit (.bool false)], args := [d1, d2, d3] }
  | _ => none }
def CostMoreWrongFalsely : Prop := costMoreRow.holds Try.pinned (OpenSpec.ofChange costMoreWrong)

/-- 'lazaretlaw20.OpTakes': WHATEVER THE INPUT: true; the input reads as it did. -/
def opTakesSpec : ChangeSpec := { name := "opTakes", fn := fun _ => fun
  | [d] => { results := [.lit (.bool true)], args := [d] }
  | _ => none }
def opTakesRow : OpenClaim := { program := "ytijdfdkngbpodaa", sum := "c7ea5fc81afb6f5f421dee41340036dd1b6b27099cfabb47f487d6b9558ad81b", func := "lazaret/lazaretlaw20.OpTakes", spec := "opTakes", apart := false }
def OpTakesSaid : Prop := opTakesRow.holds Try.pinned (OpenSpec.ofChange opTakesSpec)

/-- ITS FALSE NEIGHBOUR: 'it returns false'. Refute it at one input. -/
def opTakesWrong : ChangeSpec := { name := "opTakes", fn := fun _ => fun
  | [d] => { results := [.lit (.bool false)], args := [d] }
  | _ => none }
def OpTakesWrongFalsely : Prop := opTakesRow.holds Try.pinned (OpenSpec.ofChange opTakesWrong)

/-- 'lazaretlaw20.OpBack': WHATEVER THE INPUT: true; the input reads as it did. -/
def opBackSpec : ChangeSpec := { name := "opBack", fn := fun _ => fun
  | [d1, d2] => { results := [.lit (.bool true)], args := [d1, d2] }
  | _ => none }
def opBackRow : OpenClaim := { program := "ytijdfdkngbpodaa", sum := "c7ea5fc81afb6f5f421dee41340036dd1b6b27099cfabb47f487d6b9558ad81b", func := "lazaret/lazaretlaw20.OpBack", spec := "opBack", apart := false }
def OpBackSaid : Prop := opBackRow.holds Try.pinned (OpenSpec.ofChange opBackSpec)

/-- ITS FALSE NEIGHBOUR: 'it returns false'. Refute it at one input. -/
def opBackWrong : ChangeSpec := { name := "opBack", fn := fun _ => fun
  | [d1, d2] => { results := [.lit (.bool false)], args := [d1, d2] }
  | _ => none }
def OpBackWrongFalsely : Prop := opBackRow.holds Try.pinned (OpenSpec.ofChange opBackWrong)

/-- 'lazaretlaw19.CostKeeps': WHATEVER THE INPUT: true; the input reads as it did. -/
def costKeepsSpec : ChangeSpec := { name := "costKeeps", fn := fun _ => fun
  | [d1, d2] => { results := [.lit (.bool true)], args := [d1, d2] }
  | _ => none }
def costKeepsRow : OpenClaim := { program := "ytijdfdkngbpodaa", sum := "c7ea5fc81afb6f5f421dee41340036dd1b6b27099cfabb47f487d6b9558ad81b", func := "lazaret/lazaretlaw19.CostKeeps", spec := "costKeeps", unfollowed := true, recurses := true, apart := false }
def CostKeepsSaid : Prop := costKeepsRow.holds Try.pinned (OpenSpec.ofChange costKeepsSpec)

/-- ITS FALSE NEIGHBOUR: 'it returns false'. Refute it at one input. -/
def costKeepsWrong : ChangeSpec := { name := "costKeeps", fn := fun _ => fun
  | [d1, d2] => { results := [.lit (.bool false)], args := [d1, d2] }
  | _ => none }
def CostKeepsWrongFalsely : Prop := costKeepsRow.holds Try.pinned (OpenSpec.ofChange costKeepsWrong)

/-- 'lazaretlaw15.EntryPuts': WHATEVER THE INPUT: true; the input reads as it did. -/
def entryPutsSpec : ChangeSpec := { name := "entryPuts", fn := fun _ => fun
  | [d] => { results := [.lit (.bool true)], args := [d] }
  | _ => none }
def entryPutsRow : OpenClaim := { program := "ytijdfdkngbpodaa", sum := "c7ea5fc81afb6f5f421dee41340036dd1b6b27099cfabb47f487d6b9558ad81b", func := "lazaret/lazaretlaw15.EntryPuts", spec := "entryPuts", inPlace := ["internal/bytealg.IndexByteString", "internal/bytealg.abigen_runtime_cmpstring", "slices.overlaps[lazaret/api.Entry]"], unfollowed := true, recurses := true, apart := false }
def EntryPutsSaid : Prop := entryPutsRow.holds Try.pinned (OpenSpec.ofChange entryPutsSpec)

/-- ITS FALSE NEIGHBOUR: 'it returns false'. Refute it at one input. -/
def entryPutsWrong : ChangeSpec := { name := "entryPuts", fn := fun _ => fun
  | [d] => { results := [.lit (.bool false)], args := [d] }
  | _ => none }
def EntryPutsWrongFalsely : Prop := entryPutsRow.holds Try.pinned (OpenSpec.ofChange entryPutsWrong)

/-- 'lazaretlaw15.EntryTakes': WHATEVER THE INPUT: true; the input reads as it did. -/
def entryTakesSpec : ChangeSpec := { name := "entryTakes", fn := fun _ => fun
  | [d] => { results := [.lit (.bool true)], args := [d] }
  | _ => none }
def entryTakesRow : OpenClaim := { program := "ytijdfdkngbpodaa", sum := "c7ea5fc81afb6f5f421dee41340036dd1b6b27099cfabb47f487d6b9558ad81b", func := "lazaret/lazaretlaw15.EntryTakes", spec := "entryTakes", inPlace := ["internal/bytealg.IndexByteString", "internal/bytealg.abigen_runtime_cmpstring", "slices.overlaps[lazaret/api.Entry]"], unfollowed := true, recurses := true, apart := false }
def EntryTakesSaid : Prop := entryTakesRow.holds Try.pinned (OpenSpec.ofChange entryTakesSpec)

/-- ITS FALSE NEIGHBOUR: 'it returns false'. Refute it at one input. -/
def entryTakesWrong : ChangeSpec := { name := "entryTakes", fn := fun _ => fun
  | [d] => { results := [.lit (.bool false)], args := [d] }
  | _ => none }
def EntryTakesWrongFalsely : Prop := entryTakesRow.holds Try.pinned (OpenSpec.ofChange entryTakesWrong)

/-- 'lazaretlaw15.EntryChanges': WHATEVER THE INPUT: true; the input reads as it did. -/
def entryChangesSpec : ChangeSpec := { name := "entryChanges", fn := fun _ => fun
  | [d1, d2] => { results := [.lit (.bool true)], args := [d1, d2] }
  | _ => none }
def entryChangesRow : OpenClaim := { program := "ytijdfdkngbpodaa", sum := "c7ea5fc81afb6f5f421dee41340036dd1b6b27099cfabb47f487d6b9558ad81b", func := "lazaret/lazaretlaw15.EntryChanges", spec := "entryChanges", inPlace := ["internal/bytealg.IndexByteString", "internal/bytealg.abigen_runtime_cmpstring", "slices.overlaps[lazaret/api.Entry]"], unfollowed := true, recurses := true, apart := false }
def EntryChangesSaid : Prop := entryChangesRow.holds Try.pinned (OpenSpec.ofChange entryChangesSpec)

/-- ITS FALSE NEIGHBOUR: 'it returns false'. Refute it at one input. -/
def entryChangesWrong : ChangeSpec := { name := "entryChanges", fn := fun _ => fun
  | [d1, d2] => { results := [.lit (.bool false)], args := [d1, d2] }
  | _ => none }
def EntryChangesWrongFalsely : Prop := entryChangesRow.holds Try.pinned (OpenSpec.ofChange entryChangesWrong)

/-- 'lazaretlaw15.EntryAsks': WHATEVER THE INPUT: true; the input reads as it did. -/
def entryAsksSpec : ChangeSpec := { name := "entryAsks", fn := fun _ => fun
  | [d1, d2, d3] => { results := [.lit (.bool true)], args := [d1, d2, d3] }
  | _ => none }
def entryAsksRow : OpenClaim := { program := "ytijdfdkngbpodaa", sum := "c7ea5fc81afb6f5f421dee41340036dd1b6b27099cfabb47f487d6b9558ad81b", func := "lazaret/lazaretlaw15.EntryAsks", spec := "entryAsks", inPlace := ["internal/bytealg.IndexByteString", "internal/bytealg.abigen_runtime_cmpstring", "slices.overlaps[lazaret/api.Entry]"], unfollowed := true, recurses := true, apart := false }
def EntryAsksSaid : Prop := entryAsksRow.holds Try.pinned (OpenSpec.ofChange entryAsksSpec)

/-- ITS FALSE NEIGHBOUR: 'it returns false'. Refute it at one input. -/
def entryAsksWrong : ChangeSpec := { name := "entryAsks", fn := fun _ => fun
  | [d1, d2, d3] => { results := [.lit (.bool false)], args := [d1, d2, d3] }
  | _ => none }
def EntryAsksWrongFalsely : Prop := entryAsksRow.holds Try.pinned (OpenSpec.ofChange entryAsksWrong)

/-- 'lazaretlaw12.NameSplits': WHATEVER THE INPUT: true; the input reads as it did. -/
def nameSplitsSpec : ChangeSpec := { name := "nameSplits", fn := fun _ => fun
  | [d] => { results := [.lit (.bool true)], args := [d] }
  | _ => none }
def nameSplitsRow : OpenClaim := { program := "ytijdfdkngbpodaa", sum := "c7ea5fc81afb6f5f421dee41340036dd1b6b27099cfabb47f487d6b9558ad81b", func := "lazaret/lazaretlaw12.NameSplits", spec := "nameSplits", inPlace := ["internal/bytealg.IndexByteString", "internal/bytealg.IndexString", "internal/abi.NoEscape", "internal/bytealg.MakeNoZero"], named := ["internal/bytealg.MaxLen"], apart := false }
def NameSplitsSaid : Prop := nameSplitsRow.holds Try.pinned (OpenSpec.ofChange nameSplitsSpec)

/-- ITS FALSE NEIGHBOUR: 'it returns false'. Refute it at one input. -/
def nameSplitsWrong : ChangeSpec := { name := "nameSplits", fn := fun _ => fun
  | [d] => { results := [.lit (.bool false)], args := [d] }
  | _ => none }
def NameSplitsWrongFalsely : Prop := nameSplitsRow.holds Try.pinned (OpenSpec.ofChange nameSplitsWrong)

/-- 'lazaretlaw12.NameAgain': WHATEVER THE INPUT: true; the input reads as it did. -/
def nameAgainSpec : ChangeSpec := { name := "nameAgain", fn := fun _ => fun
  | [d] => { results := [.lit (.bool true)], args := [d] }
  | _ => none }
def nameAgainRow : OpenClaim := { program := "ytijdfdkngbpodaa", sum := "c7ea5fc81afb6f5f421dee41340036dd1b6b27099cfabb47f487d6b9558ad81b", func := "lazaret/lazaretlaw12.NameAgain", spec := "nameAgain", inPlace := ["internal/bytealg.IndexByteString", "internal/bytealg.IndexString", "internal/abi.NoEscape", "internal/bytealg.MakeNoZero"], named := ["internal/bytealg.MaxLen"], apart := false }
def NameAgainSaid : Prop := nameAgainRow.holds Try.pinned (OpenSpec.ofChange nameAgainSpec)

/-- ITS FALSE NEIGHBOUR: 'it returns false'. Refute it at one input. -/
def nameAgainWrong : ChangeSpec := { name := "nameAgain", fn := fun _ => fun
  | [d] => { results := [.lit (.bool false)], args := [d] }
  | _ => none }
def NameAgainWrongFalsely : Prop := nameAgainRow.holds Try.pinned (OpenSpec.ofChange nameAgainWrong)

/-- 'lazaretlaw12.NameCleans': WHATEVER THE INPUT: true; the input reads as it did. -/
def nameCleansSpec : ChangeSpec := { name := "nameCleans", fn := fun _ => fun
  | [d] => { results := [.lit (.bool true)], args := [d] }
  | _ => none }
def nameCleansRow : OpenClaim := { program := "ytijdfdkngbpodaa", sum := "c7ea5fc81afb6f5f421dee41340036dd1b6b27099cfabb47f487d6b9558ad81b", func := "lazaret/lazaretlaw12.NameCleans", spec := "nameCleans", inPlace := ["internal/bytealg.IndexByteString", "internal/bytealg.IndexString", "internal/abi.NoEscape", "internal/bytealg.MakeNoZero"], named := ["internal/bytealg.MaxLen"], apart := false }
def NameCleansSaid : Prop := nameCleansRow.holds Try.pinned (OpenSpec.ofChange nameCleansSpec)

/-- ITS FALSE NEIGHBOUR: 'it returns false'. Refute it at one input. -/
def nameCleansWrong : ChangeSpec := { name := "nameCleans", fn := fun _ => fun
  | [d] => { results := [.lit (.bool false)], args := [d] }
  | _ => none }
def NameCleansWrongFalsely : Prop := nameCleansRow.holds Try.pinned (OpenSpec.ofChange nameCleansWrong)

/-- 'lazaretlaw12.NameTogether': WHATEVER THE INPUT: true; the input reads as it did. -/
def nameTogetherSpec : ChangeSpec := { name := "nameTogether", fn := fun _ => fun
  | [d] => { results := [.lit (.bool true)], args := [d] }
  | _ => none }
def nameTogetherRow : OpenClaim := { program := "ytijdfdkngbpodaa", sum := "c7ea5fc81afb6f5f421dee41340036dd1b6b27099cfabb47f487d6b9558ad81b", func := "lazaret/lazaretlaw12.NameTogether", spec := "nameTogether", inPlace := ["internal/bytealg.IndexByteString", "internal/bytealg.IndexString", "internal/abi.NoEscape", "internal/bytealg.MakeNoZero"], named := ["internal/bytealg.MaxLen"], apart := false }
def NameTogetherSaid : Prop := nameTogetherRow.holds Try.pinned (OpenSpec.ofChange nameTogetherSpec)

/-- ITS FALSE NEIGHBOUR: 'it returns false'. Refute it at one input. -/
def nameTogetherWrong : ChangeSpec := { name := "nameTogether", fn := fun _ => fun
  | [d] => { results := [.lit (.bool false)], args := [d] }
  | _ => none }
def NameTogetherWrongFalsely : Prop := nameTogetherRow.holds Try.pinned (OpenSpec.ofChange nameTogetherWrong)

/-- 'lazaretlaw15.EntryBack': WHATEVER THE INPUT: true; the input reads as it did. -/
def entryBackSpec : ChangeSpec := { name := "entryBack", fn := fun _ => fun
  | [d1, d2, d3] => { results := [.lit (.bool true)], args := [d1, d2, d3] }
  | _ => none }
def entryBackRow : OpenClaim := { program := "ytijdfdkngbpodaa", sum := "c7ea5fc81afb6f5f421dee41340036dd1b6b27099cfabb47f487d6b9558ad81b", func := "lazaret/lazaretlaw15.EntryBack", spec := "entryBack", inPlace := ["internal/bytealg.IndexByteString", "internal/bytealg.abigen_runtime_cmpstring", "slices.overlaps[lazaret/api.Entry]"], unfollowed := true, recurses := true, apart := false }
def EntryBackSaid : Prop := entryBackRow.holds Try.pinned (OpenSpec.ofChange entryBackSpec)

/-- ITS FALSE NEIGHBOUR: 'it returns false'. Refute it at one input. -/
def entryBackWrong : ChangeSpec := { name := "entryBack", fn := fun _ => fun
  | [d1, d2, d3] => { results := [.lit (.bool false)], args := [d1, d2, d3] }
  | _ => none }
def EntryBackWrongFalsely : Prop := entryBackRow.holds Try.pinned (OpenSpec.ofChange entryBackWrong)

/-- 'lazaretlaw20.OpPuts': WHATEVER THE INPUT: true; the input reads as it did. -/
def opPutsSpec : ChangeSpec := { name := "opPuts", fn := fun _ => fun
  | [d] => { results := [.lit (.bool true)], args := [d] }
  | _ => none }
def opPutsRow : OpenClaim := { program := "ytijdfdkngbpodaa", sum := "c7ea5fc81afb6f5f421dee41340036dd1b6b27099cfabb47f487d6b9558ad81b", func := "lazaret/lazaretlaw20.OpPuts", spec := "opPuts", unfollowed := true, recurses := true, apart := false }
def OpPutsSaid : Prop := opPutsRow.holds Try.pinned (OpenSpec.ofChange opPutsSpec)

/-- ITS FALSE NEIGHBOUR: 'it returns false'. Refute it at one input. -/
def opPutsWrong : ChangeSpec := { name := "opPuts", fn := fun _ => fun
  | [d] => { results := [.lit (.bool false)], args := [d] }
  | _ => none }
def OpPutsWrongFalsely : Prop := opPutsRow.holds Try.pinned (OpenSpec.ofChange opPutsWrong)

/- THE SECOND FORM. 'bulk': how many values and letters a reading holds, each counted each time it is reached (what is shared counts as often as it is met; a slice's spare places count too). A statement '..UptoSaid' is the law's where the arguments, and the package variables that the reading takes, are together of bulk at most 1048576: NARROWER than '..Said'. Prove '..Said' where nothing that the law and all that it calls make is longer than what came in: it says more and counts as full. Else prove '..UptoSaid'. A law counts once. -/
mutual
def uptoBulk {H : Type} : DataW H → Nat
  | .lit (.string bytes) => bytes.length + 1
  | .lit _ => 1
  | .nil => 1
  | .ptr d => uptoBulk d + 1
  | .slice elems spare => uptoBulkAll elems + uptoBulkAll spare + 1
  | .agg parts => uptoBulkAll parts + 1
  | .iface _ d => uptoBulk d + 1
  | .map entries => uptoBulkEntries entries + 1
  | .held _ => 1
def uptoBulkAll {H : Type} : List (DataW H) → Nat
  | [] => 0
  | d :: r => uptoBulk d + uptoBulkAll r
def uptoBulkEntries {H : Type} : List (Lit × DataW H) → Nat
  | [] => 0
  | x :: r => uptoBulkEntry x + uptoBulkEntries r
def uptoBulkEntry {H : Type} : Lit × DataW H → Nat
  | (.string bytes, d) => bytes.length + uptoBulk d + 1
  | (_, d) => uptoBulk d + 1
 end
def uptoSmall : (H : Type) → List (DataW H) → Bool := fun _ ds => decide (uptoBulkAll ds ≤ 1048576)
def OpenSpec.upto (s : _root_.Go.ChangeSpec) : _root_.Go.OpenSpec := { _root_.Go.OpenSpec.ofChange s with cond := some uptoSmall }

/-- 'lazaretlaw19.CostBytes', WHERE WHAT IT READS IS OF BULK AT MOST 1048576: true; the input reads as it did. -/
def costBytesUptoRow : OpenClaim := { program := "ytijdfdkngbpodaa", sum := "c7ea5fc81afb6f5f421dee41340036dd1b6b27099cfabb47f487d6b9558ad81b", func := "lazaret/lazaretlaw19.CostBytes", spec := "costBytes", apart := false, narrowed := true }
def CostBytesUptoSaid : Prop := costBytesUptoRow.holds Try.pinned (OpenSpec.upto costBytesSpec)

/-- 'lazaretlaw19.CostMore', WHERE WHAT IT READS IS OF BULK AT MOST 1048576: true; the input reads as it did. -/
def costMoreUptoRow : OpenClaim := { program := "ytijdfdkngbpodaa", sum := "c7ea5fc81afb6f5f421dee41340036dd1b6b27099cfabb47f487d6b9558ad81b", func := "lazaret/lazaretlaw19.CostMore", spec := "costMore", apart := false, narrowed := true }
def CostMoreUptoSaid : Prop := costMoreUptoRow.holds Try.pinned (OpenSpec.upto costMoreSpec)

/-- 'lazaretlaw20.OpTakes', WHERE WHAT IT READS IS OF BULK AT MOST 1048576: true; the input reads as it did. -/
def opTakesUptoRow : OpenClaim := { program := "ytijdfdkngbpodaa", sum := "c7ea5fc81afb6f5f421dee41340036dd1b6b27099cfabb47f487d6b9558ad81b", func := "lazaret/lazaretlaw20.OpTakes", spec := "opTakes", apart := false, narrowed := true }
def OpTakesUptoSaid : Prop := opTakesUptoRow.holds Try.pinned (OpenSpec.upto opTakesSpec)

/-- 'lazaretlaw20.OpBack', WHERE WHAT IT READS IS OF BULK AT MOST 1048576: true; the input reads as it did. -/
def opBackUptoRow : OpenClaim := { program := "ytijdfdkngbpodaa", sum := "c7ea5fc81afb6f5f421dee41340036dd1b6b27099cfabb47f487d6b9558ad81b", func := "lazaret/lazaretlaw20.OpBack", spec := "opBack", apart := false, narrowed := true }
def OpBackUptoSaid : Prop := opBackUptoRow.holds Try.pinned (OpenSpec.upto opBackSpec)

/-- 'lazaretlaw19.CostKeeps', WHERE WHAT IT READS IS OF BULK AT MOST 1048576: true; the input reads as it did. -/
def costKeepsUptoRow : OpenClaim := { program := "ytijdfdkngbpodaa", sum := "c7ea5fc81afb6f5f421dee41340036dd1b6b27099cfabb47f487d6b9558ad81b", func := "lazaret/lazaretlaw19.CostKeeps", spec := "costKeeps", unfollowed := true, recurses := true, apart := false, narrowed := true }
def CostKeepsUptoSaid : Prop := costKeepsUptoRow.holds Try.pinned (OpenSpec.upto costKeepsSpec)

/-- 'lazaretlaw15.EntryPuts', WHERE WHAT IT READS IS OF BULK AT MOST 1048576: true; the input reads as it did. -/
def entryPutsUptoRow : OpenClaim := { program := "ytijdfdkngbpodaa", sum := "c7ea5fc81afb6f5f421dee41340036dd1b6b27099cfabb47f487d6b9558ad81b", func := "lazaret/lazaretlaw15.EntryPuts", spec := "entryPuts", inPlace := ["internal/bytealg.IndexByteString", "internal/bytealg.abigen_runtime_cmpstring", "slices.overlaps[lazaret/api.Entry]"], unfollowed := true, recurses := true, apart := false, narrowed := true }
def EntryPutsUptoSaid : Prop := entryPutsUptoRow.holds Try.pinned (OpenSpec.upto entryPutsSpec)

/-- 'lazaretlaw15.EntryTakes', WHERE WHAT IT READS IS OF BULK AT MOST 1048576: true; the input reads as it did. -/
def entryTakesUptoRow : OpenClaim := { program := "ytijdfdkngbpodaa", sum := "c7ea5fc81afb6f5f421dee41340036dd1b6b27099cfabb47f487d6b9558ad81b", func := "lazaret/lazaretlaw15.EntryTakes", spec := "entryTakes", inPlace := ["internal/bytealg.IndexByteString", "internal/bytealg.abigen_runtime_cmpstring", "slices.overlaps[lazaret/api.Entry]"], unfollowed := true, recurses := true, apart := false, narrowed := true }
def EntryTakesUptoSaid : Prop := entryTakesUptoRow.holds Try.pinned (OpenSpec.upto entryTakesSpec)

/-- 'lazaretlaw15.EntryChanges', WHERE WHAT IT READS IS OF BULK AT MOST 1048576: true; the input reads as it did. -/
def entryChangesUptoRow : OpenClaim := { program := "ytijdfdkngbpodaa", sum := "c7ea5fc81afb6f5f421dee41340036dd1b6b27099cfabb47f487d6b9558ad81b", func := "lazaret/lazaretlaw15.EntryChanges", spec := "entryChanges", inPlace := ["internal/bytealg.IndexByteString", "internal/bytealg.abigen_runtime_cmpstring", "slices.overlaps[lazaret/api.Entry]"], unfollowed := true, recurses := true, apart := false, narrowed := true }
def EntryChangesUptoSaid : Prop := entryChangesUptoRow.holds Try.pinned (OpenSpec.upto entryChangesSpec)

/-- 'lazaretlaw15.EntryAsks', WHERE WHAT IT READS IS OF BULK AT MOST 1048576: true; the input reads as it did. -/
def entryAsksUptoRow : OpenClaim := { program := "ytijdfdkngbpodaa", sum := "c7ea5fc81afb6f5f421dee41340036dd1b6b27099cfabb47f487d6b9558ad81b", func := "lazaret/lazaretlaw15.EntryAsks", spec := "entryAsks", inPlace := ["internal/bytealg.IndexByteString", "internal/bytealg.abigen_runtime_cmpstring", "slices.overlaps[lazaret/api.Entry]"], unfollowed := true, recurses := true, apart := false, narrowed := true }
def EntryAsksUptoSaid : Prop := entryAsksUptoRow.holds Try.pinned (OpenSpec.upto entryAsksSpec)

/-- 'lazaretlaw12.NameSplits', WHERE WHAT IT READS IS OF BULK AT MOST 1048576: true; the input reads as it did. -/
def nameSplitsUptoRow : OpenClaim := { program := "ytijdfdkngbpodaa", sum := "c7ea5fc81afb6f5f421dee41340036dd1b6b27099cfabb47f487d6b9558ad81b", func := "lazaret/lazaretlaw12.NameSplits", spec := "nameSplits", inPlace := ["internal/bytealg.IndexByteString", "internal/bytealg.IndexString", "internal/abi.NoEscape", "internal/bytealg.MakeNoZero"], named := ["internal/bytealg.MaxLen"], apart := false, narrowed := true }
def NameSplitsUptoSaid : Prop := nameSplitsUptoRow.holds Try.pinned (OpenSpec.upto nameSplitsSpec)

/-- 'lazaretlaw12.NameAgain', WHERE WHAT IT READS IS OF BULK AT MOST 1048576: true; the input reads as it did. -/
def nameAgainUptoRow : OpenClaim := { program := "ytijdfdkngbpodaa", sum := "c7ea5fc81afb6f5f421dee41340036dd1b6b27099cfabb47f487d6b9558ad81b", func := "lazaret/lazaretlaw12.NameAgain", spec := "nameAgain", inPlace := ["internal/bytealg.IndexByteString", "internal/bytealg.IndexString", "internal/abi.NoEscape", "internal/bytealg.MakeNoZero"], named := ["internal/bytealg.MaxLen"], apart := false, narrowed := true }
def NameAgainUptoSaid : Prop := nameAgainUptoRow.holds Try.pinned (OpenSpec.upto nameAgainSpec)

/-- 'lazaretlaw12.NameCleans', WHERE WHAT IT READS IS OF BULK AT MOST 1048576: true; the input reads as it did. -/
def nameCleansUptoRow : OpenClaim := { program := "ytijdfdkngbpodaa", sum := "c7ea5fc81afb6f5f421dee41340036dd1b6b27099cfabb47f487d6b9558ad81b", func := "lazaret/lazaretlaw12.NameCleans", spec := "nameCleans", inPlace := ["internal/bytealg.IndexByteString", "internal/bytealg.IndexString", "internal/abi.NoEscape", "internal/bytealg.MakeNoZero"], named := ["internal/bytealg.MaxLen"], apart := false, narrowed := true }
def NameCleansUptoSaid : Prop := nameCleansUptoRow.holds Try.pinned (OpenSpec.upto nameCleansSpec)

/-- 'lazaretlaw12.NameTogether', WHERE WHAT IT READS IS OF BULK AT MOST 1048576: true; the input reads as it did. -/
def nameTogetherUptoRow : OpenClaim := { program := "ytijdfdkngbpodaa", sum := "c7ea5fc81afb6f5f421dee41340036dd1b6b27099cfabb47f487d6b9558ad81b", func := "lazaret/lazaretlaw12.NameTogether", spec := "nameTogether", inPlace := ["internal/bytealg.IndexByteString", "internal/bytealg.IndexString", "internal/abi.NoEscape", "internal/bytealg.MakeNoZero"], named := ["internal/bytealg.MaxLen"], apart := false, narrowed := true }
def NameTogetherUptoSaid : Prop := nameTogetherUptoRow.holds Try.pinned (OpenSpec.upto nameTogetherSpec)

/-- 'lazaretlaw15.EntryBack', WHERE WHAT IT READS IS OF BULK AT MOST 1048576: true; the input reads as it did. -/
def entryBackUptoRow : OpenClaim := { program := "ytijdfdkngbpodaa", sum := "c7ea5fc81afb6f5f421dee41340036dd1b6b27099cfabb47f487d6b9558ad81b", func := "lazaret/lazaretlaw15.EntryBack", spec := "entryBack", inPlace := ["internal/bytealg.IndexByteString", "internal/bytealg.abigen_runtime_cmpstring", "slices.overlaps[lazaret/api.Entry]"], unfollowed := true, recurses := true, apart := false, narrowed := true }
def EntryBackUptoSaid : Prop := entryBackUptoRow.holds Try.pinned (OpenSpec.upto entryBackSpec)

/-- 'lazaretlaw20.OpPuts', WHERE WHAT IT READS IS OF BULK AT MOST 1048576: true; the input reads as it did. -/
def opPutsUptoRow : OpenClaim := { program := "ytijdfdkngbpodaa", sum := "c7ea5fc81afb6f5f421dee41340036dd1b6b27099cfabb47f487d6b9558ad81b", func := "lazaret/lazaretlaw20.OpPuts", spec := "opPuts", unfollowed := true, recurses := true, apart := false, narrowed := true }
def OpPutsUptoSaid : Prop := opPutsUptoRow.holds Try.pinned (OpenSpec.upto opPutsSpec)

end Rows
end Go.Proofs.Ytijdfdkngbpodaa
