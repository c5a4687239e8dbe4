/-
  No cell of these rows narrows 'for every input' (looked for: loops, veiled, ifaces, maps, wideKeys, modest, calm, conditions, laid).
  DERIVED. THE GIVEN ROWS OF THIS SEAT. 11 by the template 'for every input the law returns true; each argument reads behind the call as it read before'; 0 by the template 'total and deterministic' (their statements: YtkgkhakjodlpgaaTotals.lean).
  GIVEN WITH THE SEED: the statements are not yours to turn. If you find one false, say at which input.
  Laid BY PROGRAM, IN A SANDBOX (cutbox-rows.mjs): the forced cells as the released guide's own fill.sh prints them over the translation 92a0e44e4716099e… (all of the seat's roots in one cut). By AI agents, Wed Nov 11 2026. No macro, syntax, notation, axiom, sorry.
-/
import Derived.Test.YtkgkhakjodlpgaaChecked
import GoSem.Claim
import GoSem.ClaimJoined
import GoSem.ClaimMapViews
import Derived.JoinedTies
import Derived.KernelRfl
namespace Go.Proofs.Ytkgkhakjodlpgaa
/- THE CELL 'sum', in the pinned program and in every row, IS THE sha256 OF THE DUMP (.gsa) THAT YtkgkhakjodlpgaaProg.lean LOADS. Nothing in Lean hashes anything: it is a label: what it is worth is what the hold of that sum in a sandbox is worth. -/
noncomputable def Try.pinned : Pinned := { name := "ytkgkhakjodlpgaa", sum := "92a0e44e4716099e9644b39ae212b772764e50fd50cc010fa60e95972adc489a", checked := Try.checked }
namespace Rows
def none {H : Type} : Left H := { results := [], args := [] }

/-- 'runnellaw2.LevelsRows': WHATEVER THE INPUT: true; the input reads as it did. -/
def levelsRowsSpec : ChangeSpec := { name := "levelsRows", fn := fun _ => fun
  | [d1, d2, d3] => { results := [.lit (.bool true)], args := [d1, d2, d3] }
  | _ => none }
def levelsRowsRow : OpenClaim := { program := "ytkgkhakjodlpgaa", sum := "92a0e44e4716099e9644b39ae212b772764e50fd50cc010fa60e95972adc489a", func := "runnel/runnellaw2.LevelsRows", spec := "levelsRows", inPlace := ["internal/bytealg.IndexByteString", "sync/atomic.LoadUint32", "(*internal/sync.Mutex).Lock", "internal/race.Disable", "sync/atomic.CompareAndSwapInt32", "internal/race.Enable", "internal/race.Acquire", "(*internal/sync.Mutex).lockSlow", "internal/sync.runtime_canSpin", "internal/sync.runtime_doSpin", "internal/sync.throw", "internal/sync.runtime_nanotime", "internal/sync.runtime_SemacquireMutex", "sync/atomic.AddInt32", "(*internal/sync.Mutex).Unlock", "internal/race.ReleaseMerge", "(*internal/sync.Mutex).unlockSlow", "internal/sync.fatal", "internal/sync.runtime_Semrelease", "sync/atomic.StoreUint32"], unfollowed := true, recurses := true, apart := false }
def LevelsRowsSaid : Prop := levelsRowsRow.holds Try.pinned (OpenSpec.ofChange levelsRowsSpec)

/-- ITS FALSE NEIGHBOUR: 'it returns false'. Refute it at one input. -/
def levelsRowsWrong : ChangeSpec := { name := "levelsRows", fn := fun _ => fun
  | [d1, d2, d3] => { results := [.lit (.bool false)], args := [d1, d2, d3] }
  | _ => none }
def LevelsRowsWrongFalsely : Prop := levelsRowsRow.holds Try.pinned (OpenSpec.ofChange levelsRowsWrong)

/-- 'runnellaw2.LevelsLaws': WHATEVER THE INPUT: true; the input reads as it did. -/
def levelsLawsSpec : ChangeSpec := { name := "levelsLaws", fn := fun _ => fun
  | [d1, d2, d3, d4, d5] => { results := [.lit (.bool true)], args := [d1, d2, d3, d4, d5] }
  | _ => none }
def levelsLawsRow : OpenClaim := { program := "ytkgkhakjodlpgaa", sum := "92a0e44e4716099e9644b39ae212b772764e50fd50cc010fa60e95972adc489a", func := "runnel/runnellaw2.LevelsLaws", spec := "levelsLaws", inPlace := ["internal/bytealg.IndexByteString", "sync/atomic.LoadUint32", "(*internal/sync.Mutex).Lock", "internal/race.Disable", "sync/atomic.CompareAndSwapInt32", "internal/race.Enable", "internal/race.Acquire", "(*internal/sync.Mutex).lockSlow", "internal/sync.runtime_canSpin", "internal/sync.runtime_doSpin", "internal/sync.throw", "internal/sync.runtime_nanotime", "internal/sync.runtime_SemacquireMutex", "sync/atomic.AddInt32", "(*internal/sync.Mutex).Unlock", "internal/race.ReleaseMerge", "(*internal/sync.Mutex).unlockSlow", "internal/sync.fatal", "internal/sync.runtime_Semrelease", "sync/atomic.StoreUint32"], unfollowed := true, recurses := true, apart := false }
def LevelsLawsSaid : Prop := levelsLawsRow.holds Try.pinned (OpenSpec.ofChange levelsLawsSpec)

/-- ITS FALSE NEIGHBOUR: 'it returns false'. Refute it at one input. -/
def levelsLawsWrong : ChangeSpec := { name := "levelsLaws", fn := fun _ => fun
  | [d1, d2, d3, d4, d5] => { results := [.lit (.bool false)], args := [d1, d2, d3, d4, d5] }
  | _ => none }
def LevelsLawsWrongFalsely : Prop := levelsLawsRow.holds Try.pinned (OpenSpec.ofChange levelsLawsWrong)

/-- 'runnellaw2.LevelsCovers': WHATEVER THE INPUT: true; the input reads as it did. -/
def levelsCoversSpec : ChangeSpec := { name := "levelsCovers", fn := fun _ => fun
  | [d1, d2] => { results := [.lit (.bool true)], args := [d1, d2] }
  | _ => none }
def levelsCoversRow : OpenClaim := { program := "ytkgkhakjodlpgaa", sum := "92a0e44e4716099e9644b39ae212b772764e50fd50cc010fa60e95972adc489a", func := "runnel/runnellaw2.LevelsCovers", spec := "levelsCovers", inPlace := ["internal/bytealg.IndexByteString", "sync/atomic.LoadUint32", "(*internal/sync.Mutex).Lock", "internal/race.Disable", "sync/atomic.CompareAndSwapInt32", "internal/race.Enable", "internal/race.Acquire", "(*internal/sync.Mutex).lockSlow", "internal/sync.runtime_canSpin", "internal/sync.runtime_doSpin", "internal/sync.throw", "internal/sync.runtime_nanotime", "internal/sync.runtime_SemacquireMutex", "sync/atomic.AddInt32", "(*internal/sync.Mutex).Unlock", "internal/race.ReleaseMerge", "(*internal/sync.Mutex).unlockSlow", "internal/sync.fatal", "internal/sync.runtime_Semrelease", "sync/atomic.StoreUint32"], unfollowed := true, recurses := true, apart := false }
def LevelsCoversSaid : Prop := levelsCoversRow.holds Try.pinned (OpenSpec.ofChange levelsCoversSpec)

/-- ITS FALSE NEIGHBOUR: 'it returns false'. Refute it at one input. -/
def levelsCoversWrong : ChangeSpec := { name := "levelsCovers", fn := fun _ => fun
  | [d1, d2] => { results := [.lit (.bool false)], args := [d1, d2] }
  | _ => none }
def LevelsCoversWrongFalsely : Prop := levelsCoversRow.holds Try.pinned (OpenSpec.ofChange levelsCoversWrong)

/-- 'runnellaw2.LevelsLeast': WHATEVER THE INPUT: true; the input reads as it did. -/
def levelsLeastSpec : ChangeSpec := { name := "levelsLeast", fn := fun _ => fun
  | [d1, d2, d3, d4, d5] => { results := [.lit (.bool true)], args := [d1, d2, d3, d4, d5] }
  | _ => none }
def levelsLeastRow : OpenClaim := { program := "ytkgkhakjodlpgaa", sum := "92a0e44e4716099e9644b39ae212b772764e50fd50cc010fa60e95972adc489a", func := "runnel/runnellaw2.LevelsLeast", spec := "levelsLeast", inPlace := ["internal/bytealg.IndexByteString", "sync/atomic.LoadUint32", "(*internal/sync.Mutex).Lock", "internal/race.Disable", "sync/atomic.CompareAndSwapInt32", "internal/race.Enable", "internal/race.Acquire", "(*internal/sync.Mutex).lockSlow", "internal/sync.runtime_canSpin", "internal/sync.runtime_doSpin", "internal/sync.throw", "internal/sync.runtime_nanotime", "internal/sync.runtime_SemacquireMutex", "sync/atomic.AddInt32", "(*internal/sync.Mutex).Unlock", "internal/race.ReleaseMerge", "(*internal/sync.Mutex).unlockSlow", "internal/sync.fatal", "internal/sync.runtime_Semrelease", "sync/atomic.StoreUint32"], unfollowed := true, recurses := true, apart := false }
def LevelsLeastSaid : Prop := levelsLeastRow.holds Try.pinned (OpenSpec.ofChange levelsLeastSpec)

/-- ITS FALSE NEIGHBOUR: 'it returns false'. Refute it at one input. -/
def levelsLeastWrong : ChangeSpec := { name := "levelsLeast", fn := fun _ => fun
  | [d1, d2, d3, d4, d5] => { results := [.lit (.bool false)], args := [d1, d2, d3, d4, d5] }
  | _ => none }
def LevelsLeastWrongFalsely : Prop := levelsLeastRow.holds Try.pinned (OpenSpec.ofChange levelsLeastWrong)

/-- 'runnellaw2.LevelsMake': WHATEVER THE INPUT: true; the input reads as it did. -/
def levelsMakeSpec : ChangeSpec := { name := "levelsMake", fn := fun _ => fun
  | [d1, d2, d3, d4, d5] => { results := [.lit (.bool true)], args := [d1, d2, d3, d4, d5] }
  | _ => none }
def levelsMakeRow : OpenClaim := { program := "ytkgkhakjodlpgaa", sum := "92a0e44e4716099e9644b39ae212b772764e50fd50cc010fa60e95972adc489a", func := "runnel/runnellaw2.LevelsMake", spec := "levelsMake", inPlace := ["internal/bytealg.IndexByteString", "sync/atomic.LoadUint32", "(*internal/sync.Mutex).Lock", "internal/race.Disable", "sync/atomic.CompareAndSwapInt32", "internal/race.Enable", "internal/race.Acquire", "(*internal/sync.Mutex).lockSlow", "internal/sync.runtime_canSpin", "internal/sync.runtime_doSpin", "internal/sync.throw", "internal/sync.runtime_nanotime", "internal/sync.runtime_SemacquireMutex", "sync/atomic.AddInt32", "(*internal/sync.Mutex).Unlock", "internal/race.ReleaseMerge", "(*internal/sync.Mutex).unlockSlow", "internal/sync.fatal", "internal/sync.runtime_Semrelease", "sync/atomic.StoreUint32"], unfollowed := true, recurses := true, apart := false }
def LevelsMakeSaid : Prop := levelsMakeRow.holds Try.pinned (OpenSpec.ofChange levelsMakeSpec)

/-- ITS FALSE NEIGHBOUR: 'it returns false'. Refute it at one input. -/
def levelsMakeWrong : ChangeSpec := { name := "levelsMake", fn := fun _ => fun
  | [d1, d2, d3, d4, d5] => { results := [.lit (.bool false)], args := [d1, d2, d3, d4, d5] }
  | _ => none }
def LevelsMakeWrongFalsely : Prop := levelsMakeRow.holds Try.pinned (OpenSpec.ofChange levelsMakeWrong)

/-- 'runnellaw13.CompFinds': WHATEVER THE INPUT: true; the input reads as it did. -/
def compFindsSpec : ChangeSpec := { name := "compFinds", fn := fun _ => fun
  | [d] => { results := [.lit (.bool true)], args := [d] }
  | _ => none }
def compFindsRow : OpenClaim := { program := "ytkgkhakjodlpgaa", sum := "92a0e44e4716099e9644b39ae212b772764e50fd50cc010fa60e95972adc489a", func := "runnel/runnellaw13.CompFinds", spec := "compFinds", unfollowed := true, recurses := true, apart := false }
def CompFindsSaid : Prop := compFindsRow.holds Try.pinned (OpenSpec.ofChange compFindsSpec)

/-- ITS FALSE NEIGHBOUR: 'it returns false'. Refute it at one input. -/
def compFindsWrong : ChangeSpec := { name := "compFinds", fn := fun _ => fun
  | [d] => { results := [.lit (.bool false)], args := [d] }
  | _ => none }
def CompFindsWrongFalsely : Prop := compFindsRow.holds Try.pinned (OpenSpec.ofChange compFindsWrong)

/-- 'runnellaw13.CompOrder': WHATEVER THE INPUT: true; the input reads as it did. -/
def compOrderSpec : ChangeSpec := { name := "compOrder", fn := fun _ => fun
  | [d] => { results := [.lit (.bool true)], args := [d] }
  | _ => none }
def compOrderRow : OpenClaim := { program := "ytkgkhakjodlpgaa", sum := "92a0e44e4716099e9644b39ae212b772764e50fd50cc010fa60e95972adc489a", func := "runnel/runnellaw13.CompOrder", spec := "compOrder", unfollowed := true, recurses := true, apart := false }
def CompOrderSaid : Prop := compOrderRow.holds Try.pinned (OpenSpec.ofChange compOrderSpec)

/-- ITS FALSE NEIGHBOUR: 'it returns false'. Refute it at one input. -/
def compOrderWrong : ChangeSpec := { name := "compOrder", fn := fun _ => fun
  | [d] => { results := [.lit (.bool false)], args := [d] }
  | _ => none }
def CompOrderWrongFalsely : Prop := compOrderRow.holds Try.pinned (OpenSpec.ofChange compOrderWrong)

/-- 'runnellaw13.CompParts': WHATEVER THE INPUT: true; the input reads as it did. -/
def compPartsSpec : ChangeSpec := { name := "compParts", fn := fun _ => fun
  | [d] => { results := [.lit (.bool true)], args := [d] }
  | _ => none }
def compPartsRow : OpenClaim := { program := "ytkgkhakjodlpgaa", sum := "92a0e44e4716099e9644b39ae212b772764e50fd50cc010fa60e95972adc489a", func := "runnel/runnellaw13.CompParts", spec := "compParts", unfollowed := true, recurses := true, apart := false }
def CompPartsSaid : Prop := compPartsRow.holds Try.pinned (OpenSpec.ofChange compPartsSpec)

/-- ITS FALSE NEIGHBOUR: 'it returns false'. Refute it at one input. -/
def compPartsWrong : ChangeSpec := { name := "compParts", fn := fun _ => fun
  | [d] => { results := [.lit (.bool false)], args := [d] }
  | _ => none }
def CompPartsWrongFalsely : Prop := compPartsRow.holds Try.pinned (OpenSpec.ofChange compPartsWrong)

/-- 'runnellaw13.CompGrows': WHATEVER THE INPUT: true; the input reads as it did. -/
def compGrowsSpec : ChangeSpec := { name := "compGrows", fn := fun _ => fun
  | [d1, d2, d3, d4] => { results := [.lit (.bool true)], args := [d1, d2, d3, d4] }
  | _ => none }
def compGrowsRow : OpenClaim := { program := "ytkgkhakjodlpgaa", sum := "92a0e44e4716099e9644b39ae212b772764e50fd50cc010fa60e95972adc489a", func := "runnel/runnellaw13.CompGrows", spec := "compGrows", unfollowed := true, recurses := true, apart := false }
def CompGrowsSaid : Prop := compGrowsRow.holds Try.pinned (OpenSpec.ofChange compGrowsSpec)

/-- ITS FALSE NEIGHBOUR: 'it returns false'. Refute it at one input. -/
def compGrowsWrong : ChangeSpec := { name := "compGrows", fn := fun _ => fun
  | [d1, d2, d3, d4] => { results := [.lit (.bool false)], args := [d1, d2, d3, d4] }
  | _ => none }
def CompGrowsWrongFalsely : Prop := compGrowsRow.holds Try.pinned (OpenSpec.ofChange compGrowsWrong)

/-- 'runnellaw13.CompReaches': WHATEVER THE INPUT: true; the input reads as it did. -/
def compReachesSpec : ChangeSpec := { name := "compReaches", fn := fun _ => fun
  | [d1, d2, d3] => { results := [.lit (.bool true)], args := [d1, d2, d3] }
  | _ => none }
def compReachesRow : OpenClaim := { program := "ytkgkhakjodlpgaa", sum := "92a0e44e4716099e9644b39ae212b772764e50fd50cc010fa60e95972adc489a", func := "runnel/runnellaw13.CompReaches", spec := "compReaches", unfollowed := true, recurses := true, apart := false }
def CompReachesSaid : Prop := compReachesRow.holds Try.pinned (OpenSpec.ofChange compReachesSpec)

/-- ITS FALSE NEIGHBOUR: 'it returns false'. Refute it at one input. -/
def compReachesWrong : ChangeSpec := { name := "compReaches", fn := fun _ => fun
  | [d1, d2, d3] => { results := [.lit (.bool false)], args := [d1, d2, d3] }
  | _ => none }
def CompReachesWrongFalsely : Prop := compReachesRow.holds Try.pinned (OpenSpec.ofChange compReachesWrong)

/-- 'runnellaw13.CompBack': WHATEVER THE INPUT: true; the input reads as it did. -/
def compBackSpec : ChangeSpec := { name := "compBack", fn := fun _ => fun
  | [d1, d2, d3] => { results := [.lit (.bool true)], args := [d1, d2, d3] }
  | _ => none }
def compBackRow : OpenClaim := { program := "ytkgkhakjodlpgaa", sum := "92a0e44e4716099e9644b39ae212b772764e50fd50cc010fa60e95972adc489a", func := "runnel/runnellaw13.CompBack", spec := "compBack", unfollowed := true, recurses := true, apart := false }
def CompBackSaid : Prop := compBackRow.holds Try.pinned (OpenSpec.ofChange compBackSpec)

/-- ITS FALSE NEIGHBOUR: 'it returns false'. Refute it at one input. -/
def compBackWrong : ChangeSpec := { name := "compBack", fn := fun _ => fun
  | [d1, d2, d3] => { results := [.lit (.bool false)], args := [d1, d2, d3] }
  | _ => none }
def CompBackWrongFalsely : Prop := compBackRow.holds Try.pinned (OpenSpec.ofChange compBackWrong)

/- THE SECOND FORM. 'bulk': how many values and letters a reading holds, each counted each time it is reached (what is shared counts as often as it is met; a slice's spare places count too). A statement '..UptoSaid' is the law's where the arguments, and the package variables that the reading takes, are together of bulk at most 1048576: NARROWER than '..Said'. Prove '..Said' where nothing that the law and all that it calls make is longer than what came in: it says more and counts as full. Else prove '..UptoSaid'. A law counts once. -/
mutual
def uptoBulk {H : Type} : DataW H → Nat
  | .lit (.string bytes) => bytes.length + 1
  | .lit _ => 1
  | .nil => 1
  | .ptr d => uptoBulk d + 1
  | .slice elems spare => uptoBulkAll elems + uptoBulkAll spare + 1
  | .agg parts => uptoBulkAll parts + 1
  | .iface _ d => uptoBulk d + 1
  | .map entries => uptoBulkEntries entries + 1
  | .held _ => 1
def uptoBulkAll {H : Type} : List (DataW H) → Nat
  | [] => 0
  | d :: r => uptoBulk d + uptoBulkAll r
def uptoBulkEntries {H : Type} : List (Lit × DataW H) → Nat
  | [] => 0
  | x :: r => uptoBulkEntry x + uptoBulkEntries r
def uptoBulkEntry {H : Type} : Lit × DataW H → Nat
  | (.string bytes, d) => bytes.length + uptoBulk d + 1
  | (_, d) => uptoBulk d + 1
 end
def uptoSmall : (H : Type) → List (DataW H) → Bool := fun _ ds => decide (uptoBulkAll ds ≤ 1048576)
def OpenSpec.upto (s : _root_.Go.ChangeSpec) : _root_.Go.OpenSpec := { _root_.Go.OpenSpec.ofChange s with cond := some uptoSmall }

/-- 'runnellaw2.LevelsRows', WHERE WHAT IT READS IS OF BULK AT MOST 1048576: true; the input reads as it did. -/
def levelsRowsUptoRow : OpenClaim := { program := "ytkgkhakjodlpgaa", sum := "92a0e44e4716099e9644b39ae212b772764e50fd50cc010fa60e95972adc489a", func := "runnel/runnellaw2.LevelsRows", spec := "levelsRows", inPlace := ["internal/bytealg.IndexByteString", "sync/atomic.LoadUint32", "(*internal/sync.Mutex).Lock", "internal/race.Disable", "sync/atomic.CompareAndSwapInt32", "internal/race.Enable", "internal/race.Acquire", "(*internal/sync.Mutex).lockSlow", "internal/sync.runtime_canSpin", "internal/sync.runtime_doSpin", "internal/sync.throw", "internal/sync.runtime_nanotime", "internal/sync.runtime_SemacquireMutex", "sync/atomic.AddInt32", "(*internal/sync.Mutex).Unlock", "internal/race.ReleaseMerge", "(*internal/sync.Mutex).unlockSlow", "internal/sync.fatal", "internal/sync.runtime_Semrelease", "sync/atomic.StoreUint32"], unfollowed := true, recurses := true, apart := false, narrowed := true }
def LevelsRowsUptoSaid : Prop := levelsRowsUptoRow.holds Try.pinned (OpenSpec.upto levelsRowsSpec)

/-- 'runnellaw2.LevelsLaws', WHERE WHAT IT READS IS OF BULK AT MOST 1048576: true; the input reads as it did. -/
def levelsLawsUptoRow : OpenClaim := { program := "ytkgkhakjodlpgaa", sum := "92a0e44e4716099e9644b39ae212b772764e50fd50cc010fa60e95972adc489a", func := "runnel/runnellaw2.LevelsLaws", spec := "levelsLaws", inPlace := ["internal/bytealg.IndexByteString", "sync/atomic.LoadUint32", "(*internal/sync.Mutex).Lock", "internal/race.Disable", "sync/atomic.CompareAndSwapInt32", "internal/race.Enable", "internal/race.Acquire", "(*internal/sync.Mutex).lockSlow", "internal/sync.runtime_canSpin", "internal/sync.runtime_doSpin", "internal/sync.throw", "internal/sync.runtime_nanotime", "internal/sync.runtime_SemacquireMutex", "sync/atomic.AddInt32", "(*internal/sync.Mutex).Unlock", "internal/race.ReleaseMerge", "(*internal/sync.Mutex).unlockSlow", "internal/sync.fatal", "internal/sync.runtime_Semrelease", "sync/atomic.StoreUint32"], unfollowed := true, recurses := true, apart := false, narrowed := true }
def LevelsLawsUptoSaid : Prop := levelsLawsUptoRow.holds Try.pinned (OpenSpec.upto levelsLawsSpec)

/-- 'runnellaw2.LevelsCovers', WHERE WHAT IT READS IS OF BULK AT MOST 1048576: true; the input reads as it did. -/
def levelsCoversUptoRow : OpenClaim := { program := "ytkgkhakjodlpgaa", sum := "92a0e44e4716099e9644b39ae212b772764e50fd50cc010fa60e95972adc489a", func := "runnel/runnellaw2.LevelsCovers", spec := "levelsCovers", inPlace := ["internal/bytealg.IndexByteString", "sync/atomic.LoadUint32", "(*internal/sync.Mutex).Lock", "internal/race.Disable", "sync/atomic.CompareAndSwapInt32", "internal/race.Enable", "internal/race.Acquire", "(*internal/sync.Mutex).lockSlow", "internal/sync.runtime_canSpin", "internal/sync.runtime_doSpin", "internal/sync.throw", "internal/sync.runtime_nanotime", "internal/sync.runtime_SemacquireMutex", "sync/atomic.AddInt32", "(*internal/sync.Mutex).Unlock", "internal/race.ReleaseMerge", "(*internal/sync.Mutex).unlockSlow", "internal/sync.fatal", "internal/sync.runtime_Semrelease", "sync/atomic.StoreUint32"], unfollowed := true, recurses := true, apart := false, narrowed := true }
def LevelsCoversUptoSaid : Prop := levelsCoversUptoRow.holds Try.pinned (OpenSpec.upto levelsCoversSpec)

/-- 'runnellaw2.LevelsLeast', WHERE WHAT IT READS IS OF BULK AT MOST 1048576: true; the input reads as it did. -/
def levelsLeastUptoRow : OpenClaim := { program := "ytkgkhakjodlpgaa", sum := "92a0e44e4716099e9644b39ae212b772764e50fd50cc010fa60e95972adc489a", func := "runnel/runnellaw2.LevelsLeast", spec := "levelsLeast", inPlace := ["internal/bytealg.IndexByteString", "sync/atomic.LoadUint32", "(*internal/sync.Mutex).Lock", "internal/race.Disable", "sync/atomic.CompareAndSwapInt32", "internal/race.Enable", "internal/race.Acquire", "(*internal/sync.Mutex).lockSlow", "internal/sync.runtime_canSpin", "internal/sync.runtime_doSpin", "internal/sync.throw", "internal/sync.runtime_nanotime", "internal/sync.runtime_SemacquireMutex", "sync/atomic.AddInt32", "(*internal/sync.Mutex).Unlock", "internal/race.ReleaseMerge", "(*internal/sync.Mutex).unlockSlow", "internal/sync.fatal", "internal/sync.runtime_Semrelease", "sync/atomic.StoreUint32"], unfollowed := true, recurses := true, apart := false, narrowed := true }
def LevelsLeastUptoSaid : Prop := levelsLeastUptoRow.holds Try.pinned (OpenSpec.upto levelsLeastSpec)

/-- 'runnellaw2.LevelsMake', WHERE WHAT IT READS IS OF BULK AT MOST 1048576: true; the input reads as it did. -/
def levelsMakeUptoRow : OpenClaim := { program := "ytkgkhakjodlpgaa", sum := "92a0e44e4716099e9644b39ae212b772764e50fd50cc010fa60e95972adc489a", func := "runnel/runnellaw2.LevelsMake", spec := "levelsMake", inPlace := ["internal/bytealg.IndexByteString", "sync/atomic.LoadUint32", "(*internal/sync.Mutex).Lock", "internal/race.Disable", "sync/atomic.CompareAndSwapInt32", "internal/race.Enable", "internal/race.Acquire", "(*internal/sync.Mutex).lockSlow", "internal/sync.runtime_canSpin", "internal/sync.runtime_doSpin", "internal/sync.throw", "internal/sync.runtime_nanotime", "internal/sync.runtime_SemacquireMutex", "sync/atomic.AddInt32", "(*internal/sync.Mutex).Unlock", "internal/race.ReleaseMerge", "(*internal/sync.Mutex).unlockSlow", "internal/sync.fatal", "internal/sync.runtime_Semrelease", "sync/atomic.StoreUint32"], unfollowed := true, recurses := true, apart := false, narrowed := true }
def LevelsMakeUptoSaid : Prop := levelsMakeUptoRow.holds Try.pinned (OpenSpec.upto levelsMakeSpec)

/-- 'runnellaw13.CompFinds', WHERE WHAT IT READS IS OF BULK AT MOST 1048576: true; the input reads as it did. -/
def compFindsUptoRow : OpenClaim := { program := "ytkgkhakjodlpgaa", sum := "92a0e44e4716099e9644b39ae212b772764e50fd50cc010fa60e95972adc489a", func := "runnel/runnellaw13.CompFinds", spec := "compFinds", unfollowed := true, recurses := true, apart := false, narrowed := true }
def CompFindsUptoSaid : Prop := compFindsUptoRow.holds Try.pinned (OpenSpec.upto compFindsSpec)

/-- 'runnellaw13.CompOrder', WHERE WHAT IT READS IS OF BULK AT MOST 1048576: true; the input reads as it did. -/
def compOrderUptoRow : OpenClaim := { program := "ytkgkhakjodlpgaa", sum := "92a0e44e4716099e9644b39ae212b772764e50fd50cc010fa60e95972adc489a", func := "runnel/runnellaw13.CompOrder", spec := "compOrder", unfollowed := true, recurses := true, apart := false, narrowed := true }
def CompOrderUptoSaid : Prop := compOrderUptoRow.holds Try.pinned (OpenSpec.upto compOrderSpec)

/-- 'runnellaw13.CompParts', WHERE WHAT IT READS IS OF BULK AT MOST 1048576: true; the input reads as it did. -/
def compPartsUptoRow : OpenClaim := { program := "ytkgkhakjodlpgaa", sum := "92a0e44e4716099e9644b39ae212b772764e50fd50cc010fa60e95972adc489a", func := "runnel/runnellaw13.CompParts", spec := "compParts", unfollowed := true, recurses := true, apart := false, narrowed := true }
def CompPartsUptoSaid : Prop := compPartsUptoRow.holds Try.pinned (OpenSpec.upto compPartsSpec)

/-- 'runnellaw13.CompGrows', WHERE WHAT IT READS IS OF BULK AT MOST 1048576: true; the input reads as it did. -/
def compGrowsUptoRow : OpenClaim := { program := "ytkgkhakjodlpgaa", sum := "92a0e44e4716099e9644b39ae212b772764e50fd50cc010fa60e95972adc489a", func := "runnel/runnellaw13.CompGrows", spec := "compGrows", unfollowed := true, recurses := true, apart := false, narrowed := true }
def CompGrowsUptoSaid : Prop := compGrowsUptoRow.holds Try.pinned (OpenSpec.upto compGrowsSpec)

/-- 'runnellaw13.CompReaches', WHERE WHAT IT READS IS OF BULK AT MOST 1048576: true; the input reads as it did. -/
def compReachesUptoRow : OpenClaim := { program := "ytkgkhakjodlpgaa", sum := "92a0e44e4716099e9644b39ae212b772764e50fd50cc010fa60e95972adc489a", func := "runnel/runnellaw13.CompReaches", spec := "compReaches", unfollowed := true, recurses := true, apart := false, narrowed := true }
def CompReachesUptoSaid : Prop := compReachesUptoRow.holds Try.pinned (OpenSpec.upto compReachesSpec)

/-- 'runnellaw13.CompBack', WHERE WHAT IT READS IS OF BULK AT MOST 1048576: true; the input reads as it did. -/
def compBackUptoRow : OpenClaim := { program := "ytkgkhakjodlpgaa", sum := "92a0e44e4716099e9644b39ae212b772764e50fd50cc010fa60e95972adc489a", func := "runnel/runnellaw13.CompBack", spec := "compBack", unfollowed := true, recurses := true, apart := false, narrowed := true }
def CompBackUptoSaid : Prop := compBackUptoRow.holds Try.pinned (OpenSpec.upto compBackSpec)

end Rows
end Go.Proofs.Ytkgkhakjodlpgaa
