/-
  No cell of these rows narrows 'for every input' (looked for: loops, veiled, ifaces, maps, wideKeys, modest, calm, conditions, laid).
  DERIVED. THE GIVEN ROWS OF THIS SEAT. 9 by the template 'for every input the law returns true; each argument reads behind the call as it read before'; 0 by the template 'total and deterministic' (their statements: YtaiobekochhemaaTotals.lean).
  GIVEN WITH THE SEED: the statements are not yours to turn. If you find one false, say at which input.
  Laid BY PROGRAM, IN A SANDBOX (cutbox-rows.mjs): the forced cells as the released guide's own fill.sh prints them over the translation 29b7895a1e98ffc6… (all of the seat's roots in one cut). By AI agents, Wed Nov 11 2026. No macro, syntax, notation, axiom, sorry.
-/
import Derived.Test.YtaiobekochhemaaChecked
import GoSem.Claim
import GoSem.ClaimJoined
import GoSem.ClaimMapViews
import Derived.JoinedTies
import Derived.KernelRfl
namespace Go.Proofs.Ytaiobekochhemaa
/- THE CELL 'sum', in the pinned program and in every row, IS THE sha256 OF THE DUMP (.gsa) THAT YtaiobekochhemaaProg.lean LOADS. Nothing in Lean hashes anything: it is a label: what it is worth is what the hold of that sum in a sandbox is worth. -/
noncomputable def Try.pinned : Pinned := { name := "ytaiobekochhemaa", sum := "29b7895a1e98ffc6559408e050bd3a89024448e29dc708c2d951d6d3543e142d", checked := Try.checked }
namespace Rows
def none {H : Type} : Left H := { results := [], args := [] }

/-- 'estafettelaw04.AllocSizes': WHATEVER THE INPUT: true; the input reads as it did. -/
def allocSizesSpec : ChangeSpec := { name := "allocSizes", fn := fun _ => fun
  | [d] => { results := [.lit (.bool true)], args := [d] }
  | _ => none }
def allocSizesRow : OpenClaim := { program := "ytaiobekochhemaa", sum := "29b7895a1e98ffc6559408e050bd3a89024448e29dc708c2d951d6d3543e142d", func := "estafette/estafettelaw04.AllocSizes", spec := "allocSizes", unfollowed := true, recurses := true, apart := false }
def AllocSizesSaid : Prop := allocSizesRow.holds Try.pinned (OpenSpec.ofChange allocSizesSpec)

/-- ITS FALSE NEIGHBOUR: 'it returns false'. Refute it at one input. -/
def allocSizesWrong : ChangeSpec := { name := "allocSizes", fn := fun _ => fun
  | [d] => { results := [.lit (.bool false)], args := [d] }
  | _ => none }
def AllocSizesWrongFalsely : Prop := allocSizesRow.holds Try.pinned (OpenSpec.ofChange allocSizesWrong)

/-- 'estafettelaw03.CachePlays': WHATEVER THE INPUT: true; the input reads as it did. -/
def cachePlaysSpec : ChangeSpec := { name := "cachePlays", fn := fun _ => fun
  | [d1, d2] => { results := [.lit (.bool true)], args := [d1, d2] }
  | _ => none }
def cachePlaysRow : OpenClaim := { program := "ytaiobekochhemaa", sum := "29b7895a1e98ffc6559408e050bd3a89024448e29dc708c2d951d6d3543e142d", func := "estafette/estafettelaw03.CachePlays", spec := "cachePlays", unfollowed := true, recurses := true, apart := false }
def CachePlaysSaid : Prop := cachePlaysRow.holds Try.pinned (OpenSpec.ofChange cachePlaysSpec)

/-- ITS FALSE NEIGHBOUR: 'it returns false'. Refute it at one input. -/
def cachePlaysWrong : ChangeSpec := { name := "cachePlays", fn := fun _ => fun
  | [d1, d2] => { results := [.lit (.bool false)], args := [d1, d2] }
  | _ => none }
def CachePlaysWrongFalsely : Prop := cachePlaysRow.holds Try.pinned (OpenSpec.ofChange cachePlaysWrong)

/-- 'estafettelaw03.CacheBounds': WHATEVER THE INPUT: true; the input reads as it did. -/
def cacheBoundsSpec : ChangeSpec := { name := "cacheBounds", fn := fun _ => fun
  | [d1, d2] => { results := [.lit (.bool true)], args := [d1, d2] }
  | _ => none }
def cacheBoundsRow : OpenClaim := { program := "ytaiobekochhemaa", sum := "29b7895a1e98ffc6559408e050bd3a89024448e29dc708c2d951d6d3543e142d", func := "estafette/estafettelaw03.CacheBounds", spec := "cacheBounds", unfollowed := true, recurses := true, apart := false }
def CacheBoundsSaid : Prop := cacheBoundsRow.holds Try.pinned (OpenSpec.ofChange cacheBoundsSpec)

/-- ITS FALSE NEIGHBOUR: 'it returns false'. Refute it at one input. -/
def cacheBoundsWrong : ChangeSpec := { name := "cacheBounds", fn := fun _ => fun
  | [d1, d2] => { results := [.lit (.bool false)], args := [d1, d2] }
  | _ => none }
def CacheBoundsWrongFalsely : Prop := cacheBoundsRow.holds Try.pinned (OpenSpec.ofChange cacheBoundsWrong)

/-- 'estafettelaw03.CacheAborts': WHATEVER THE INPUT: true; the input reads as it did. -/
def cacheAbortsSpec : ChangeSpec := { name := "cacheAborts", fn := fun _ => fun
  | [d1, d2] => { results := [.lit (.bool true)], args := [d1, d2] }
  | _ => none }
def cacheAbortsRow : OpenClaim := { program := "ytaiobekochhemaa", sum := "29b7895a1e98ffc6559408e050bd3a89024448e29dc708c2d951d6d3543e142d", func := "estafette/estafettelaw03.CacheAborts", spec := "cacheAborts", unfollowed := true, recurses := true, apart := false }
def CacheAbortsSaid : Prop := cacheAbortsRow.holds Try.pinned (OpenSpec.ofChange cacheAbortsSpec)

/-- ITS FALSE NEIGHBOUR: 'it returns false'. Refute it at one input. -/
def cacheAbortsWrong : ChangeSpec := { name := "cacheAborts", fn := fun _ => fun
  | [d1, d2] => { results := [.lit (.bool false)], args := [d1, d2] }
  | _ => none }
def CacheAbortsWrongFalsely : Prop := cacheAbortsRow.holds Try.pinned (OpenSpec.ofChange cacheAbortsWrong)

/-- 'estafettelaw03.CacheReads': WHATEVER THE INPUT: true; the input reads as it did. -/
def cacheReadsSpec : ChangeSpec := { name := "cacheReads", fn := fun _ => fun
  | [d1, d2] => { results := [.lit (.bool true)], args := [d1, d2] }
  | _ => none }
def cacheReadsRow : OpenClaim := { program := "ytaiobekochhemaa", sum := "29b7895a1e98ffc6559408e050bd3a89024448e29dc708c2d951d6d3543e142d", func := "estafette/estafettelaw03.CacheReads", spec := "cacheReads", unfollowed := true, recurses := true, apart := false }
def CacheReadsSaid : Prop := cacheReadsRow.holds Try.pinned (OpenSpec.ofChange cacheReadsSpec)

/-- ITS FALSE NEIGHBOUR: 'it returns false'. Refute it at one input. -/
def cacheReadsWrong : ChangeSpec := { name := "cacheReads", fn := fun _ => fun
  | [d1, d2] => { results := [.lit (.bool false)], args := [d1, d2] }
  | _ => none }
def CacheReadsWrongFalsely : Prop := cacheReadsRow.holds Try.pinned (OpenSpec.ofChange cacheReadsWrong)

/-- 'estafettelaw03.CacheCrashes': WHATEVER THE INPUT: true; the input reads as it did. -/
def cacheCrashesSpec : ChangeSpec := { name := "cacheCrashes", fn := fun _ => fun
  | [d1, d2, d3] => { results := [.lit (.bool true)], args := [d1, d2, d3] }
  | _ => none }
def cacheCrashesRow : OpenClaim := { program := "ytaiobekochhemaa", sum := "29b7895a1e98ffc6559408e050bd3a89024448e29dc708c2d951d6d3543e142d", func := "estafette/estafettelaw03.CacheCrashes", spec := "cacheCrashes", inPlace := ["maps.clone"], unfollowed := true, recurses := true, apart := false }
def CacheCrashesSaid : Prop := cacheCrashesRow.holds Try.pinned (OpenSpec.ofChange cacheCrashesSpec)

/-- ITS FALSE NEIGHBOUR: 'it returns false'. Refute it at one input. -/
def cacheCrashesWrong : ChangeSpec := { name := "cacheCrashes", fn := fun _ => fun
  | [d1, d2, d3] => { results := [.lit (.bool false)], args := [d1, d2, d3] }
  | _ => none }
def CacheCrashesWrongFalsely : Prop := cacheCrashesRow.holds Try.pinned (OpenSpec.ofChange cacheCrashesWrong)

/-- 'estafettelaw04.AllocFull': WHATEVER THE INPUT: true; the input reads as it did. -/
def allocFullSpec : ChangeSpec := { name := "allocFull", fn := fun _ => fun
  | [d] => { results := [.lit (.bool true)], args := [d] }
  | _ => none }
def allocFullRow : OpenClaim := { program := "ytaiobekochhemaa", sum := "29b7895a1e98ffc6559408e050bd3a89024448e29dc708c2d951d6d3543e142d", func := "estafette/estafettelaw04.AllocFull", spec := "allocFull", unfollowed := true, recurses := true, apart := false }
def AllocFullSaid : Prop := allocFullRow.holds Try.pinned (OpenSpec.ofChange allocFullSpec)

/-- ITS FALSE NEIGHBOUR: 'it returns false'. Refute it at one input. -/
def allocFullWrong : ChangeSpec := { name := "allocFull", fn := fun _ => fun
  | [d] => { results := [.lit (.bool false)], args := [d] }
  | _ => none }
def AllocFullWrongFalsely : Prop := allocFullRow.holds Try.pinned (OpenSpec.ofChange allocFullWrong)

/-- 'estafettelaw04.AllocApart': WHATEVER THE INPUT: true; the input reads as it did. -/
def allocApartSpec : ChangeSpec := { name := "allocApart", fn := fun _ => fun
  | [d] => { results := [.lit (.bool true)], args := [d] }
  | _ => none }
def allocApartRow : OpenClaim := { program := "ytaiobekochhemaa", sum := "29b7895a1e98ffc6559408e050bd3a89024448e29dc708c2d951d6d3543e142d", func := "estafette/estafettelaw04.AllocApart", spec := "allocApart", unfollowed := true, recurses := true, apart := false }
def AllocApartSaid : Prop := allocApartRow.holds Try.pinned (OpenSpec.ofChange allocApartSpec)

/-- ITS FALSE NEIGHBOUR: 'it returns false'. Refute it at one input. -/
def allocApartWrong : ChangeSpec := { name := "allocApart", fn := fun _ => fun
  | [d] => { results := [.lit (.bool false)], args := [d] }
  | _ => none }
def AllocApartWrongFalsely : Prop := allocApartRow.holds Try.pinned (OpenSpec.ofChange allocApartWrong)

/-- 'estafettelaw04.AllocAborts': WHATEVER THE INPUT: true; the input reads as it did. -/
def allocAbortsSpec : ChangeSpec := { name := "allocAborts", fn := fun _ => fun
  | [d1, d2] => { results := [.lit (.bool true)], args := [d1, d2] }
  | _ => none }
def allocAbortsRow : OpenClaim := { program := "ytaiobekochhemaa", sum := "29b7895a1e98ffc6559408e050bd3a89024448e29dc708c2d951d6d3543e142d", func := "estafette/estafettelaw04.AllocAborts", spec := "allocAborts", unfollowed := true, recurses := true, apart := false }
def AllocAbortsSaid : Prop := allocAbortsRow.holds Try.pinned (OpenSpec.ofChange allocAbortsSpec)

/-- ITS FALSE NEIGHBOUR: 'it returns false'. Refute it at one input. -/
def allocAbortsWrong : ChangeSpec := { name := "allocAborts", fn := fun _ => fun
  | [d1, d2] => { results := [.lit (.bool false)], args := [d1, d2] }
  | _ => none }
def AllocAbortsWrongFalsely : Prop := allocAbortsRow.holds Try.pinned (OpenSpec.ofChange allocAbortsWrong)

/- THE SECOND FORM. 'bulk': how many values and letters a reading holds, each counted each time it is reached (what is shared counts as often as it is met; a slice's spare places count too). A statement '..UptoSaid' is the law's where the arguments, and the package variables that the reading takes, are together of bulk at most 1048576: NARROWER than '..Said'. Prove '..Said' where nothing that the law and all that it calls make is longer than what came in: it says more and counts as full. Else prove '..UptoSaid'. A law counts once. -/
mutual
def uptoBulk {H : Type} : DataW H → Nat
  | .lit (.string bytes) => bytes.length + 1
  | .lit _ => 1
  | .nil => 1
  | .ptr d => uptoBulk d + 1
  | .slice elems spare => uptoBulkAll elems + uptoBulkAll spare + 1
  | .agg parts => uptoBulkAll parts + 1
  | .iface _ d => uptoBulk d + 1
  | .map entries => uptoBulkEntries entries + 1
  | .held _ => 1
def uptoBulkAll {H : Type} : List (DataW H) → Nat
  | [] => 0
  | d :: r => uptoBulk d + uptoBulkAll r
def uptoBulkEntries {H : Type} : List (Lit × DataW H) → Nat
  | [] => 0
  | x :: r => uptoBulkEntry x + uptoBulkEntries r
def uptoBulkEntry {H : Type} : Lit × DataW H → Nat
  | (.string bytes, d) => bytes.length + uptoBulk d + 1
  | (_, d) => uptoBulk d + 1
 end
def uptoSmall : (H : Type) → List (DataW H) → Bool := fun _ ds => decide (uptoBulkAll ds ≤ 1048576)
def OpenSpec.upto (s : _root_.Go.ChangeSpec) : _root_.Go.OpenSpec := { _root_.Go.OpenSpec.ofChange s with cond := some uptoSmall }

/-- 'estafettelaw04.AllocSizes', WHERE WHAT IT READS IS OF BULK AT MOST 1048576: true; the input reads as it did. -/
def allocSizesUptoRow : OpenClaim := { program := "ytaiobekochhemaa", sum := "29b7895a1e98ffc6559408e050bd3a89024448e29dc708c2d951d6d3543e142d", func := "estafette/estafettelaw04.AllocSizes", spec := "allocSizes", unfollowed := true, recurses := true, apart := false, narrowed := true }
def AllocSizesUptoSaid : Prop := allocSizesUptoRow.holds Try.pinned (OpenSpec.upto allocSizesSpec)

/-- 'estafettelaw03.CachePlays', WHERE WHAT IT READS IS OF BULK AT MOST 1048576: true; the input reads as it did. -/
def cachePlaysUptoRow : OpenClaim := { program := "ytaiobekochhemaa", sum := "29b7895a1e98ffc6559408e050bd3a89024448e29dc708c2d951d6d3543e142d", func := "estafette/estafettelaw03.CachePlays", spec := "cachePlays", unfollowed := true, recurses := true, apart := false, narrowed := true }
def CachePlaysUptoSaid : Prop := cachePlaysUptoRow.holds Try.pinned (OpenSpec.upto cachePlaysSpec)

/-- 'estafettelaw03.CacheBounds', WHERE WHAT IT READS IS OF BULK AT MOST 1048576: true; the input reads as it did. -/
def cacheBoundsUptoRow : OpenClaim := { program := "ytaiobekochhemaa", sum := "29b7895a1e98ffc6559408e050bd3a89024448e29dc708c2d951d6d3543e142d", func := "estafette/estafettelaw03.CacheBounds", spec := "cacheBounds", unfollowed := true, recurses := true, apart := false, narrowed := true }
def CacheBoundsUptoSaid : Prop := cacheBoundsUptoRow.holds Try.pinned (OpenSpec.upto cacheBoundsSpec)

/-- 'estafettelaw03.CacheAborts', WHERE WHAT IT READS IS OF BULK AT MOST 1048576: true; the input reads as it did. -/
def cacheAbortsUptoRow : OpenClaim := { program := "ytaiobekochhemaa", sum := "29b7895a1e98ffc6559408e050bd3a89024448e29dc708c2d951d6d3543e142d", func := "estafette/estafettelaw03.CacheAborts", spec := "cacheAborts", unfollowed := true, recurses := true, apart := false, narrowed := true }
def CacheAbortsUptoSaid : Prop := cacheAbortsUptoRow.holds Try.pinned (OpenSpec.upto cacheAbortsSpec)

/-- 'estafettelaw03.CacheReads', WHERE WHAT IT READS IS OF BULK AT MOST 1048576: true; the input reads as it did. -/
def cacheReadsUptoRow : OpenClaim := { program := "ytaiobekochhemaa", sum := "29b7895a1e98ffc6559408e050bd3a89024448e29dc708c2d951d6d3543e142d", func := "estafette/estafettelaw03.CacheReads", spec := "cacheReads", unfollowed := true, recurses := true, apart := false, narrowed := true }
def CacheReadsUptoSaid : Prop := cacheReadsUptoRow.holds Try.pinned (OpenSpec.upto cacheReadsSpec)

/-- 'estafettelaw03.CacheCrashes', WHERE WHAT IT READS IS OF BULK AT MOST 1048576: true; the input reads as it did. -/
def cacheCrashesUptoRow : OpenClaim := { program := "ytaiobekochhemaa", sum := "29b7895a1e98ffc6559408e050bd3a89024448e29dc708c2d951d6d3543e142d", func := "estafette/estafettelaw03.CacheCrashes", spec := "cacheCrashes", inPlace := ["maps.clone"], unfollowed := true, recurses := true, apart := false, narrowed := true }
def CacheCrashesUptoSaid : Prop := cacheCrashesUptoRow.holds Try.pinned (OpenSpec.upto cacheCrashesSpec)

/-- 'estafettelaw04.AllocFull', WHERE WHAT IT READS IS OF BULK AT MOST 1048576: true; the input reads as it did. -/
def allocFullUptoRow : OpenClaim := { program := "ytaiobekochhemaa", sum := "29b7895a1e98ffc6559408e050bd3a89024448e29dc708c2d951d6d3543e142d", func := "estafette/estafettelaw04.AllocFull", spec := "allocFull", unfollowed := true, recurses := true, apart := false, narrowed := true }
def AllocFullUptoSaid : Prop := allocFullUptoRow.holds Try.pinned (OpenSpec.upto allocFullSpec)

/-- 'estafettelaw04.AllocApart', WHERE WHAT IT READS IS OF BULK AT MOST 1048576: true; the input reads as it did. -/
def allocApartUptoRow : OpenClaim := { program := "ytaiobekochhemaa", sum := "29b7895a1e98ffc6559408e050bd3a89024448e29dc708c2d951d6d3543e142d", func := "estafette/estafettelaw04.AllocApart", spec := "allocApart", unfollowed := true, recurses := true, apart := false, narrowed := true }
def AllocApartUptoSaid : Prop := allocApartUptoRow.holds Try.pinned (OpenSpec.upto allocApartSpec)

/-- 'estafettelaw04.AllocAborts', WHERE WHAT IT READS IS OF BULK AT MOST 1048576: true; the input reads as it did. -/
def allocAbortsUptoRow : OpenClaim := { program := "ytaiobekochhemaa", sum := "29b7895a1e98ffc6559408e050bd3a89024448e29dc708c2d951d6d3543e142d", func := "estafette/estafettelaw04.AllocAborts", spec := "allocAborts", unfollowed := true, recurses := true, apart := false, narrowed := true }
def AllocAbortsUptoSaid : Prop := allocAbortsUptoRow.holds Try.pinned (OpenSpec.upto allocAbortsSpec)

end Rows
end Go.Proofs.Ytaiobekochhemaa
