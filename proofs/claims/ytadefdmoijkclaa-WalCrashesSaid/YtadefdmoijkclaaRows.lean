/-
  No cell of these rows narrows 'for every input' (looked for: loops, veiled, ifaces, maps, wideKeys, modest, calm, conditions, laid).
  DERIVED. THE GIVEN ROWS OF THIS SEAT. 5 by the template 'for every input the law returns true; each argument reads behind the call as it read before'; 0 by the template 'total and deterministic' (their statements: YtadefdmoijkclaaTotals.lean).
  GIVEN WITH THE SEED: the statements are not yours to turn. If you find one false, say at which input.
  Laid BY PROGRAM, IN A SANDBOX (cutbox-rows.mjs): the forced cells as the released guide's own fill.sh prints them over the translation 14818b2a91e0f11a… (all of the seat's roots in one cut). By AI agents, Wed Nov 11 2026. No macro, syntax, notation, axiom, sorry.
-/
import Derived.Test.YtadefdmoijkclaaChecked
import GoSem.Claim
import GoSem.ClaimJoined
import GoSem.ClaimMapViews
import Derived.JoinedTies
import Derived.KernelRfl
namespace Go.Proofs.Ytadefdmoijkclaa
/- THE CELL 'sum', in the pinned program and in every row, IS THE sha256 OF THE DUMP (.gsa) THAT YtadefdmoijkclaaProg.lean LOADS. Nothing in Lean hashes anything: it is a label: what it is worth is what the hold of that sum in a sandbox is worth. -/
noncomputable def Try.pinned : Pinned := { name := "ytadefdmoijkclaa", sum := "14818b2a91e0f11a7d290f552d5cfb87afadcd034f8811287b8e658d4db42245", checked := Try.checked }
namespace Rows
def none {H : Type} : Left H := { results := [], args := [] }

/-- 'estafettelaw02.WalArgs': WHATEVER THE INPUT: true; the input reads as it did. -/
def walArgsSpec : ChangeSpec := { name := "walArgs", fn := fun _ => fun
  | [d1, d2, d3] => { results := [.lit (.bool true)], args := [d1, d2, d3] }
  | _ => none }
def walArgsRow : OpenClaim := { program := "ytadefdmoijkclaa", sum := "14818b2a91e0f11a7d290f552d5cfb87afadcd034f8811287b8e658d4db42245", func := "estafette/estafettelaw02.WalArgs", spec := "walArgs", inPlace := ["maps.clone"], apart := false }
def WalArgsSaid : Prop := walArgsRow.holds Try.pinned (OpenSpec.ofChange walArgsSpec)

/-- ITS FALSE NEIGHBOUR: 'it returns false'. Refute it at one input. -/
def walArgsWrong : ChangeSpec := { name := "walArgs", fn := fun _ => fun
  | [d1, d2, d3] => { results := [.lit (.bool false)], args := [d1, d2, d3] }
  | _ => none }
def WalArgsWrongFalsely : Prop := walArgsRow.holds Try.pinned (OpenSpec.ofChange walArgsWrong)

/-- 'estafettelaw02.WalOrder': WHATEVER THE INPUT: true; the input reads as it did. -/
def walOrderSpec : ChangeSpec := { name := "walOrder", fn := fun _ => fun
  | [d1, d2] => { results := [.lit (.bool true)], args := [d1, d2] }
  | _ => none }
def walOrderRow : OpenClaim := { program := "ytadefdmoijkclaa", sum := "14818b2a91e0f11a7d290f552d5cfb87afadcd034f8811287b8e658d4db42245", func := "estafette/estafettelaw02.WalOrder", spec := "walOrder", inPlace := ["maps.clone"], apart := false }
def WalOrderSaid : Prop := walOrderRow.holds Try.pinned (OpenSpec.ofChange walOrderSpec)

/-- ITS FALSE NEIGHBOUR: 'it returns false'. Refute it at one input. -/
def walOrderWrong : ChangeSpec := { name := "walOrder", fn := fun _ => fun
  | [d1, d2] => { results := [.lit (.bool false)], args := [d1, d2] }
  | _ => none }
def WalOrderWrongFalsely : Prop := walOrderRow.holds Try.pinned (OpenSpec.ofChange walOrderWrong)

/-- 'estafettelaw02.WalApart': WHATEVER THE INPUT: true; the input reads as it did. -/
def walApartSpec : ChangeSpec := { name := "walApart", fn := fun _ => fun
  | [d] => { results := [.lit (.bool true)], args := [d] }
  | _ => none }
def walApartRow : OpenClaim := { program := "ytadefdmoijkclaa", sum := "14818b2a91e0f11a7d290f552d5cfb87afadcd034f8811287b8e658d4db42245", func := "estafette/estafettelaw02.WalApart", spec := "walApart", inPlace := ["maps.clone"], apart := false }
def WalApartSaid : Prop := walApartRow.holds Try.pinned (OpenSpec.ofChange walApartSpec)

/-- ITS FALSE NEIGHBOUR: 'it returns false'. Refute it at one input. -/
def walApartWrong : ChangeSpec := { name := "walApart", fn := fun _ => fun
  | [d] => { results := [.lit (.bool false)], args := [d] }
  | _ => none }
def WalApartWrongFalsely : Prop := walApartRow.holds Try.pinned (OpenSpec.ofChange walApartWrong)

/-- 'estafettelaw02.WalCrashes': WHATEVER THE INPUT: true; the input reads as it did. -/
def walCrashesSpec : ChangeSpec := { name := "walCrashes", fn := fun _ => fun
  | [d1, d2] => { results := [.lit (.bool true)], args := [d1, d2] }
  | _ => none }
def walCrashesRow : OpenClaim := { program := "ytadefdmoijkclaa", sum := "14818b2a91e0f11a7d290f552d5cfb87afadcd034f8811287b8e658d4db42245", func := "estafette/estafettelaw02.WalCrashes", spec := "walCrashes", inPlace := ["maps.clone"], apart := false }
def WalCrashesSaid : Prop := walCrashesRow.holds Try.pinned (OpenSpec.ofChange walCrashesSpec)

/-- ITS FALSE NEIGHBOUR: 'it returns false'. Refute it at one input. -/
def walCrashesWrong : ChangeSpec := { name := "walCrashes", fn := fun _ => fun
  | [d1, d2] => { results := [.lit (.bool false)], args := [d1, d2] }
  | _ => none }
def WalCrashesWrongFalsely : Prop := walCrashesRow.holds Try.pinned (OpenSpec.ofChange walCrashesWrong)

/-- 'estafettelaw02.WalRefuses': WHATEVER THE INPUT: true; the input reads as it did. -/
def walRefusesSpec : ChangeSpec := { name := "walRefuses", fn := fun _ => fun
  | [d] => { results := [.lit (.bool true)], args := [d] }
  | _ => none }
def walRefusesRow : OpenClaim := { program := "ytadefdmoijkclaa", sum := "14818b2a91e0f11a7d290f552d5cfb87afadcd034f8811287b8e658d4db42245", func := "estafette/estafettelaw02.WalRefuses", spec := "walRefuses", inPlace := ["maps.clone"], apart := false }
def WalRefusesSaid : Prop := walRefusesRow.holds Try.pinned (OpenSpec.ofChange walRefusesSpec)

/-- ITS FALSE NEIGHBOUR: 'it returns false'. Refute it at one input. -/
def walRefusesWrong : ChangeSpec := { name := "walRefuses", fn := fun _ => fun
  | [d] => { results := [.lit (.bool false)], args := [d] }
  | _ => none }
def WalRefusesWrongFalsely : Prop := walRefusesRow.holds Try.pinned (OpenSpec.ofChange walRefusesWrong)

/- THE SECOND FORM. 'bulk': how many values and letters a reading holds, each counted each time it is reached (what is shared counts as often as it is met; a slice's spare places count too). A statement '..UptoSaid' is the law's where the arguments, and the package variables that the reading takes, are together of bulk at most 1048576: NARROWER than '..Said'. Prove '..Said' where nothing that the law and all that it calls make is longer than what came in: it says more and counts as full. Else prove '..UptoSaid'. A law counts once. -/
mutual
def uptoBulk {H : Type} : DataW H → Nat
  | .lit (.string bytes) => bytes.length + 1
  | .lit _ => 1
  | .nil => 1
  | .ptr d => uptoBulk d + 1
  | .slice elems spare => uptoBulkAll elems + uptoBulkAll spare + 1
  | .agg parts => uptoBulkAll parts + 1
  | .iface _ d => uptoBulk d + 1
  | .map entries => uptoBulkEntries entries + 1
  | .held _ => 1
def uptoBulkAll {H : Type} : List (DataW H) → Nat
  | [] => 0
  | d :: r => uptoBulk d + uptoBulkAll r
def uptoBulkEntries {H : Type} : List (Lit × DataW H) → Nat
  | [] => 0
  | x :: r => uptoBulkEntry x + uptoBulkEntries r
def uptoBulkEntry {H : Type} : Lit × DataW H → Nat
  | (.string bytes, d) => bytes.length + uptoBulk d + 1
  | (_, d) => uptoBulk d + 1
 end
def uptoSmall : (H : Type) → List (DataW H) → Bool := fun _ ds => decide (uptoBulkAll ds ≤ 1048576)
def OpenSpec.upto (s : _root_.Go.ChangeSpec) : _root_.Go.OpenSpec := { _root_.Go.OpenSpec.ofChange s with cond := some uptoSmall }

/-- 'estafettelaw02.WalArgs', WHERE WHAT IT READS IS OF BULK AT MOST 1048576: true; the input reads as it did. -/
def walArgsUptoRow : OpenClaim := { program := "ytadefdmoijkclaa", sum := "14818b2a91e0f11a7d290f552d5cfb87afadcd034f8811287b8e658d4db42245", func := "estafette/estafettelaw02.WalArgs", spec := "walArgs", inPlace := ["maps.clone"], apart := false, narrowed := true }
def WalArgsUptoSaid : Prop := walArgsUptoRow.holds Try.pinned (OpenSpec.upto walArgsSpec)

/-- 'estafettelaw02.WalOrder', WHERE WHAT IT READS IS OF BULK AT MOST 1048576: true; the input reads as it did. -/
def walOrderUptoRow : OpenClaim := { program := "ytadefdmoijkclaa", sum := "14818b2a91e0f11a7d290f552d5cfb87afadcd034f8811287b8e658d4db42245", func := "estafette/estafettelaw02.WalOrder", spec := "walOrder", inPlace := ["maps.clone"], apart := false, narrowed := true }
def WalOrderUptoSaid : Prop := walOrderUptoRow.holds Try.pinned (OpenSpec.upto walOrderSpec)

/-- 'estafettelaw02.WalApart', WHERE WHAT IT READS IS OF BULK AT MOST 1048576: true; the input reads as it did. -/
def walApartUptoRow : OpenClaim := { program := "ytadefdmoijkclaa", sum := "14818b2a91e0f11a7d290f552d5cfb87afadcd034f8811287b8e658d4db42245", func := "estafette/estafettelaw02.WalApart", spec := "walApart", inPlace := ["maps.clone"], apart := false, narrowed := true }
def WalApartUptoSaid : Prop := walApartUptoRow.holds Try.pinned (OpenSpec.upto walApartSpec)

/-- 'estafettelaw02.WalCrashes', WHERE WHAT IT READS IS OF BULK AT MOST 1048576: true; the input reads as it did. -/
def walCrashesUptoRow : OpenClaim := { program := "ytadefdmoijkclaa", sum := "14818b2a91e0f11a7d290f552d5cfb87afadcd034f8811287b8e658d4db42245", func := "estafette/estafettelaw02.WalCrashes", spec := "walCrashes", inPlace := ["maps.clone"], apart := false, narrowed := true }
def WalCrashesUptoSaid : Prop := walCrashesUptoRow.holds Try.pinned (OpenSpec.upto walCrashesSpec)

/-- 'estafettelaw02.WalRefuses', WHERE WHAT IT READS IS OF BULK AT MOST 1048576: true; the input reads as it did. -/
def walRefusesUptoRow : OpenClaim := { program := "ytadefdmoijkclaa", sum := "14818b2a91e0f11a7d290f552d5cfb87afadcd034f8811287b8e658d4db42245", func := "estafette/estafettelaw02.WalRefuses", spec := "walRefuses", inPlace := ["maps.clone"], apart := false, narrowed := true }
def WalRefusesUptoSaid : Prop := walRefusesUptoRow.holds Try.pinned (OpenSpec.upto walRefusesSpec)

end Rows
end Go.Proofs.Ytadefdmoijkclaa
