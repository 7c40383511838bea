/- Parts of a function's code, taken out of the translation; no condition. -/
import Derived.WalkKit
namespace Go.Proofs.Ytadefdmoijkclaa

/-- Does this code begin with region n? -/
def headIs (n : Nat) : Code → Bool
  | .region id _ _ => id == n
  | .seq a _ => headIs n a
  | _ => false
/-- The rest of a sequence from region n on. -/
def tailAt (n : Nat) : Code → Option Code
  | .seq a b => if headIs n a then some (.seq a b) else match tailAt n b with
    | some c => some c
    | none => tailAt n a
  | .region id o d => if id == n then some (.region id o d) else none
  | .block _ c => tailAt n c
  | .loop c => tailAt n c
  | .scope c => tailAt n c
  | .cond _ a b => match tailAt n a with
    | some c => some c
    | none => tailAt n b
  | _ => none

/-- Block n. -/
def blockAt (n : Nat) : Code → Option Code
  | .block id c => if id == n then some (.block id c) else blockAt n c
  | .seq a b => match blockAt n a with
    | some c => some c
    | none => blockAt n b
  | .loop c => blockAt n c
  | .scope c => blockAt n c
  | .cond _ a b => match blockAt n a with
    | some c => some c
    | none => blockAt n b
  | _ => none

end Go.Proofs.Ytadefdmoijkclaa
