/- The log's statements: their small functions; no condition. -/
import Derived.Test.YtaiobekochhemaaWalW7
namespace Go.Proofs.Ytaiobekochhemaa
open Go.RowKit Go.MapKept

/-- A sector of one byte, and another one at its end. -/
def fullS (c e : UInt8) : Sec := List.replicate 63 c ++ [e]
theorem fullS_length (c e : UInt8) : (fullS c e).length = 64 := by simp [fullS]

def partS (c : UInt8) (k : Nat) : Sec := List.replicate k c ++ List.replicate (64 - k) 0

theorem partS_set (c : UInt8) (k : Nat) (hk : k < 64) : (cellsV (partS c k)).toArray.setIfInBounds k (byteV c) = (cellsV (partS c (k + 1))).toArray := by
  apply Array.toList_inj.1
  simp only [Array.toList_setIfInBounds, cellsV, partS, List.map_append, List.map_replicate]
  rw [List.set_append_right _ _ (by simp)]
  simp only [List.length_replicate, Nat.sub_self]
  rw [show 64 - k = (64 - (k + 1)) + 1 by omega, List.replicate_succ, List.set_cons_zero, List.replicate_succ']
  simp

end Go.Proofs.Ytaiobekochhemaa
