/- The statements of the cache: their small functions; no condition. -/
import Derived.Test.YtaiobekochhemaaCacheW13
namespace Go.Proofs.Ytaiobekochhemaa
open Go.RowKit Go.MapKept

/-- A sector of one byte. -/
def fullB (c : UInt8) : Sec := List.replicate 64 c

theorem fullB_length (c : UInt8) : (fullB c).length = 64 := by simp [fullB]

def partB (c : UInt8) (k : Nat) : Sec := List.replicate k c ++ List.replicate (64 - k) 0

theorem partB_set (c : UInt8) (k : Nat) (hk : k < 64) : (cellsV (partB c k)).toArray.setIfInBounds k (byteV c) = (cellsV (partB c (k + 1))).toArray := by
  apply Array.toList_inj.1
  simp only [Array.toList_setIfInBounds, cellsV, partB, List.map_append, List.map_replicate]
  rw [List.set_append_right _ _ (by simp)]
  simp only [List.length_replicate, Nat.sub_self]
  rw [show 64 - k = (64 - (k + 1)) + 1 by omega, List.replicate_succ, List.set_cons_zero, List.replicate_succ']
  simp

set_option maxRecDepth 100000 in
set_option maxHeartbeats 400000 in
theorem full_any {R : Assn} {w : World} (h : Bears w R) (c : UInt8) :
    Calls Try.prog 26 #[byteV c] w fun e w' => ∃ g, e = .returned (.slice (some ⟨g, 0, none⟩) 64 64) ∧ Bears w' (Assn.obj g (.cells (cellsV (fullB c)).toArray 5 (0, 0)) * R) := by
  have hmk : ∀ w, (Instr.makeSlice 43 (.int .i64 64) (.int .i64 64)).run Try.prog w = .ok (.slice (some ⟨w.heap.size, 0, none⟩) 64 64) (w.alloc (.cells (cellsV (partB c 0)).toArray 5)) := fun _ => by kernel_rfl
  have hc : c.toNat < 256 := c.toNat_lt
  unfold byteV
  generalize hv : (c.toNat : Int) = cv
  have Hv := Lib.hid hv
  clear hv
  go_enter Try.func26, Try.ntmps26
  go_wp2_with fail
  go_loopw [4] (fun i wr => ∃ k : Nat, k ≤ 64 ∧ i = .int .i64 k ∧ Bears wr (Assn.obj w.heap.size (.cells (cellsV (partB c k)).toArray 5 (0, 0)) * R))
    (fun i _ => 64 - (intOf i).toNat)
  case atStart => exact ⟨0, by omega, rfl, h.alloc _⟩
  case round =>
    obtain ⟨k, hk, rfl, h1⟩ := hrel
    by_cases hlt : k < 64
    · obtain ⟨v0, c1⟩ : ∃ v0, wr.cell? ⟨w.heap.size, k, none⟩ = some v0 := ⟨_, by rw [cell_of_obj h1.obj]; exact Array.getElem?_eq_getElem (by simp [partB]; omega)⟩
      have f1 := frozen_of_obj h1.obj k
      go_wp2
      go_roundw
      case rel =>
        refine ⟨k + 1, hlt, by go_num, ?_⟩
        rw [← partB_set c k hlt]
        have := h1.setCell (i := k) (byteV c)
        unfold byteV at this ⊢
        rw [Hv.out] at this ⊢
        exact this
      case measure => simp [intOf]; omega
    · obtain rfl : k = 64 := by omega
      go_wp2
      go_ret
      exact ⟨_, rfl, h1.cast (by simp [partB, fullB])⟩

set_option maxHeartbeats 400000 in
theorem kind_any (c n : Int) (w : World) (h0 : -9223372036854775808 ≤ c ∧ c ≤ 9223372036854775807) (hn : 0 < n ∧ n < 9223372036854775807) :
    Calls Try.prog 21 #[.int .i64 c, .int .i64 n] w fun e w' => e = .returned (.int .i64 (if c < 0 then (-(c + 1)) % n else c % n)) ∧ w = w' := by
  obtain ⟨h0, h1⟩ := h0
  obtain ⟨hn, hn1⟩ := hn
  by_cases hc : c < 0
  · have e : -(c + 1).tmod n = (-(c + 1)) % n := by rw [← Int.neg_tmod, Int.tmod_eq_emod_of_nonneg (by omega)]
    have He := Lib.hid e
    clear e
    go_enter Try.func21, Try.ntmps21
    go_wp2
    go_ret
    refine ⟨?_, rfl⟩
    exact congrArg (fun x => Ending.returned (.int .i64 x)) He.out
  · have e : c.tmod n = c % n := Int.tmod_eq_emod_of_nonneg (by omega)
    have He := Lib.hid e
    clear e
    go_enter Try.func21, Try.ntmps21
    go_wp2
    go_ret
    refine ⟨?_, rfl⟩
    first | rfl | exact congrArg (fun x => Ending.returned (.int .i64 x)) He.out | exact congrArg (fun x => Ending.returned (.int .i64 x)) (He.out.trans (if_neg (by omega)).symm)

end Go.Proofs.Ytaiobekochhemaa
