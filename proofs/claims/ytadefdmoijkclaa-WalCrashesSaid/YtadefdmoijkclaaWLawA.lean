/- The log's statements: their small functions; no condition. -/
import Derived.Test.YtadefdmoijkclaaWalW7
namespace Go.Proofs.Ytadefdmoijkclaa
open Go.RowKit Go.MapKept

/-- A sector of one byte, and another one at its end. -/
def fullS (c e : UInt8) : Sec := List.replicate 63 c ++ [e]
theorem fullS_length (c e : UInt8) : (fullS c e).length = 64 := by simp [fullS]

def partS (c : UInt8) (k : Nat) : Sec := List.replicate k c ++ List.replicate (64 - k) 0

theorem partS_set (c : UInt8) (k : Nat) (hk : k < 64) : (cellsV (partS c k)).toArray.setIfInBounds k (byteV c) = (cellsV (partS c (k + 1))).toArray := by
  apply Array.toList_inj.1
  simp only [Array.toList_setIfInBounds, cellsV, partS, List.map_append, List.map_replicate]
  rw [List.set_append_right _ _ (by simp)]
  simp only [List.length_replicate, Nat.sub_self]
  rw [show 64 - k = (64 - (k + 1)) + 1 by omega, List.replicate_succ, List.set_cons_zero, List.replicate_succ']
  simp

set_option maxRecDepth 100000 in
set_option maxHeartbeats 400000 in
theorem wfull_any {R : Assn} {w : World} (h : Bears w R) (c c2 : UInt8) :
    Calls Try.prog 14 #[byteV c, byteV c2] w fun e w' => ∃ g, e = .returned (.slice (some ⟨g, 0, none⟩) 64 64) ∧ Bears w' (Assn.obj g (.cells (cellsV (fullS c c2)).toArray 5 (0, 0)) * R) := by
  have hmk : ∀ w, (Instr.makeSlice 34 (.int .i64 64) (.int .i64 64)).run Try.prog w = .ok (.slice (some ⟨w.heap.size, 0, none⟩) 64 64) (w.alloc (.cells (cellsV (partS c 0)).toArray 5)) := fun _ => by kernel_rfl
  have hc : c.toNat < 256 := c.toNat_lt
  have hc2 : c2.toNat < 256 := c2.toNat_lt
  unfold byteV
  generalize hv : (c.toNat : Int) = cv
  generalize hv2 : (c2.toNat : Int) = cv2
  have Hv := Lib.hid hv
  have Hv2 := Lib.hid hv2
  clear hv hv2
  go_enter Try.func14, Try.ntmps14
  go_wp2_with fail
  go_loopw [6] (fun i wr => ∃ k : Nat, k ≤ 64 ∧ i = .int .i64 k ∧ Bears wr (Assn.obj w.heap.size (.cells (cellsV (partS c k)).toArray 5 (0, 0)) * R))
    (fun i _ => 64 - (intOf i).toNat)
  case atStart => exact ⟨0, by omega, rfl, h.alloc _⟩
  case round =>
    obtain ⟨k, hk, rfl, h1⟩ := hrel
    by_cases hlt : k < 64
    · obtain ⟨v0, c1⟩ : ∃ v0, wr.cell? ⟨w.heap.size, k, none⟩ = some v0 := ⟨_, by rw [cell_of_obj h1.obj]; exact Array.getElem?_eq_getElem (by simp [partS]; omega)⟩
      have f1 := frozen_of_obj h1.obj k
      go_wp2
      go_roundw
      case rel =>
        refine ⟨k + 1, hlt, by go_num, ?_⟩
        rw [← partS_set c k hlt]
        have := h1.setCell (i := k) (byteV c)
        unfold byteV at this ⊢
        rw [Hv.out] at this ⊢
        exact this
      case measure => simp [intOf]; omega
    · obtain rfl : k = 64 := by omega
      obtain ⟨v0, c1⟩ : ∃ v0, wr.cell? ⟨w.heap.size, 63, none⟩ = some v0 := ⟨_, by rw [cell_of_obj h1.obj]; exact Array.getElem?_eq_getElem (by simp [partS])⟩
      have f1 := frozen_of_obj h1.obj 63
      have h2 := h1.setByte 63 c2
      have e : (partS c 64).set 63 c2 = fullS c c2 := by simp [partS, fullS, List.replicate_succ]
      rw [e] at h2
      unfold byteV at h2
      rw [Hv2.out] at h2
      go_wp2
      go_ret
      exact ⟨_, rfl, h2⟩

set_option maxHeartbeats 400000 in
theorem among_any (c n : Int) (w : World) (h0 : -9223372036854775808 ≤ c ∧ c ≤ 9223372036854775807) (hn : 0 < n ∧ n < 9223372036854775807) :
    Calls Try.prog 19 #[.int .i64 c, .int .i64 n] w fun e w' => e = .returned (.int .i64 (if c < 0 then (-(c + 1)) % n else c % n)) ∧ w = w' := by
  obtain ⟨h0, h1⟩ := h0
  obtain ⟨hn, hn1⟩ := hn
  by_cases hc : c < 0
  · have e : -(c + 1).tmod n = (-(c + 1)) % n := by rw [← Int.neg_tmod, Int.tmod_eq_emod_of_nonneg (by omega)]
    have He := Lib.hid e
    clear e
    go_enter Try.func19, Try.ntmps19
    go_wp2
    go_ret
    refine ⟨?_, rfl⟩
    exact congrArg (fun x => Ending.returned (.int .i64 x)) He.out
  · have e : c.tmod n = c % n := Int.tmod_eq_emod_of_nonneg (by omega)
    have He := Lib.hid e
    clear e
    go_enter Try.func19, Try.ntmps19
    go_wp2
    go_ret
    refine ⟨?_, rfl⟩
    first | rfl | exact congrArg (fun x => Ending.returned (.int .i64 x)) He.out | exact congrArg (fun x => Ending.returned (.int .i64 x)) (He.out.trans (if_neg (by omega)).symm)

end Go.Proofs.Ytadefdmoijkclaa
