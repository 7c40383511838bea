/- Walks of the disk's functions, part 5: Boot, Clone; no condition. -/
import Derived.Test.YtadefdmoijkclaaDiskW4
import Derived.Shelf.SlMaps.Clone
import Derived.Lib.SliceRun
namespace Go.Proofs.Ytadefdmoijkclaa
open Go.RowKit Go.MapKept

set_option maxHeartbeats 400000 in
theorem mclone_any {b : Nat} {l : List (Int × Value)} {R : Assn} {w : World} (h : Bears w (mapA b l * R)) :
    Calls Try.prog 38 #[.map (some b)] w fun e w' => ∃ b', e = .returned (.map (some b')) ∧ Bears w' (mapA b' l * (mapA b l * R)) := by
  obtain ⟨es, clock, hm, h0⟩ := h.ofMapA
  have hq := fun w => run_eql_map_nil (P := Try.prog) w 68 _ _ (some b) u_secmap
  go_enter Try.func38, Try.ntmps38
  go_wp2
  rw [run_callFunc_extern Try.func41 (by kernel_rfl) (by kernel_rfl) (by kernel_rfl) (e := Extern.MapsClone.clone) (by kernel_rfl), run_maps_clone_sl w 68 h0.obj]
  simp only [Result.andThen]
  rw [Oper.upon_value]
  go_wp2
  rw [run_typeAssert_map_sl _ 68 20 _ _ _ u_secmap]
  simp only [Result.andThen]
  rw [Oper.upon_value]
  go_wp2
  go_ret
  exact ⟨_, rfl, (((h0.toMapA hm).alloc (.map es clock)).toMapA hm)⟩

end Go.Proofs.Ytadefdmoijkclaa
