/- Walks of the disk's functions, part 7: Clone; no condition. -/
import Derived.Test.YtadefdmoijkclaaDiskW6
namespace Go.Proofs.Ytadefdmoijkclaa
open Go.RowKit Go.MapKept

theorem i_disk : (Try.prog.info? 71).map (fun i => i.size) = some 7 := by kernel_rfl
theorem z_disk (w : World) : (zeroValue 71).run Try.prog w = .ok (.agg #[.int .i64 0, .map none, .map none, .slice none 0 0, .bool false, .int .i64 0, .int .i64 0]) w := by kernel_rfl
noncomputable def f_disk : Array Field := match Try.prog.underlying 71 with | some (.struct fs) => fs | _ => #[]
theorem u_disk : Try.prog.underlying 71 = some (.struct f_disk) := by kernel_rfl

theorem oneCell_waits (l : List (Nat × Sec)) : ∀ u ∈ waitCells l, u.oneCell' = true := by
  intro u hu
  obtain ⟨p, _, hu⟩ := List.mem_flatMap.1 hu
  simp only [List.mem_cons] at hu
  rcases hu with rfl | hu
  · rfl
  · exact oneCell_cellsV _ _ hu

end Go.Proofs.Ytadefdmoijkclaa
