/- Walks of the disk's functions, part 5: Boot, Clone; no condition. -/
import Derived.Test.YtaiobekochhemaaDiskW4
import Derived.Shelf.SlMaps.Clone
import Derived.Lib.SliceRun
namespace Go.Proofs.Ytaiobekochhemaa
open Go.RowKit Go.MapKept

set_option maxRecDepth 100000 in
set_option maxHeartbeats 400000 in
theorem mclone_any {b : Nat} {l : List (Int × Value)} {R : Assn} {w : World} (h : Bears w (mapA b l * R)) :
    Calls Try.prog 87 #[.map (some b)] w fun e w' => ∃ b', e = .returned (.map (some b')) ∧ Bears w' (mapA b' l * (mapA b l * R)) := by
  obtain ⟨es, clock, hm, h0⟩ := h.ofMapA
  have hq := fun w => run_eql_map_nil (P := Try.prog) w 89 _ _ (some b) u_secmap
  go_enter Try.func87, Try.ntmps87
  go_wp2
  rw [run_callFunc_extern Try.func116 (by kernel_rfl) (by kernel_rfl) (by kernel_rfl) (e := Extern.MapsClone.clone) (by kernel_rfl), run_maps_clone_sl w 89 h0.obj]
  simp only [Result.andThen]
  rw [Oper.upon_value]
  go_wp2
  rw [run_typeAssert_map_sl _ 89 20 _ _ _ u_secmap]
  simp only [Result.andThen]
  rw [Oper.upon_value]
  go_wp2
  go_ret
  exact ⟨_, rfl, (((h0.toMapA hm).alloc (.map es clock)).toMapA hm)⟩

set_option maxRecDepth 100000 in
set_option maxHeartbeats 400000 in
theorem sclone_any {v : Value} {n : Nat} {xs : List Value} {R : Assn} {w : World} (h : Bears w (rowA 128 65 v n xs * R)) (h1 : ∀ u ∈ xs, u.oneCell' = true) (hn : n < 1099511627776) :
    Calls Try.prog 88 #[v] w fun e w' => ∃ v', e = .returned v' ∧ Bears w' (rowA 128 65 v' n xs * (rowA 128 65 v n xs * R)) := by
  obtain ⟨i0, hi0, hz0, hz1, hz2⟩ := info_parts i_write
  obtain ⟨hl, h0⟩ := h.row
  rcases h0 with ⟨rfl, rfl⟩ | ⟨g, cap, cur, rfl, _, hg, hnc, hm, hs, ht⟩
  · have hq := fun w => Lib.run_eql_slice_nil (P := Try.prog) w 90 _ none 0 0 0 0 u_waits
    obtain rfl : xs = [] := List.eq_nil_of_length_eq_zero (by simpa using hl)
    go_enter Try.func88, Try.ntmps88
    go_wp2
    go_ret
    exact ⟨_, rfl, Bears.nilRow.2 h⟩
  · have hq := fun w => Lib.run_eql_slice_nil (P := Try.prog) w 90 _ (some ⟨g, 0, none⟩) n cap 0 0 u_waits
    have h2 := h.alloc (.cells #[] 128)
    have h3 : Bears (w.alloc (.cells #[] 128)) (rowA 128 65 (.slice (some ⟨w.heap.size, 0, none⟩) 0 0) 0 [] * (rowA 128 65 (.slice (some ⟨g, 0, none⟩) n cap) n xs * R)) := by
      obtain ⟨F, G, H, ⟨hb, rfl⟩, hR, hd, rfl⟩ := h2
      exact ⟨_, _, H, ⟨⟨by simp, .inr ⟨w.heap.size, 0, #[], rfl, Nat.zero_le _, hb, Nat.le_refl _, Nat.zero_le _, by simp, by simp⟩⟩, by funext b; simp [Value.ownBlock, eq_comm]⟩, hR, hd, rfl⟩
    have hnews : ∀ j u, xs[j]? = some u → (w.alloc (.cells #[] 128)).cell? ((⟨g, 0, none⟩ : Addr).add j) = some u := fun j u hu => h3.right.row.cells (g := g) rfl j u hu
    clear hg
    go_enter Try.func88, Try.ntmps88
    go_wp2_with (at_builtin; refine wpList_append_bears h3 rfl rfl u_waits hi0 hz0 hz1 hz2 (by simp [Value.cells, zeroSec]) (by decide) rfl (ad := ⟨g, 0, none⟩) (m := n) (c := cap) (news := xs) rfl hl hnews h1 (by unfold maxLen; omega) (by omega) ?_; intro a' c' w3 h4)
    go_ret
    exact ⟨_, rfl, h4.cast (by simp)⟩

end Go.Proofs.Ytaiobekochhemaa
