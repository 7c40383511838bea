/- Walks of the disk's functions, part 7: Clone; no condition. -/
import Derived.Test.YtaiobekochhemaaDiskW6
namespace Go.Proofs.Ytaiobekochhemaa
open Go.RowKit Go.MapKept

theorem i_disk : (Try.prog.info? 92).map (fun i => i.size) = some 7 := by kernel_rfl
theorem z_disk (w : World) : (zeroValue 92).run Try.prog w = .ok (.agg #[.int .i64 0, .map none, .map none, .slice none 0 0, .bool false, .int .i64 0, .int .i64 0]) w := by kernel_rfl
noncomputable def f_disk : Array Field := match Try.prog.underlying 92 with | some (.struct fs) => fs | _ => #[]
theorem u_disk : Try.prog.underlying 92 = some (.struct f_disk) := by kernel_rfl

theorem oneCell_waits (l : List (Nat × Sec)) : ∀ u ∈ waitCells l, u.oneCell' = true := by
  intro u hu
  obtain ⟨p, _, hu⟩ := List.mem_flatMap.1 hu
  simp only [List.mem_cons] at hu
  rcases hu with rfl | hu
  · rfl
  · exact oneCell_cellsV _ _ hu

set_option maxRecDepth 100000 in
set_option maxHeartbeats 400000 in
theorem clone_any {p : Nat} {d : DiskM} {R : Assn} {w : World} (h : Bears w (diskA p d * R)) (hroom : d.waits.length < 1099511627776) :
    Calls Try.prog 41 #[.pointer (some ⟨p, 0, none⟩)] w fun e w' => ∃ q, e = .returned (.pointer (some ⟨q, 0, none⟩)) ∧ Bears w' (diskA q d * (diskA p d * R)) := by
  obtain ⟨ms, mn, wv, ls, ln, hwf, hs, hn, h2⟩ := Bears.disk.1 h
  obtain ⟨a, c, rfl, hnc, hcm, hrow⟩ := h2.pull2.rowForm
  clear hrow
  have hr := rangeAt_of_obj h2.obj
  go_enter Try.func41, Try.ntmps41
  go_wp2_with (first
    | (refine wpList_load_mid rfl 92 _ rfl p 0 rfl _ _ hr u_disk rfl i_disk ?_)
    | (refine wpList_alloc_z rfl rfl (z_disk _) ?_)
    | (refine wpList_store_obj (h2.alloc _) rfl rfl rfl rfl rfl i_disk ?_ ?_; (intro v hv; simp at hv; rcases hv with rfl | rfl | rfl | rfl | rfl | rfl | rfl <;> rfl); intro w2 h4))
  obtain ⟨hc, _⟩ := disk_cells h4.pull2
  have c1 := hc 1
  have c2 := hc 2
  have c3 := hc 3
  simp at c1 c2 c3
  clear hc hr h2 h
  refine wp_region_L (fun w' => w'.cell? ⟨p, 1, none⟩ = some (.map (some ms)) ∧ w'.cell? ⟨p, 2, none⟩ = some (.map (some mn)) ∧ w'.cell? ⟨p, 3, none⟩ = some (.slice a d.waits.length c)) 19
    [(true, 0), (true, 1), (true, 2), (true, 3), (true, 5), (true, 6), (true, 7), (true, 8), (true, 10), (true, 11), (true, 12), (true, 13), (false, 4), (false, 9), (false, 14), (true, 15), (false, 16), (true, 17), (false, 18)] [(true, 19), (false, 20)]
    (by kernel_rfl) (by kernel_rfl) ⟨c1, c2, c3⟩ ?_
  simp only [pick, List.getElem?_cons_zero, List.getElem?_cons_succ]
  clear c1 c2 c3
  refine wpL_yield (v := ?_) rfl (fun w' hS => ?_) ?_
  rotate_left
  · (obtain ⟨s1, s2, s3⟩ := hS; go_simp; try with_reducible rfl)
  simp only [Act.put, List.setIfInBounds_toArray, List.set_cons_zero, List.set_cons_succ]
  refine wpL_yield (v := ?_) rfl (fun w' hS => ?_) ?_
  rotate_left
  · (obtain ⟨s1, s2, s3⟩ := hS; go_simp; try with_reducible rfl)
  simp only [Act.put, List.setIfInBounds_toArray, List.set_cons_zero, List.set_cons_succ]
  refine wpL_yield (v := ?_) rfl (fun w' hS => ?_) ?_
  rotate_left
  · (obtain ⟨s1, s2, s3⟩ := hS; go_simp; try with_reducible rfl)
  simp only [Act.put, List.setIfInBounds_toArray, List.set_cons_zero, List.set_cons_succ]
  refine wpL_yield (v := ?_) rfl (fun w' hS => ?_) ?_
  rotate_left
  · (obtain ⟨s1, s2, s3⟩ := hS; go_simp; try with_reducible rfl)
  simp only [Act.put, List.setIfInBounds_toArray, List.set_cons_zero, List.set_cons_succ]
  refine wpL_yield (v := ?_) rfl (fun w' hS => ?_) ?_
  rotate_left
  · (obtain ⟨s1, s2, s3⟩ := hS; go_simp; try with_reducible rfl)
  simp only [Act.put, List.setIfInBounds_toArray, List.set_cons_zero, List.set_cons_succ]
  refine wpL_yield (v := ?_) rfl (fun w' hS => ?_) ?_
  rotate_left
  · (obtain ⟨s1, s2, s3⟩ := hS; go_simp; try with_reducible rfl)
  simp only [Act.put, List.setIfInBounds_toArray, List.set_cons_zero, List.set_cons_succ]
  refine wpL_yield (v := ?_) rfl (fun w' hS => ?_) ?_
  rotate_left
  · (obtain ⟨s1, s2, s3⟩ := hS; go_simp; try with_reducible rfl)
  simp only [Act.put, List.setIfInBounds_toArray, List.set_cons_zero, List.set_cons_succ]
  refine wpL_yield (v := ?_) rfl (fun w' hS => ?_) ?_
  rotate_left
  · (obtain ⟨s1, s2, s3⟩ := hS; go_simp; try with_reducible rfl)
  simp only [Act.put, List.setIfInBounds_toArray, List.set_cons_zero, List.set_cons_succ]
  refine wpL_yield (v := ?_) rfl (fun w' hS => ?_) ?_
  rotate_left
  · (obtain ⟨s1, s2, s3⟩ := hS; go_simp; try with_reducible rfl)
  simp only [Act.put, List.setIfInBounds_toArray, List.set_cons_zero, List.set_cons_succ]
  refine wpL_yield (v := ?_) rfl (fun w' hS => ?_) ?_
  rotate_left
  · (obtain ⟨s1, s2, s3⟩ := hS; go_simp; try with_reducible rfl)
  simp only [Act.put, List.setIfInBounds_toArray, List.set_cons_zero, List.set_cons_succ]
  refine wpL_yield (v := ?_) rfl (fun w' hS => ?_) ?_
  rotate_left
  · (obtain ⟨s1, s2, s3⟩ := hS; go_simp; try with_reducible rfl)
  simp only [Act.put, List.setIfInBounds_toArray, List.set_cons_zero, List.set_cons_succ]
  refine wpL_yield (v := ?_) rfl (fun w' hS => ?_) ?_
  rotate_left
  · (obtain ⟨s1, s2, s3⟩ := hS; go_simp; try with_reducible rfl)
  simp only [Act.put, List.setIfInBounds_toArray, List.set_cons_zero, List.set_cons_succ]
  refine wpL_eff rfl ?_
  go_simp
  refine (mclone_any h4.drew.pull4).mono ?_
  rintro e w5 ⟨b1, rfl, h5⟩
  refine ⟨?_, ?_⟩
  · obtain ⟨hc, _⟩ := disk_cells h5.pull4
    exact ⟨hc 1, hc 2, hc 3⟩
  refine wpL_eff rfl ?_
  go_simp
  refine (mclone_any h5.pull6).mono ?_
  rintro e w6 ⟨b2, rfl, h6⟩
  refine ⟨?_, ?_⟩
  · obtain ⟨hc, _⟩ := disk_cells h6.pull6
    exact ⟨hc 1, hc 2, hc 3⟩
  refine wpL_eff rfl ?_
  go_simp
  refine (sclone_any h6.pull7 (oneCell_waits _) hroom).mono ?_
  rintro e w7 ⟨v', rfl, h7⟩
  obtain ⟨a', c', rfl, _⟩ := h7.rowForm
  clear h4 h5 h6
  refine ⟨?_, ?_⟩
  · obtain ⟨hc, _⟩ := disk_cells h7.pull8
    exact ⟨hc 1, hc 2, hc 3⟩
  have h8 := h7.pull7
  have k1 := (disk_cells h8).1 1
  have k2 := (disk_cells h8).1 2
  have k3 := (disk_cells h8).1 3
  have g1 := (disk_cells h8).2 1
  have g2 := (disk_cells h8).2 2
  have g3 := (disk_cells h8).2 3
  have hd8 := disk_cells h7.pull8
  have e1 := hd8.1 1
  have e2 := hd8.1 2
  have e3 := hd8.1 3
  have hne : p ≠ w.heap.size := h8.pull8.ne
  have hne' := Ne.symm hne
  simp at k1 k2 k3 e1 e2 e3
  clear hd8
  refine wpL_yield (v := ?_) rfl (fun w' hS => ?_) ?_
  rotate_left
  · (go_simp; try with_reducible rfl)
  simp only [Act.put, List.setIfInBounds_toArray, List.set_cons_zero, List.set_cons_succ]
  refine wpL_store _ _ _ rfl rfl rfl rfl (by go_simp; rfl) ⟨by go_simp, by go_simp, by go_simp⟩ ?_
  refine wpL_yield (v := ?_) rfl (fun w' hS => ?_) ?_
  rotate_left
  · (go_simp; try with_reducible rfl)
  simp only [Act.put, List.setIfInBounds_toArray, List.set_cons_zero, List.set_cons_succ]
  refine wpL_store _ _ _ rfl rfl rfl rfl (by go_simp; rfl) ⟨by go_simp, by go_simp, by go_simp⟩ ?_
  refine wpL_nil ?_
  refine wpL_yield (v := ?_) rfl (fun w' hS => ?_) ?_
  rotate_left
  · (go_simp; try with_reducible rfl)
  simp only [Act.put, List.setIfInBounds_toArray, List.set_cons_zero, List.set_cons_succ]
  refine wpL_store _ _ _ rfl rfl rfl rfl (by go_simp; rfl) trivial ?_
  refine wpL_nil ?_
  go_wp2
  go_ret
  have h9 := (((h8.setCell (i := 1) (.map (some b1))).setCell (i := 2) (.map (some b2))).setCell (i := 3) (.slice a' d.waits.length c'))
  refine ⟨w.heap.size, rfl, Bears.disk.2 ⟨b1, b2, .slice a' d.waits.length c', ls, ln, hwf, hs, hn, ?_⟩⟩
  have h10 : Bears _ (diskObj p d ms mn (.slice a d.waits.length c) * (rowA 128 65 (.slice a d.waits.length c) d.waits.length (waitCells d.waits) * (mapA ms ls * (mapA mn ln * (Assn.obj w.heap.size _ *
    (rowA 128 65 (.slice a' d.waits.length c') d.waits.length (waitCells d.waits) * (mapA b1 ls * (mapA b2 ln * R)))))))) := h9.cast (by ac_rfl)
  have h11 := Bears.disk.2 ⟨ms, mn, .slice a d.waits.length c, ls, ln, hwf, hs, hn, h10⟩
  refine h11.cast ?_
  simp [diskObj]
  ac_rfl

end Go.Proofs.Ytaiobekochhemaa
