/- Walks of the disk's functions, part 2: Write; no condition. -/
import Derived.Test.YtaiobekochhemaaDiskW1
import Derived.Test.YtaiobekochhemaaRegion
namespace Go.Proofs.Ytaiobekochhemaa
open Go.RowKit Go.MapKept

theorem u_sector : Try.prog.underlying 125 = some (.array 64 5) := by kernel_rfl

theorem u_int : Try.prog.underlying 3 = some (.int .i64) := by kernel_rfl
theorem u_secmap : Try.prog.underlying 89 = some (.map 3 125) := by kernel_rfl
theorem i_sector : (Try.prog.info? 125).map (·.size) = some 64 := by kernel_rfl

theorem u_waits : Try.prog.underlying 90 = some (.slice 128) := by kernel_rfl
theorem i_write : (Try.prog.info? 128).map (fun i => (i.zero, i.size, i.bytes)) = some (some (.agg (.int .i64 0 :: cellsV zeroSec).toArray), 65, 72) := by kernel_rfl
theorem s_write : (Try.prog.info? 128).map (fun i => i.size) = some 65 := by kernel_rfl
theorem z_write (w : World) : (zeroValue 128).run Try.prog w = .ok (.agg (.int .i64 0 :: cellsV zeroSec).toArray) w := by kernel_rfl
noncomputable def f_write : Array Field := match Try.prog.underlying 128 with | some (.struct fs) => fs | _ => #[]
theorem u_write : Try.prog.underlying 128 = some (.struct f_write) := by kernel_rfl
theorem p_write (w : World) : (f_write.mapM (fun f => do pure (f.offset, ← sizeOf f.type) : Field → Sem (Nat × Nat))).run Try.prog w = .ok #[(0, 1), (1, 64)] w := by kernel_rfl

/-- A write, made of its place and its bytes. -/
theorem build_write (x : Int) (l : List UInt8) (hl : l.length = 64) (w : World) :
    (Instr.build 128 #[(0, .int .i64 x), (1, .agg (cellsV l).toArray)]).run Try.prog w = .ok (.agg (.int .i64 x :: cellsV l).toArray) w := by
  refine run_build_struct (z_write w) u_write (p_write w) ?_
  have e : (Value.agg (.int .i64 0 :: cellsV zeroSec).toArray).cells = (.int .i64 0 :: cellsV zeroSec).toArray := rfl
  rw [e, fill_one _ _ 0 _ _ 0 1 rfl rfl (by simp), fill_one _ _ 1 _ _ 1 64 rfl (by simp [Value.cells, hl]) (by simp [zeroSec, Value.cells])]
  simp [Instr.fill, Value.cells, zeroSec]

theorem ne_nil_of_64 {l : List UInt8} (h : l.length = 64) : l ≠ [] := by intro e; simp [e] at h

set_option maxRecDepth 100000 in
set_option maxHeartbeats 400000 in
theorem write_tail {p : Nat} {d : DiskM} {R : Assn} {w : World} (h : Bears w (diskA p d * R)) (i : Nat) (l : List UInt8) (ad : Option Addr) (cap : Nat) (hi : i < d.len) (hl : l.length = 64)
    (hb : R.Tells (fun w => BytesIn w (.slice ad l.length cap) l)) (hck : d.check (i : Int) = 0) (hst : d.step.1 = 0) (hroom : d.step.2.waits.length < 1099511627776) (hlen2 : d.step.2.len = d.len) :
    Calls Try.prog 63 #[.pointer (some ⟨p, 0, none⟩), .int .i64 i, .slice ad l.length cap] w fun e w' => e = .returned (.int .i64 0) ∧
      Bears w' (diskA p { d.step.2 with waits := d.step.2.waits ++ [(i, l)] } * R) := by
  have hlen : ((l.length : Int) != 64) = false := by rw [hl]; rfl
  have hck' := Lib.hid hck
  have hst' := Lib.hid hst
  have hl' := Lib.hid hl
  clear hck hst hl
  go_enter Try.func63, Try.ntmps63
  go_wp2_with fail
  refine (check_any h _).mono ?_
  rintro e w' ⟨rfl, rfl⟩
  rw [hck'.out]
  go_wp2_with fail
  refine (step_any h).mono ?_
  rintro e w1 ⟨rfl, h1⟩
  rw [hst'.out]
  obtain ⟨b, o, rfl, hr⟩ := (hb _ h1.right).at (ne_nil_of_64 hl'.out)
  obtain ⟨ms, mn, wv, ls, ln, hwf, hs, hn, h2⟩ := Bears.disk.1 h1
  obtain ⟨hc, hf⟩ := disk_cells h2
  have c2 := hc 2
  have c3 := hc 3
  have f3 := hf 3
  simp at c2 c3
  clear hc hf
  go_wp2_with fail
  have hat := run_arrayAt (P := Try.prog) w1.drew 125 5 64 (some ⟨b, o, none⟩) l.length cap u_sector (by rw [hl'.out]; exact Nat.le_refl _)
  refine wp_region_tail 8 (by kernel_rfl) (by kernel_rfl) ?_
  simp only [List.take_succ_cons, List.take_zero, List.drop_succ_cons, List.drop_zero]
  iterate 7 still_step
  refine wpStill_load_mid _ _ rfl rfl b o rfl (cellsV l) _ hr u_sector rfl (by rw [length_cellsV, hl'.out]; exact i_sector) ?_
  refine wpStill_nil ?_
  have h3 := h2.drew.pull4
  refine wpList_mapUpdate_bears (val := secV l) h3 rfl rfl u_secmap u_int rfl rfl rfl ?_
  intro w2 h4
  clear hat c2 c3 f3 h2 h3 hr
  obtain ⟨b', o', he, hr⟩ := (hb _ h4.right.right.right.right).at (ne_nil_of_64 hl'.out)
  cases he
  have h5 := h4.pull2
  obtain ⟨hc, hf⟩ := disk_cells h5
  have c3 := hc 3
  have f3 := hf 3
  simp at c3
  clear hc hf
  go_wp2_with fail
  have hat := fun w => run_arrayAt (P := Try.prog) w 125 5 64 (some ⟨b, o, none⟩) l.length cap u_sector (by rw [hl'.out]; exact Nat.le_refl _)
  have hlt := World.block_lt_of_cell? w2 _ c3
  have hra := fun ob => rangeAt_alloc (rangeAt_drew hr) (by intro e; have := congrArg List.length e; rw [length_cellsV, hl'.out] at this; exact absurd this (by decide)) ob
  refine wp_region_L (fun w' => w'.cell? ⟨p, 3, none⟩ = some wv ∧ w'.rangeAt b o (cellsV l)) 12 [(true, 0), (true, 1), (true, 2), (true, 3), (true, 4), (true, 5), (true, 6), (true, 7), (true, 8), (true, 9), (false, 10), (false, 11)] [(true, 12), (true, 13), (false, 14)]
    (by kernel_rfl) (by kernel_rfl) ⟨c3, hr⟩ ?_
  simp only [pick, List.getElem?_cons_zero, List.getElem?_cons_succ]
  refine wpL_yield (v := ?_) rfl (fun w' hS => ?_) ?_
  rotate_left
  · (have s1 := hS.1; clear hS; go_simp; try with_reducible rfl)
  simp only [Act.put, List.setIfInBounds_toArray, List.set_cons_zero, List.set_cons_succ]
  refine wpL_yield (v := ?_) rfl (fun w' hS => ?_) ?_
  rotate_left
  · (have s1 := hS.1; clear hS; go_simp; try with_reducible rfl)
  simp only [Act.put, List.setIfInBounds_toArray, List.set_cons_zero, List.set_cons_succ]
  refine wpL_yield (v := ?_) rfl (fun w' hS => ?_) ?_
  rotate_left
  · (have s1 := hS.1; clear hS; go_simp; try with_reducible rfl)
  simp only [Act.put, List.setIfInBounds_toArray, List.set_cons_zero, List.set_cons_succ]
  refine wpL_yield (v := ?_) rfl (fun w' hS => ?_) ?_
  rotate_left
  · (have s1 := hS.1; clear hS; go_simp; try with_reducible rfl)
  simp only [Act.put, List.setIfInBounds_toArray, List.set_cons_zero, List.set_cons_succ]
  refine wpL_yield (v := ?_) rfl (fun w' hS => ?_) ?_
  rotate_left
  · (have s1 := hS.1; clear hS; go_simp; try with_reducible rfl)
  simp only [Act.put, List.setIfInBounds_toArray, List.set_cons_zero, List.set_cons_succ]
  refine wpL_yield (v := ?_) rfl (fun w' hS => ?_) ?_
  rotate_left
  · (have s1 := hS.1; clear hS; go_simp; try with_reducible rfl)
  simp only [Act.put, List.setIfInBounds_toArray, List.set_cons_zero, List.set_cons_succ]
  refine wpL_yield (v := ?_) rfl (fun w' hS => ?_) ?_
  rotate_left
  · (have s1 := hS.1; clear hS; go_simp; try with_reducible rfl)
  simp only [Act.put, List.setIfInBounds_toArray, List.set_cons_zero, List.set_cons_succ]
  refine wpL_yield (v := ?_) rfl (fun w' hS => ?_) ?_
  rotate_left
  · (have s1 := hS.1; clear hS; go_simp; try with_reducible rfl)
  simp only [Act.put, List.setIfInBounds_toArray, List.set_cons_zero, List.set_cons_succ]
  refine wpL_load_mid _ _ rfl rfl b o rfl (cellsV l) _ (fun w hS => hS.2) u_sector rfl (by rw [length_cellsV, hl'.out]; exact i_sector) ?_
  refine wpL_build _ _ #[(0, .int .i64 (i : Int)), (1, .agg (cellsV l).toArray)] rfl rfl rfl (build_write _ _ hl'.out) ?_
  obtain ⟨i0, hi0, hz0, hz1, hz2⟩ := info_parts i_write
  refine wpL_buildSlice _ _ _ #[(0, .agg (.int .i64 (i : Int) :: cellsV l).toArray)] rfl rfl rfl (run_buildSlice_one (size := 65) u_waits (by rw [hi0]; exact congrArg some hz1) (by decide) (by decide) (z_write _) (by simp [Value.cells, zeroSec]) (by simp [Value.cells, hl'.out])) ⟨(World.cell?_alloc_lt _ _ _ hlt).trans c3, hra _⟩ ?_
  have h6 := (h5.drew.alloc (.cells (.int .i64 (i : Int) :: cellsV l).toArray 128))
  have h7 := h6.pull4
  refine wpL_eff rfl (wp_append_bears h7 rfl u_waits hi0 hz0 hz1 hz2 (by simp [Value.cells, zeroSec]) (by decide) rfl (ad := ⟨w2.drew.heap.size, 0, none⟩) (m := 1) (c := 1) (news := .int .i64 (i : Int) :: cellsV l) rfl
    (by simp [hl'.out]) (World.news_of_block (cs := (.int .i64 (i : Int) :: cellsV l).toArray) h6.obj) (by intro u hu; simp only [List.mem_cons] at hu; rcases hu with rfl | hu; rfl; exact oneCell_cellsV l u hu) (by unfold maxLen; omega) (by omega) ?_)
  intro a' c' w3 h8
  have h9 := h8.pull3
  obtain ⟨hc', hf'⟩ := disk_cells h9
  have c3' := hc' 3
  have f3' := hf' 3
  simp at c3'
  obtain ⟨b', o', he, hr'⟩ := (hb _ h9.right.right.right.right.right).at (ne_nil_of_64 hl'.out)
  cases he
  refine ⟨⟨c3', hr'⟩, ?_⟩
  refine wpL_nil ?_
  clear hc' hf' hat hlt hra c3 f3
  simp only [Act.put, List.setIfInBounds_toArray, List.set_cons_zero, List.set_cons_succ]
  refine wpL_yield (v := ?_) rfl (fun w' hS => ?_) ?_
  rotate_left
  · (go_simp; try with_reducible rfl)
  simp only [Act.put, List.setIfInBounds_toArray, List.set_cons_zero, List.set_cons_succ]
  refine wpL_yield (v := ?_) rfl (fun w' hS => ?_) ?_
  rotate_left
  · (go_simp; try with_reducible rfl)
  simp only [Act.put, List.setIfInBounds_toArray, List.set_cons_zero, List.set_cons_succ]
  refine wpL_store _ _ _ rfl rfl rfl rfl (by go_simp; rfl) trivial ?_
  refine wpL_nil ?_
  go_wp2
  go_ret
  refine ⟨rfl, Bears.disk.2 ⟨ms, mn, .slice a' (d.step.2.waits.length + 1) c', ls, putL (i : Int) (secV l) ln, ⟨hwf.len, hwf.sure, ?_, hwf.fuse, hwf.steps⟩, hs, ?_, ?_⟩⟩
  · intro q hq
    simp only [List.mem_append, List.mem_singleton] at hq
    rcases hq with hq | rfl
    · exact hwf.waits q hq
    · exact ⟨by rw [hlen2]; exact hi, hl'.out⟩
  · show SecMap _ (settle d.step.2.sure (d.step.2.waits ++ [(i, l)]))
    rw [settle_append]
    exact hn.put i l
  · have h10 := (h9.setCell (i := 3) (.slice a' (d.step.2.waits.length + 1) c')).pull3.right
    refine h10.cast ?_
    simp [waitCells, diskObj]
    ac_rfl

theorem step_waits (d : DiskM) : d.step.2.waits = d.waits := by unfold DiskM.step; split <;> rfl
theorem step_len (d : DiskM) : d.step.2.len = d.len := by unfold DiskM.step; split <;> rfl
theorem step_sure (d : DiskM) : d.step.2.sure = d.sure := by unfold DiskM.step; split <;> rfl

end Go.Proofs.Ytaiobekochhemaa
