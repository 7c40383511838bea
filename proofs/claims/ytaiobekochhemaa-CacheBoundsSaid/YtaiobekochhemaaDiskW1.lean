/- Walks of the disk's functions, part 1; no condition. -/
import Derived.Test.YtaiobekochhemaaDiskM
import Derived.Test.YtaiobekochhemaaProg
import Derived.Test.YtaiobekochhemaaLaws
namespace Go.Proofs.Ytaiobekochhemaa
open Go.RowKit Go.MapKept

theorem disk_cells {w : World} {p : Nat} {c : Array Value} {t : TypeId} {R : Assn} (h : Bears w (Assn.obj p (.cells c t (0, 0)) * R)) : (∀ i, w.cell? ⟨p, i, none⟩ = c[i]?) ∧ (∀ i, w.frozen? ⟨p, i, none⟩ = false) :=
  ⟨fun i => cell_of_obj h.obj i, fun i => frozen_of_obj h.obj i⟩

set_option maxHeartbeats 400000 in
theorem check_any {p : Nat} {d : DiskM} {R : Assn} {w : World} (h : Bears w (diskA p d * R)) (i : Int) :
    Calls Try.prog 94 #[.pointer (some ⟨p, 0, none⟩), .int .i64 i] w fun e w' => e = .returned (.int .i64 (d.check i)) ∧ w = w' := by
  obtain ⟨ms, mn, wv, ls, ln, hwf, hs, hn, h⟩ := Bears.disk.1 h
  obtain ⟨hc, _⟩ := disk_cells h
  have c0 := hc 0
  have c4 := hc 4
  simp at c0 c4
  have hl := hwf.len
  clear hc
  by_cases ho : d.off = true
  · go_enter Try.func94, Try.ntmps94
    go_wp2
    go_ret
    exact ⟨by simp [DiskM.check, ho], rfl⟩
  · have ho : d.off = false := by simpa using ho
    by_cases h1 : i < 0
    · go_enter Try.func94, Try.ntmps94
      go_wp2
      go_ret
      exact ⟨by simp [DiskM.check, ho, h1], rfl⟩
    · by_cases h2 : (d.len : Int) ≤ i
      · go_enter Try.func94, Try.ntmps94
        go_wp2
        go_ret
        exact ⟨by simp [DiskM.check, ho, h2], rfl⟩
      · go_enter Try.func94, Try.ntmps94
        go_wp2
        go_ret
        exact ⟨by simp [DiskM.check, ho, h1, h2], rfl⟩

set_option maxHeartbeats 400000 in
theorem step_any {p : Nat} {d : DiskM} {R : Assn} {w : World} (h : Bears w (diskA p d * R)) :
    Calls Try.prog 102 #[.pointer (some ⟨p, 0, none⟩)] w fun e w' => e = .returned (.int .i64 d.step.1) ∧ Bears w' (diskA p d.step.2 * R) := by
  obtain ⟨ms, mn, wv, ls, ln, hwf, hs, hn, h⟩ := Bears.disk.1 h
  obtain ⟨hc, hf⟩ := disk_cells h
  have c4 := hc 4
  have c5 := hc 5
  have c6 := hc 6
  have f4 := hf 4
  have f5 := hf 5
  have f6 := hf 6
  simp at c4 c5 c6
  have hl := hwf.len
  have hfu := hwf.fuse
  have hst := hwf.steps
  clear hc hf
  by_cases h0 : d.fuse = 0
  · have Hd : DiskM.step d = (2, { d with off := true, fuse := -1 }) := by simp [DiskM.step, h0]
    have H0 : (d.fuse == 0) = true := by simp [h0]
    have hd := Lib.hid Hd
    clear h0 Hd
    go_enter Try.func102, Try.ntmps102
    go_wp2
    go_ret
    rw [hd.out]
    refine ⟨rfl, Bears.disk.2 ⟨ms, mn, wv, ls, ln, ⟨hl, hwf.sure, hwf.waits, by simp, hst⟩, hs, hn, ?_⟩⟩
    exact ((h.setCell (i := 4) _).setCell (i := 5) _).cast (by simp)
  · by_cases h1 : 0 < d.fuse
    · have Hd : DiskM.step d = (0, { d with fuse := d.fuse - 1, steps := wrap64 (d.steps + 1) }) := by simp [DiskM.step, h0, h1]
      have H0 : (d.fuse == 0) = false := by simp [h0]
      have hd := Lib.hid Hd
      clear h0 Hd
      go_enter Try.func102, Try.ntmps102
      go_wp2
      go_ret
      rw [hd.out]
      refine ⟨rfl, Bears.disk.2 ⟨ms, mn, wv, ls, ln, ⟨hl, hwf.sure, hwf.waits, ⟨by simp; omega, by simp; omega⟩, by simp only; unfold wrap64; omega⟩, hs, hn, ?_⟩⟩
      exact ((h.setCell (i := 5) _).setCell (i := 6) _).cast (by simp)
    · have Hd : DiskM.step d = (0, { d with steps := wrap64 (d.steps + 1) }) := by simp [DiskM.step, h0, h1]
      have H0 : (d.fuse == 0) = false := by simp [h0]
      have hd := Lib.hid Hd
      clear h0 Hd
      go_enter Try.func102, Try.ntmps102
      go_wp2
      go_ret
      rw [hd.out]
      refine ⟨rfl, Bears.disk.2 ⟨ms, mn, wv, ls, ln, ⟨hl, hwf.sure, hwf.waits, hfu, by simp only; unfold wrap64; omega⟩, hs, hn, ?_⟩⟩
      exact (h.setCell (i := 6) _).cast (by simp)

end Go.Proofs.Ytaiobekochhemaa
