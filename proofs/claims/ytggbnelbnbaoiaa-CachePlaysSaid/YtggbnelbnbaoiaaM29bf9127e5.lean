/- Texts of this claim, put together: DiskW3, DiskW4, DiskW5, DiskW6, DiskW7, DiskT, Rows0, RefD, RefW1, RefW2, RefW3, RefW4, RefW5; no condition. -/
import Derived.Test.YtggbnelbnbaoiaaM08c4d8ca0a
import Derived.Shelf.SlMaps.Clone
import Derived.Lib.SliceRun
import Derived.Laws.IdiomStrings
import Derived.Laws.IdiomCopy
import Derived.Laws.Append
import Derived.Laws.AppendOwn
import Derived.Deep.DeepCutAuto
import Derived.Deep.CutBlock

set_option linter.unusedSimpArgs false
set_option linter.unusedVariables false

/- Walks of the disk's functions, part 3: Barrier; no condition. -/
namespace Go.Proofs.Ytggbnelbnbaoiaa
open Go.RowKit Go.MapKept

theorem waitCells_at (l : List (Nat × Sec)) (h : ∀ p ∈ l, p.2.length = 64) : ∀ (k : Nat) (hk : k < l.length), ((waitCells l).drop (k * 65)).take 65 = .int .i64 ((l[k].1 : Nat) : Int) :: cellsV l[k].2 := by
  induction l with
  | nil => intro k hk; simp at hk
  | cons p l ih =>
    intro k hk
    have hp := h p (by simp)
    have e : waitCells (p :: l) = (.int .i64 (p.1 : Int) :: cellsV p.2) ++ waitCells l := rfl
    rw [e]
    cases k with
    | zero =>
      rw [Nat.zero_mul, List.drop_zero, List.take_left' (by simp [hp])]
      rfl
    | succ k =>
      have e2 : (.int .i64 (p.1 : Int) :: cellsV p.2 : List Value).length = 65 := by simp [hp]
      rw [show (k + 1) * 65 = (.int .i64 (p.1 : Int) :: cellsV p.2 : List Value).length + k * 65 by omega, List.drop_append, List.drop_of_length_le (Nat.le_add_right _ _), Nat.add_sub_cancel_left, List.nil_append]
      exact ih (fun q hq => h q (by simp [hq])) k (by simpa using hk)

set_option maxRecDepth 100000 in
set_option maxHeartbeats 400000 in
theorem barrier_yes {p : Nat} {d : DiskM} {R : Assn} {w : World} (h : Bears w (diskA p d * R)) (ho : d.off = false) (hst : d.step.1 = 0) (hroom : d.waits.length < 1099511627776) :
    Calls Try.prog 80 #[.pointer (some ⟨p, 0, none⟩)] w fun e w' => e = .returned (.int .i64 0) ∧ Bears w' (diskA p { d.step.2 with sure := d.now, waits := [] } * R) := by
  obtain ⟨ms, mn, wv, ls, ln, hwf, hs, hn, h0⟩ := Bears.disk.1 h
  obtain ⟨hc, hf⟩ := disk_cells h0
  have c4 := hc 4
  simp [ho] at c4
  clear hc hf
  have Hst := Lib.hid hst
  clear hst
  go_enter Try.func80, Try.ntmps80
  go_wp2_with fail
  refine (step_any h).mono ?_
  rintro e w1 ⟨rfl, h1⟩
  rw [Hst.out]
  clear c4 hs hn h0 h hwf
  have hroom2 : d.step.2.waits.length < 1099511627776 := by rw [step_waits]; exact hroom
  have hnow : d.step.2.now = d.now := by unfold DiskM.now; rw [step_waits, step_sure]
  have Hnow := Lib.hid hnow
  clear hnow
  obtain ⟨ms, mn, wv, ls, ln, hwf, hs, hn, h2⟩ := Bears.disk.1 h1
  obtain ⟨hc, hf⟩ := disk_cells h2
  have c3 := hc 3
  simp at c3
  clear hc hf
  obtain ⟨a, c, rfl, hnc, hcm, hrow⟩ := h2.pull2.rowForm
  go_wp2_with fail
  go_loopw [20] (fun i wr => ∃ k : Nat, k ≤ d.step.2.waits.length ∧ i = .int .i64 k ∧ ∃ ls', SecMap ls' (settle d.step.2.sure (d.step.2.waits.take k)) ∧
      Bears wr (diskObj p d.step.2 ms mn (.slice a d.step.2.waits.length c) * (rowA 159 65 (.slice a d.step.2.waits.length c) d.step.2.waits.length (waitCells d.step.2.waits) * (mapA ms ls' * (mapA mn ln * R)))))
    (fun i _ => d.step.2.waits.length - (intOf i).toNat)
  case atStart => exact ⟨0, Nat.zero_le _, rfl, ls, hs, h2⟩
  case round =>
    obtain ⟨k, hk, rfl, ls', hs', h3⟩ := hrel
    by_cases hlt : k < d.step.2.waits.length
    · obtain ⟨g, rfl, hr⟩ := h3.pull2.rowAt hlt
      rw [waitCells_at _ (fun q hq => (hwf.waits q hq).2) k hlt] at hr
      have hp := (hwf.waits _ (List.getElem_mem hlt)).2
      have i1 : Option.map (fun x => x.size) (Try.prog.info? 159) = some (Value.int .i64 ((d.step.2.waits[k].1 : Nat) : Int) :: cellsV d.step.2.waits[k].2).length := by
        rw [List.length_cons, length_cellsV, hp]; exact s_write
      have o1 : ∀ v ∈ (Value.int .i64 ((d.step.2.waits[k].1 : Nat) : Int) :: cellsV d.step.2.waits[k].2).toArray.toList, v.oneCell' = true := by
        intro v hv
        simp only [List.mem_cons] at hv
        rcases hv with rfl | hv
        · rfl
        · exact oneCell_cellsV _ _ hv
      have z1 : (Value.int .i64 ((d.step.2.waits[k].1 : Nat) : Int) :: cellsV d.step.2.waits[k].2).toArray.size = (Value.agg (Value.int .i64 0 :: cellsV zeroSec).toArray).cells.size := by
        simp [Value.cells, hp, zeroSec]
      have z2 : Option.map (fun x => x.size) (Try.prog.info? 159) = some (Value.agg (Value.int .i64 0 :: cellsV zeroSec).toArray).cells.size := by
        simp only [Value.cells]; exact s_write
      go_wp2_with (first
        | (refine wpList_load_mid rfl 159 _ rfl g (k * 65) rfl _ _ hr u_write rfl i1 ?_)
        | (refine wpList_alloc_z rfl rfl (z_write _) ?_)
        | (refine wpList_store_obj (h3.alloc _) rfl rfl rfl rfl z1 z2 o1 ?_; intro w2 h4))
      obtain ⟨hc, _⟩ := disk_cells h4.pull2
      have c1 := hc 1
      simp at c1
      have c5 := cell_of_obj h4.obj 0
      simp at c5
      have hr5 : w2.drew.rangeAt wr.heap.size 1 (cellsV d.step.2.waits[k].2) := rangeAt_tail (o := 0) (rangeAt_of_obj h4.obj)
      clear hc
      refine wp_region_tail 8 (by kernel_rfl) (by kernel_rfl) ?_
      simp only [List.take_succ_cons, List.take_zero, List.drop_succ_cons, List.drop_zero]
      iterate 7 still_step
      refine wpStill_load_mid _ _ rfl rfl wr.heap.size 1 rfl (cellsV d.step.2.waits[k].2) _ hr5 u_sector rfl (by rw [length_cellsV, hp]; exact i_sector) ?_
      refine wpStill_nil ?_
      refine wpList_mapUpdate_bears (val := secV d.step.2.waits[k].2) h4.drew.pull4 rfl rfl u_secmap u_int rfl rfl rfl ?_
      intro w3 h5
      clear c1 c5 hr5 h4 h3 hr
      go_wp2
      go_roundw
      case rel =>
        refine ⟨k + 1, hlt, by go_num, _, ?_, h5.pull2.right.pull3.pull3.cast (by ac_rfl)⟩
        rw [List.take_succ_eq_append_getElem hlt, settle_append]
        exact hs'.put _ _
      case measure => simp [intOf]; omega
    · obtain rfl : k = d.step.2.waits.length := by omega
      obtain ⟨hc, hf⟩ := disk_cells h3
      have c3' := hc 3
      have f3' := hf 3
      simp at c3'
      clear hc hf c3 h2
      go_wp2
      go_ret
      rw [List.take_length] at hs'
      have h4 := (h3.setCell (i := 3) (.slice none 0 0)).pull2.right
      have hx : settle d.step.2.sure d.step.2.waits = d.now := Hnow.out
      rw [hx] at hs'
      refine ⟨rfl, Bears.disk.2 ⟨ms, mn, .slice none 0 0, ls', ln, ⟨hwf.len, fun i => ?_, by simp, hwf.fuse, hwf.steps⟩, hs', ?_, ?_⟩⟩
      · show (d.now i).length = 64
        rw [← hx]
        exact settle_length hwf.sure (fun q hq => (hwf.waits q hq).2) i
      · show SecMap ln d.now
        rw [← hx]
        exact hn
      · exact (Bears.pull2 ((Bears.nilRow (e := 159) (size := 65)).2 h4)).cast (by simp [diskObj, waitCells])

theorem step_zero (d : DiskM) (h : d.step.1 = 0) : d.step.2.off = d.off := by
  unfold DiskM.step at h ⊢
  by_cases h0 : d.fuse = 0
  · simp [h0] at h
  · simp [h0]

set_option maxHeartbeats 400000 in
theorem barrier_any {p : Nat} {d : DiskM} {R : Assn} {w : World} (h : Bears w (diskA p d * R)) (hroom : d.waits.length < 1099511627776) :
    Calls Try.prog 80 #[.pointer (some ⟨p, 0, none⟩)] w fun e w' => e = .returned (.int .i64 d.barrier.1) ∧ Bears w' (diskA p d.barrier.2 * R) := by
  by_cases ho : d.off = true
  · obtain ⟨ms, mn, wv, ls, ln, hwf, hs, hn, h0⟩ := Bears.disk.1 h
    obtain ⟨hc, hf⟩ := disk_cells h0
    have c4 := hc 4
    simp [ho] at c4
    clear hc hf
    have hfin : d.barrier = (2, d) := by simp [DiskM.barrier, ho]
    rw [hfin]
    have Ho := Lib.hid ho
    clear ho hfin
    go_enter Try.func80, Try.ntmps80
    go_wp2
    go_ret
    exact ⟨rfl, h⟩
  · have ho : d.off = false := by simpa using ho
    by_cases hst : d.step.1 = 0
    · have hfin : d.barrier = (0, { d.step.2 with sure := d.now, waits := [] }) := by simp [DiskM.barrier, ho, hst]
      rw [hfin]
      exact barrier_yes h ho hst hroom
    · have hfin : d.barrier = d.step := by simp [DiskM.barrier, ho, hst]
      rw [hfin]
      have hst' : (d.step.1 != 0) = true := by simpa using hst
      obtain ⟨ms, mn, wv, ls, ln, hwf, hs, hn, h0⟩ := Bears.disk.1 h
      obtain ⟨hc, hf⟩ := disk_cells h0
      have c4 := hc 4
      simp [ho] at c4
      clear hc hf hfin hst hs hn h0 hwf
      go_enter Try.func80, Try.ntmps80
      go_wp2_with fail
      refine (step_any h).mono ?_
      rintro e w1 ⟨rfl, h1⟩
      go_wp2
      go_ret
      exact ⟨rfl, h1⟩

set_option maxHeartbeats 400000 in
theorem write_any {p : Nat} {d : DiskM} {R : Assn} {w : World} (h : Bears w (diskA p d * R)) (i : Int) (l : List UInt8) (ad : Option Addr) (cap : Nat)
    (hb : R.Tells (fun w => BytesIn w (.slice ad l.length cap) l)) (hroom : d.waits.length < 1099511627776) :
    Calls Try.prog 79 #[.pointer (some ⟨p, 0, none⟩), .int .i64 i, .slice ad l.length cap] w fun e w' => e = .returned (.int .i64 (d.write i l).1) ∧ Bears w' (diskA p (d.write i l).2 * R) := by
  by_cases hck : d.check i = 0
  · by_cases hl : l.length = 64
    · by_cases hst : d.step.1 = 0
      · have h0 : 0 ≤ i ∧ i < d.len := by
          unfold DiskM.check at hck
          split at hck
          · simp at hck
          · split at hck
            · simp at hck
            · omega
        obtain ⟨n, rfl⟩ := Int.eq_ofNat_of_zero_le h0.1
        have hfin : d.write (n : Int) l = (0, { d.step.2 with waits := d.step.2.waits ++ [(n, l)] }) := by
          simp only [DiskM.write, hck, hl, hst, step_waits]
          simp
        rw [hfin]
        exact write_tail h n l ad cap (by omega) hl hb hck hst (by rw [step_waits]; exact hroom) (step_len d)
      · have hfin : d.write i l = d.step := by simp [DiskM.write, hck, hl, hst]
        rw [hfin]
        have hst' : (d.step.1 != 0) = true := by simpa using hst
        have hlen : ((l.length : Int) != 64) = false := by rw [hl]; rfl
        have hck' := Lib.hid hck
        clear hfin hst hl hb hck
        go_enter Try.func79, Try.ntmps79
        go_wp2_with fail
        refine (check_any h _).mono ?_
        rintro e w' ⟨rfl, rfl⟩
        rw [hck'.out]
        go_wp2_with fail
        refine (step_any h).mono ?_
        rintro e w1 ⟨rfl, h1⟩
        go_wp2
        go_ret
        exact ⟨rfl, h1⟩
    · have hfin : d.write i l = (11, d) := by simp [DiskM.write, hck, hl]
      rw [hfin]
      have hlen : ((l.length : Int) != 64) = true := by rw [bne_iff_ne]; omega
      have hck' := Lib.hid hck
      clear hfin hl hb hck
      go_enter Try.func79, Try.ntmps79
      go_wp2_with fail
      refine (check_any h _).mono ?_
      rintro e w' ⟨rfl, rfl⟩
      rw [hck'.out]
      go_wp2
      go_ret
      exact ⟨rfl, h⟩
  · have hfin : d.write i l = (d.check i, d) := by simp [DiskM.write, hck]
    rw [hfin]
    have hck' : (d.check i != 0) = true := by simpa using hck
    clear hfin hb hck
    go_enter Try.func79, Try.ntmps79
    go_wp2_with fail
    refine (check_any h _).mono ?_
    rintro e w' ⟨rfl, rfl⟩
    go_wp2
    go_ret
    exact ⟨rfl, h⟩

end Go.Proofs.Ytggbnelbnbaoiaa

/- Walks of the disk's functions, part 4: Read, New, small ones; no condition. -/
namespace Go.Proofs.Ytggbnelbnbaoiaa
open Go.RowKit Go.MapKept

theorem z_sector (w : World) : (zeroValue 149).run Try.prog w = .ok (secV zeroSec) w := by kernel_rfl

theorem check_range {d : DiskM} {i : Int} (h : d.check i = 0) : d.off = false ∧ 0 ≤ i ∧ i < d.len := by
  unfold DiskM.check at h
  split at h
  · simp at h
  · split at h
    · simp at h
    · rename_i h1 h2
      exact ⟨by simpa using h1, by omega, by omega⟩

theorem DiskM.WF.now {d : DiskM} (h : d.WF) (i : Nat) : (d.now i).length = 64 := settle_length h.sure (fun q hq => (h.waits q hq).2) i

set_option maxHeartbeats 400000 in
theorem read_ok {p : Nat} {d : DiskM} {R : Assn} {w : World} (h : Bears w (diskA p d * R)) (i : Nat) (hck : d.check (i : Int) = 0) :
    Calls Try.prog 61 #[.pointer (some ⟨p, 0, none⟩), .int .i64 i] w fun e w' => ∃ g, e = .returned (.tuple #[.slice (some ⟨g, 0, none⟩) 64 64, .int .i64 0]) ∧
      Bears w' (Assn.obj g (.cells (cellsV (d.now i)).toArray 149 (0, 0)) * (diskA p d * R)) := by
  obtain ⟨ms, mn, wv, ls, ln, hwf, hs, hn, h0⟩ := Bears.disk.1 h
  obtain ⟨hc, hf⟩ := disk_cells h0
  have c2 := hc 2
  simp at c2
  clear hc hf
  have hl := hwf.now i
  have z1 : (cellsV (d.now i)).toArray.size = (secV zeroSec).cells.size := by simp [Value.cells, secV, hl, zeroSec]
  have z2 : Option.map (fun x => x.size) (Try.prog.info? 149) = some (secV zeroSec).cells.size := i_sector
  have hck' := Lib.hid hck
  have hn' := Lib.hid (hn i)
  clear hck hl
  go_enter Try.func61, Try.ntmps61
  go_wp2_with fail
  refine (check_any h _).mono ?_
  rintro e w' ⟨rfl, rfl⟩
  rw [hck'.out]
  go_wp2_with (first
    | (at_lookup; refine wpList_lookup_bears h0.pull4 rfl rfl u_secmap u_int (z_sector _) rfl rfl ?_; rw [hn'.out])
    | (refine wpList_alloc_z rfl rfl (z_sector _) ?_)
    | (refine wpList_store_obj (cs := (cellsV (d.now i)).toArray) (h.alloc _) rfl rfl rfl rfl z1 z2 (by simpa using oneCell_cellsV (d.now i)) ?_; intro w2 h4))
  go_ret2
  exact ⟨_, rfl, h4⟩

set_option maxHeartbeats 400000 in
theorem read_no {p : Nat} {d : DiskM} {R : Assn} {w : World} (h : Bears w (diskA p d * R)) (i : Int) (hck : d.check i ≠ 0) :
    Calls Try.prog 61 #[.pointer (some ⟨p, 0, none⟩), .int .i64 i] w fun e w' => e = .returned (.tuple #[.slice none 0 0, .int .i64 (d.check i)]) ∧ w = w' := by
  have hck' : (d.check i != 0) = true := by simpa using hck
  clear hck
  go_enter Try.func61, Try.ntmps61
  go_wp2_with fail
  refine (check_any h _).mono ?_
  rintro e w' ⟨rfl, rfl⟩
  go_wp2
  go_ret2
  exact ⟨rfl, rfl⟩

set_option maxHeartbeats 400000 in
theorem len_any {p : Nat} {d : DiskM} {R : Assn} {w : World} (h : Bears w (diskA p d * R)) :
    Calls Try.prog 69 #[.pointer (some ⟨p, 0, none⟩)] w fun e w' => e = .returned (.int .i64 d.len) ∧ w = w' := by
  obtain ⟨ms, mn, wv, ls, ln, hwf, hs, hn, h0⟩ := Bears.disk.1 h
  have c0 := (disk_cells h0).1 0
  simp at c0
  go_enter Try.func69, Try.ntmps69
  go_wp2
  go_ret
  exact ⟨rfl, rfl⟩

set_option maxHeartbeats 400000 in
theorem new_ok {R : Assn} {w : World} (h : Bears w R) (n : Nat) (h1 : 1 ≤ n) (h2 : n ≤ 8192) :
    Calls Try.prog 41 #[.int .i64 n] w fun e w' => ∃ p, e = .returned (.tuple #[.pointer (some ⟨p, 0, none⟩), .int .i64 0]) ∧ Bears w' (diskA p (DiskM.new n) * R) := by
  have hmm := @run_makeMap Try.prog
  go_enter Try.func41, Try.ntmps41
  go_wp2
  go_ret2
  refine ⟨w.heap.size + 1 + 1, rfl, Bears.disk.2 ⟨w.heap.size, w.heap.size + 1, .slice none 0 0, [], [], ⟨h2, fun _ => rfl, by simp [DiskM.new], by simp [DiskM.new], by simp [DiskM.new]⟩, SecMap.nil, SecMap.nil, ?_⟩⟩
  have h3 := (h.alloc (.map #[] 0)).toMapA (l := []) ⟨rfl, stamped_empty 0⟩
  have h4 := (h3.alloc (.map #[] 0)).toMapA (l := []) ⟨rfl, stamped_empty 0⟩
  have h5 := h4.alloc (.cells #[.int .i64 (n : Int), .map (some w.heap.size), .map (some (w.heap.size + 1)), .slice none 0 0, .bool false, .int .i64 (-1), .int .i64 0] 130)
  have h6 := Bears.pull2 ((Bears.nilRow (e := 159) (size := 65)).2 h5)
  exact h6.cast (by simp [diskObj, waitCells, DiskM.new]; ac_rfl)

theorem new_no (w : World) (n : Int) (h1 : n < 1 ∨ 8192 < n) :
    Calls Try.prog 41 #[.int .i64 n] w fun e w' => e = .returned (.tuple #[.pointer none, .int .i64 1]) ∧ w = w' := by
  rcases h1 with h1 | h1
  · go_enter Try.func41, Try.ntmps41
    go_wp2
    go_ret2
    exact ⟨rfl, rfl⟩
  · have h2 : ¬ n < 1 := by omega
    go_enter Try.func41, Try.ntmps41
    go_wp2
    go_ret2
    exact ⟨rfl, rfl⟩

end Go.Proofs.Ytggbnelbnbaoiaa

/- Walks of the disk's functions, part 5: Boot, Clone; no condition. -/
namespace Go.Proofs.Ytggbnelbnbaoiaa
open Go.RowKit Go.MapKept

end Go.Proofs.Ytggbnelbnbaoiaa

/- Walks of the disk's functions, part 6: Boot; no condition. -/
namespace Go.Proofs.Ytggbnelbnbaoiaa
open Go.RowKit Go.MapKept

end Go.Proofs.Ytggbnelbnbaoiaa

/- Walks of the disk's functions, part 7: Clone; no condition. -/
namespace Go.Proofs.Ytggbnelbnbaoiaa
open Go.RowKit Go.MapKept

theorem i_disk : (Try.prog.info? 130).map (fun i => i.size) = some 7 := by kernel_rfl
theorem z_disk (w : World) : (zeroValue 130).run Try.prog w = .ok (.agg #[.int .i64 0, .map none, .map none, .slice none 0 0, .bool false, .int .i64 0, .int .i64 0]) w := by kernel_rfl
noncomputable def f_disk : Array Field := match Try.prog.underlying 130 with | some (.struct fs) => fs | _ => #[]
theorem u_disk : Try.prog.underlying 130 = some (.struct f_disk) := by kernel_rfl

theorem oneCell_waits (l : List (Nat × Sec)) : ∀ u ∈ waitCells l, u.oneCell' = true := by
  intro u hu
  obtain ⟨p, _, hu⟩ := List.mem_flatMap.1 hu
  simp only [List.mem_cons] at hu
  rcases hu with rfl | hu
  · rfl
  · exact oneCell_cellsV _ _ hu

end Go.Proofs.Ytggbnelbnbaoiaa

/- The disk's functions, with what they answer named; no condition. -/
namespace Go.Proofs.Ytggbnelbnbaoiaa
open Go.RowKit Go.MapKept

theorem u_bytes : Try.prog.underlying 33 = some (.slice 5) := by kernel_rfl
theorem u_byte : Try.prog.underlying 5 = some (.int .u8) := by kernel_rfl
theorem u_string : Try.prog.underlying 9 = some .string := by kernel_rfl

/-- A string of bytes. -/
abbrev strV (l : List UInt8) : Value := .string ⟨l.toArray⟩

theorem run_convert_in {w : World} {ad : Option Addr} {n cap : Nat} {l : List UInt8} (h : BytesIn w (.slice ad n cap) l) :
    (convert 33 9 (.slice ad n cap)).run Try.prog w = .ok (strV l) w := by
  by_cases hl : l = []
  · subst hl
    have := h.len
    subst this
    rw [run_convert_bytes_string w 33 9 5 _ _ _ u_bytes u_byte u_string]
    cases ad with
    | none => simp [Conv.bytesToString]; rfl
    | some a => simp [Conv.bytesToString, loadCells, loadCellsFrom]; rfl
  · obtain ⟨b, o, rfl, hr⟩ := h.at hl
    have := h.len
    subst this
    exact run_convert_bytes_back w 33 9 5 ⟨b, o, none⟩ cap l u_bytes u_byte u_string (fun j hj => by
      rw [Addr.add_mid]
      exact hr j _ (by simp [cellsV, hj, byteV]))

theorem write_to {p : Nat} {d d' : DiskM} {R : Assn} {w : World} {i r : Int} {l : List UInt8} {ad : Option Addr} {n cap : Nat} (h : Bears w (diskA p d * R)) (heq : d.write i l = (r, d')) (hb : R.Tells (fun w => BytesIn w (.slice ad n cap) l))
    (hroom : d.waits.length < 1099511627776) :
    Calls Try.prog 79 #[.pointer (some ⟨p, 0, none⟩), .int .i64 i, .slice ad n cap] w fun e w' => e = .returned (.int .i64 r) ∧ Bears w' (diskA p d' * R) := by
  have hn := (hb w h.right).len
  subst hn
  have := write_any h i l ad cap hb hroom
  rw [heq] at this
  exact this

theorem barrier_to {p : Nat} {d d' : DiskM} {R : Assn} {w : World} {r : Int} (h : Bears w (diskA p d * R)) (heq : d.barrier = (r, d')) (hroom : d.waits.length < 1099511627776) :
    Calls Try.prog 80 #[.pointer (some ⟨p, 0, none⟩)] w fun e w' => e = .returned (.int .i64 r) ∧ Bears w' (diskA p d' * R) := by
  have := barrier_any h hroom
  rw [heq] at this
  exact this

theorem read_to {p : Nat} {d : DiskM} {R : Assn} {w : World} (i : Int) {s : Sec} (h : Bears w (diskA p d * R)) (hck : d.check i = 0) (hs : d.now i.toNat = s) :
    Calls Try.prog 61 #[.pointer (some ⟨p, 0, none⟩), .int .i64 i] w fun e w' => ∃ g, e = .returned (.tuple #[.slice (some ⟨g, 0, none⟩) 64 64, .int .i64 0]) ∧
      Bears w' (Assn.obj g (.cells (cellsV s).toArray 149 (0, 0)) * (diskA p d * R)) := by
  obtain ⟨n, rfl⟩ := Int.eq_ofNat_of_zero_le (check_range hck).2.1
  have := read_ok h n hck
  rw [show ((n : Int)).toNat = n from rfl] at hs
  rw [hs] at this
  exact this

theorem read_bad {p : Nat} {d : DiskM} {R : Assn} {w : World} {c : Int} (h : Bears w (diskA p d * R)) (i : Int) (heq : d.check i = c) (hc : c ≠ 0) :
    Calls Try.prog 61 #[.pointer (some ⟨p, 0, none⟩), .int .i64 i] w fun e w' => e = .returned (.tuple #[.slice none 0 0, .int .i64 c]) ∧ w = w' := by
  subst heq
  exact read_no h i hc

theorem Bears.byteCell {w : World} {b : Nat} {l : List UInt8} {t : TypeId} {R : Assn} (h : Bears w (Assn.obj b (.cells (cellsV l).toArray t (0, 0)) * R)) {j : Nat} (hj : j < l.length) : w.cell? ⟨b, j, none⟩ = some (byteV (l.getD j 0)) := by
  rw [cell_of_obj h.obj]
  simp [cellsV, hj]

theorem Bears.setByte {w : World} {b : Nat} {l : List UInt8} {t : TypeId} {R : Assn} (h : Bears w (Assn.obj b (.cells (cellsV l).toArray t (0, 0)) * R)) (j : Nat) (c : UInt8) :
    Bears (w.setCell ⟨b, j, none⟩ (byteV c)) (Assn.obj b (.cells (cellsV (l.set j c)).toArray t (0, 0)) * R) :=
  (h.setCell (i := j) (byteV c)).cast (by simp [cellsV, List.map_set])

/-- A conversion of bytes to a string, at the list of a region's operations. -/
theorem wpList_conv {P : Program} {ops : Array Oper} {rest : List Oper} {o : Oper} {a : Act} {Q : Exit → Act → World → Prop} {w : World} {ss dd : TypeId} {x : Operand} {v u : Value} (hg : Region.wanted o (yielded ops a.tmps) = true) (ho : o.op = .convert ss dd x) (hx : a.eval x = v)
    (hrun : (convert ss dd v).run P w = .ok u w) (h : wpList P ops Q rest (a.put o.dst u) w) : wpList P ops Q (o :: rest) a w := by
  refine wpList_step fun K hK => ?_
  rw [if_pos hg]
  exact wp_of_run (exec_convert ho hx hrun) (hK _ _ h)

theorem str_eq (a b : List UInt8) : ((⟨a.toArray⟩ : ByteArray).toList == (⟨b.toArray⟩ : ByteArray).toList) = decide (a = b) := by
  rw [ByteArray.toList_mk, ByteArray.toList_mk, Bool.eq_iff_iff]
  simp

/-- An operation whose run is known. -/
theorem wpList_op {P : Program} {ops : Array Oper} {rest : List Oper} {o : Oper} {a : Act} {Q : Exit → Act → World → Prop} {w w' : World} {v : Value} (hg : o.guard = none) (hrun : (execOp a.eval o).run P w = .ok (.value v) w')
    (h : wpList P ops Q rest (a.put o.dst v) w') : wpList P ops Q (o :: rest) a w := by
  refine wpList_plain hg fun _ hK => ?_
  unfold Oper.wp
  simp [hrun]
  exact hK _ _ h

/-- A slice, cut with three indices. -/
theorem exec_slice3 {P : Program} {ev : Operand → Value} {o : Oper} {t : TypeId} {x a b c : Operand} {g lo hi mx len cap : Nat} {w : World} {e : TypeId} (ho : o.op = .slice t x (some a) (some b) (some c)) (ht : P.underlying t = some (.slice e)) (hz : (Go.sizeOf e).run P w = .ok 1 w)
    (hx : ev x = .slice (some ⟨g, 0, none⟩) len cap) (ha : ev a = .int .i64 lo) (hb : ev b = .int .i64 hi) (hc : ev c = .int .i64 mx) (h1 : lo < hi) (h2 : hi ≤ mx) (h3 : mx ≤ cap) :
    (execOp ev o).run P w = .ok (.value (.slice (some ⟨g, lo, none⟩) (hi - lo) (mx - lo))) w := by
  unfold execOp
  go_simp
  rw [if_pos (by omega), if_neg (by omega)]

theorem exec_copy {P : Program} {ev : Operand → Value} {o : Oper} {d s : Operand} {t t' : TypeId} {v u v' : Value} {w w' : World} (ho : o.op = .call { callee := .builtin .copy, args := #[d, s], argTypes := #[t, t'] }) (hd : ev d = v) (hs : ev s = u)
    (hr : (Builtin.copy_ #[t, t'] o.type #[v, u]).run P w = .ok v' w') : (execOp ev o).run P w = .ok (.value v') w' := by
  unfold execOp
  simp only [ho, resolve, invoke, builtin, Sem.run_bind, Sem.run_pure, Result.andThen_ok, List.map_toArray, List.map_cons, List.map_nil, hd, hs, hr]

end Go.Proofs.Ytggbnelbnbaoiaa

/- Rows of single cells; a slice of bytes that nobody else has; append onto nothing; no condition. -/
namespace Go.Proofs.Ytggbnelbnbaoiaa
open Go.RowKit Go.MapKept

theorem i_byte : (Try.prog.info? 5).map (fun i => (i.zero, i.size, i.bytes)) = some (some (.int .u8 0), 1, 1) := by kernel_rfl

theorem rowA_bytes {e : TypeId} {ad : Option Addr} {n cap : Nat} {l : List UInt8} {R : Assn} (hn : n = l.length) : (rowA e 1 (.slice ad n cap) n (cellsV l) * R).Tells (fun w => BytesIn w (.slice ad n cap) l) := by
  intro w h
  subst hn
  refine ⟨ad, cap, rfl, fun hne => ?_⟩
  obtain ⟨g, rfl, _⟩ := h.rowAt (k := 0) (by cases l with | nil => exact absurd rfl hne | cons _ _ => simp)
  refine ⟨g, 0, rfl, fun j v hv => ?_⟩
  have hj : j < l.length := by have := (List.getElem?_eq_some_iff.1 hv).1; simpa using this
  obtain ⟨g', e', hr⟩ := h.rowAt (k := j) hj
  cases e'
  have := hr 0 v (by rw [List.getElem?_take_of_lt (by decide), List.getElem?_drop]; simpa using hv)
  simpa using this

theorem Bears.zeroRow {w : World} {R : Assn} {e : TypeId} {size : Nat} (h : Bears w R) : Bears (w.alloc (.cells #[] e)) (rowA e size (.slice (some ⟨w.heap.size, 0, none⟩) 0 0) 0 [] * R) := by
  have h2 := h.alloc (.cells #[] e)
  obtain ⟨F, G, H, ⟨hb, rfl⟩, hR, hd, rfl⟩ := h2
  exact ⟨_, _, H, ⟨⟨by simp, .inr ⟨w.heap.size, 0, #[], rfl, Nat.zero_le _, hb, Nat.le_refl _, Nat.zero_le _, by simp, by simp⟩⟩, by funext b; simp [Value.ownBlock, eq_comm]⟩, hR, hd, rfl⟩

/-- A cell of a row of single cells: read, and written. -/
theorem Bears.rowCell {w : World} {e : TypeId} {g c n : Nat} {xs : List Value} {R : Assn} (h : Bears w (rowA e 1 (.slice (some ⟨g, 0, none⟩) n c) n xs * R)) {i : Nat} (hi : i < n) {v : Value} (hv : xs[i]? = some v) : w.cell? ⟨g, i, none⟩ = some v := by
  obtain ⟨g', e1, h1⟩ := h.rowAt (k := i) hi
  cases e1
  have := h1 0 v (by rw [List.getElem?_take_of_lt (by decide), List.getElem?_drop]; simpa using hv)
  simpa using this
theorem Bears.rowFrozen {w : World} {e : TypeId} {g c n : Nat} {xs : List Value} {R : Assn} (h : Bears w (rowA e 1 (.slice (some ⟨g, 0, none⟩) n c) n xs * R)) (i : Nat) : w.frozen? ⟨g, i, none⟩ = false := by
  obtain ⟨_, h⟩ := h.row
  rcases h with ⟨h, _⟩ | ⟨g', cap, cur, hv, _, hg, _⟩
  · cases h
  · simp only [Value.slice.injEq, Option.some.injEq, Addr.mk.injEq] at hv
    obtain ⟨⟨rfl, _⟩, _⟩ := hv
    exact frozen_of_obj hg i
theorem Bears.rowSet {w : World} {e : TypeId} {g c n : Nat} {xs : List Value} {R : Assn} (h : Bears w (rowA e 1 (.slice (some ⟨g, 0, none⟩) n c) n xs * R)) {i : Nat} (_hi : i < n) (v : Value) :
    Bears (w.setCell ⟨g, i, none⟩ v) (rowA e 1 (.slice (some ⟨g, 0, none⟩) n c) n (xs.set i v) * R) := by
  obtain ⟨F, G, H, ⟨⟨hl, hr⟩, rfl⟩, hR, hd, rfl⟩ := h
  rcases hr with ⟨h, _⟩ | ⟨g', cap, cur, hv, hb, hg, hn, hm, hs, ht⟩
  · cases h
  · simp only [Value.slice.injEq, Option.some.injEq, Addr.mk.injEq] at hv
    obtain ⟨⟨rfl, _⟩, _, rfl⟩ := hv
    refine ⟨_, _, H, ⟨⟨by simpa using hl, .inr ⟨g, c, cur.setIfInBounds i v, rfl, hb, ?_, hn, hm, by simpa using hs, ?_⟩⟩, rfl⟩, R.loc hR ⟨rfl, rfl, rfl, by simp⟩ (fun b hb => Below.heap_setCell _ _ _ _ (fun e => hd b (by rw [e]; rfl) hb)), hd, rfl⟩
    · simp [World.setCell, Array.getElem?_modify, hg]
    · rw [Array.toList_setIfInBounds, List.take_set, ht]

/-- Cells of a row, written one behind the other. -/
theorem Bears.rowSets {e : TypeId} {g c n : Nat} {R : Assn} : ∀ (vs : List Value) (o : Nat) {w : World} {xs : List Value}, Bears w (rowA e 1 (.slice (some ⟨g, 0, none⟩) n c) n xs * R) → o + vs.length ≤ n →
    Bears (w.setCells g o vs) (rowA e 1 (.slice (some ⟨g, 0, none⟩) n c) n (setList xs.toArray o vs).toList * R)
  | [], _, _, _, h, _ => h
  | v :: r, o, w, xs, h, hl => by
    simp only [List.length_cons] at hl
    have h1 := h.rowSet (i := o) (by omega) v
    have h2 := Bears.rowSets r (o + 1) h1 (by omega)
    have e1 : (setList xs.toArray o (v :: r)) = setList (xs.set o v).toArray (o + 1) r := by simp [setList]
    rw [e1]
    exact h2

/-- The slice v has the bytes l, and lies in a block of its own. -/
def bufA (v : Value) (l : List UInt8) : Assn := Assn.ex fun (z : Option (Nat × Nat × List UInt8 × List UInt8)) => match z with
  | none => Assn.fact (∃ ad c, v = .slice ad 0 c ∧ l = [])
  | some (g, cap, pre, post) => Assn.fact (∃ c, v = .slice (some ⟨g, pre.length, none⟩) l.length c) *
      rowA 5 1 (.slice (some ⟨g, 0, none⟩) (pre ++ l ++ post).length cap) (pre ++ l ++ post).length (cellsV (pre ++ l ++ post))

theorem Bears.bufNil {w : World} {ad : Option Addr} {c : Nat} {R : Assn} (h : Bears w R) : Bears w (bufA (.slice ad 0 c) [] * R) := by
  unfold bufA
  rw [Bears.ex]
  exact ⟨none, Bears.fact.2 ⟨⟨ad, c, rfl, rfl⟩, h⟩⟩
theorem Bears.bufPart {w : World} {g c cap n : Nat} {pre l post : List UInt8} {R : Assn} (h : Bears w (rowA 5 1 (.slice (some ⟨g, 0, none⟩) n cap) n (cellsV (pre ++ l ++ post)) * R)) (hn : n = (pre ++ l ++ post).length) :
    Bears w (bufA (.slice (some ⟨g, pre.length, none⟩) l.length c) l * R) := by
  subst hn
  unfold bufA
  rw [Bears.ex]
  refine ⟨some (g, cap, pre, post), ?_⟩
  simp only [Assn.mul_assoc']
  exact Bears.fact.2 ⟨⟨c, rfl⟩, h⟩
theorem Bears.bufCases {w : World} {v : Value} {l : List UInt8} {R : Assn} (h : Bears w (bufA v l * R)) : (l = [] ∧ ∃ ad c, v = .slice ad 0 c) ∨
    ∃ g cap c pre post, v = .slice (some ⟨g, pre.length, none⟩) l.length c ∧ Bears w (rowA 5 1 (.slice (some ⟨g, 0, none⟩) (pre ++ l ++ post).length cap) (pre ++ l ++ post).length (cellsV (pre ++ l ++ post)) * R) := by
  unfold bufA at h
  rw [Bears.ex] at h
  obtain ⟨z, h⟩ := h
  match z with
  | none =>
    obtain ⟨⟨ad, c, h1, h2⟩, _⟩ := Bears.fact.1 h
    exact .inl ⟨h2, ad, c, h1⟩
  | some (g, cap, pre, post) =>
    simp only [Assn.mul_assoc'] at h
    obtain ⟨⟨c, h1⟩, h2⟩ := Bears.fact.1 h
    exact .inr ⟨g, cap, c, pre, post, h1, h2⟩
theorem Bears.bufRow {w : World} {ad : Option Addr} {n c : Nat} {l : List UInt8} {R : Assn} (h : Bears w (rowA 5 1 (.slice ad n c) n (cellsV l) * R)) : Bears w (bufA (.slice ad n c) l * R) := by
  obtain ⟨hl, hr⟩ := h.row
  rcases hr with ⟨e1, e2⟩ | ⟨g, cap, cur, hv, _⟩
  · subst e2
    have : l = [] := by
      have : l.length = 0 := by simpa using hl
      exact List.length_eq_zero_iff.1 this
    subst this
    cases e1
    exact (h.right).bufNil
  · simp only [Value.slice.injEq] at hv
    obtain ⟨rfl, _, rfl⟩ := hv
    have hn : n = l.length := by simpa using hl.symm
    have := Bears.bufPart (pre := []) (post := []) (c := c) (l := l) (by simpa using h) (by simpa using hn)
    rw [hn]
    exact this
theorem Bears.bufLen {w : World} {ad : Option Addr} {n c : Nat} {l : List UInt8} {R : Assn} (h : Bears w (bufA (.slice ad n c) l * R)) : n = l.length := by
  rcases h.bufCases with ⟨rfl, _, _, e⟩ | ⟨_, _, _, _, _, e, _⟩
  · simp only [Value.slice.injEq] at e; simp [e.2.1]
  · simp only [Value.slice.injEq] at e; exact e.2.1

theorem Bears.bufMax {w : World} {v : Value} {l : List UInt8} {R : Assn} (h : Bears w (bufA v l * R)) : l.length ≤ maxLen := by
  rcases h.bufCases with ⟨rfl, _⟩ | ⟨g, cap, c, pre, post, _, h1⟩
  · exact Nat.zero_le _
  · obtain ⟨_, c', e, h2, h3, _⟩ := h1.rowForm
    simp at h2
    omega

theorem Bears.bufAt {w : World} {ad : Option Addr} {n c : Nat} {l : List UInt8} {R : Assn} (h : Bears w (bufA (.slice ad n c) l * R)) {j : Nat} (hj : j < l.length) :
    ∃ g o, ad = some ⟨g, o, none⟩ ∧ w.cell? ⟨g, o + j, none⟩ = some (byteV (l.getD j 0)) ∧ w.frozen? ⟨g, o + j, none⟩ = false ∧
      ∀ u, Bears (w.setCell ⟨g, o + j, none⟩ (byteV u)) (bufA (.slice ad n c) (l.set j u) * R) := by
  rcases h.bufCases with ⟨rfl, _, _, e⟩ | ⟨g, cap, c', pre, post, e, h1⟩
  · simp at hj
  · simp only [Value.slice.injEq] at e
    obtain ⟨rfl, rfl, rfl⟩ := e
    have hlt : pre.length + j < (pre ++ l ++ post).length := by simp; omega
    refine ⟨g, pre.length, rfl, h1.rowCell hlt ?_, h1.rowFrozen _, fun u => ?_⟩
    · simp [cellsV, List.getElem?_append, hj]
    · have h2 := h1.rowSet hlt (byteV u)
      have e2 : (cellsV (pre ++ l ++ post)).set (pre.length + j) (byteV u) = cellsV (pre ++ l.set j u ++ post) := by
        unfold cellsV
        rw [← List.map_set, List.append_assoc, List.append_assoc, List.set_append_right _ _ (Nat.le_add_right _ _), Nat.add_sub_cancel_left, List.set_append_left _ _ hj]
      rw [e2] at h2
      have := Bears.bufPart (pre := pre) (post := post) (c := c) (l := l.set j u) h2 (by simp)
      simpa using this
theorem buf_tells {ad : Option Addr} {n c : Nat} {l : List UInt8} {R : Assn} : (bufA (.slice ad n c) l * R).Tells (fun w => BytesIn w (.slice ad n c) l) := by
  intro w h
  have hn := h.bufLen
  subst hn
  refine ⟨ad, c, rfl, fun hne => ?_⟩
  have hpos : 0 < l.length := List.length_pos_iff.2 hne
  obtain ⟨g, o, rfl, _⟩ := h.bufAt hpos
  refine ⟨g, o, rfl, fun j v hv => ?_⟩
  have hj : j < l.length := by have := (List.getElem?_eq_some_iff.1 hv).1; simpa using this
  obtain ⟨g', o', e, h1, _⟩ := h.bufAt hj
  cases e
  rw [h1]
  simpa [cellsV, hj] using hv

theorem addr_cells {w : World} {b o : Nat} {vs : List Value} (h : w.rangeAt b o vs) : ∀ j u, vs[j]? = some u → w.cell? ((⟨b, o, none⟩ : Addr).add j) = some u := fun j u hu => by
  have h9 := h j u hu
  unfold Addr.add
  by_cases hj : j = 0
  · subst hj; simpa using h9
  · simpa [hj] using h9
/-- A slice that is made, in a region. -/
theorem wp_make {w w' : World} {o : Oper} {a : Act} {K : Act → World → Prop} {Q : Exit → Act → World → Prop} {ty : TypeId} {x y : Operand} {vx vy v : Value} (ho : o.op = .makeSlice ty x y) (hx : a.eval x = vx) (hy : a.eval y = vy)
    (hrun : (Instr.makeSlice ty vx vy).run Try.prog w = .ok v w') (h : K (a.put o.dst v) w') : o.wp Try.prog a w K Q := by
  unfold Oper.wp execOp
  simp only [ho, hx, hy, Sem.run_bind, Sem.run_pure, hrun, Result.andThen_ok]
  exact h
/-- 'append([]byte{}, s...)'. -/
theorem run_append_fresh {w : World} {R : Assn} (h : Bears w R) {ad : Option Addr} {n c : Nat} {l : List UInt8} (hs : BytesIn w (.slice ad n c) l) (hl : l.length ≤ 140737488355328) (b0 : Addr) (ty : TypeId) :
    ∃ a' c' w', (Builtin.append_ #[33, 33] ty #[.slice (some b0) 0 0, .slice ad n c]).run Try.prog w = .ok (.slice a' n c') w' ∧ Bears w' (bufA (.slice a' n c') l * R) := by
  have hn := hs.len
  subst hn
  obtain ⟨i, hi, hz⟩ : ∃ i, Try.prog.info? 5 = some i ∧ (i.zero = some (.int .u8 0) ∧ i.size = 1 ∧ i.bytes = 1) := by
    have : (Try.prog.info? 5).map (fun i => (i.zero, i.size, i.bytes)) = some (some (Value.int IntKind.u8 0), 1, 1) := by kernel_rfl
    obtain ⟨i, hi, e⟩ := Option.map_eq_some_iff.1 this
    simp only [Prod.mk.injEq] at e
    exact ⟨i, hi, e⟩
  obtain ⟨hz, hsz, hby⟩ := hz
  by_cases h0 : l = []
  · subst h0
    refine ⟨some b0, 0, w, ?_, h.bufNil⟩
    cases ad <;> simp [Builtin.append_, run_underlying Try.underlying33, sizeOf, typeInfo, hi, storeCells, Builtin.lenOf, Builtin.firstCells, loadCells, loadCellsFrom]
  · obtain ⟨b, o, rfl, hr⟩ := hs.at h0
    have hpos : 0 < l.length := List.length_pos_iff.2 h0
    have hg := run_append_grow (P := Try.prog) w 33 ty 5 i (.int .u8 0) Try.underlying33 hi hz b0 0 0 [] (by simp) (by intro j v hj; simp at hj) ⟨b, o, none⟩ l.length c (cellsV l) (by simp [hsz])
      (addr_cells hr) (by omega) (by omega) (growslice_fits (by omega) (by rw [hby]; omega))
    simp only [Nat.zero_add] at hg
    have hge := grownCap_ge w l.length 0 5
    have hcm : grownCap w l.length 0 5 ≤ maxLen := grownCap_le_maxLen w l.length 0 5 (by unfold maxLen; omega)
    generalize grownCap w l.length 0 5 = cap at hg hge hcm
    refine ⟨_, _, _, hg, Bears.bufRow ?_⟩
    refine (Bears.nilRow.2 h).appended ⟨by simp, .inr ⟨w.heap.size, cap, _, rfl, Nat.zero_le _, heap_alloc_new w.drew _, hge, hcm, ?_, ?_⟩⟩ ⟨rfl, rfl, rfl, by simp, fun k hk _ => heap_alloc_old w.drew _ hk⟩ (.inr rfl)
    · simp [size_zeroCells, Value.cells]
      omega
    · simp only [Array.toList_append, List.append_assoc]
      simp

theorem wpList_append_fresh {w : World} {ops : Array Oper} {rest : List Oper} {o : Oper} {a : Act} {Q : Exit → Act → World → Prop} {s x : Operand} {R : Assn} (h : Bears w R) (hg : o.guard = none)
    (ho : o.op = .call { callee := .builtin .append, args := #[s, x], argTypes := #[33, 33] }) {b0 : Addr} {ad : Option Addr} {n c : Nat} {l : List UInt8} (hs : a.eval s = .slice (some b0) 0 0) (hx : a.eval x = .slice ad n c)
    (hb : BytesIn w (.slice ad n c) l) (hl : l.length ≤ 140737488355328) (hK : ∀ a' c' w', Bears w' (bufA (.slice a' n c') l * R) → wpList Try.prog ops Q rest (a.put o.dst (.slice a' n c')) w') : wpList Try.prog ops Q (o :: rest) a w :=
  wpList_plain hg fun K hK' => by
    obtain ⟨a', c', w', hr, h'⟩ := run_append_fresh h hb hl b0 o.type
    unfold Oper.wp execOp
    simp only [ho, resolve, invoke, builtin, Sem.run_bind, Sem.run_pure, Result.andThen_ok, List.map_toArray, List.map_cons, List.map_nil, hs, hx, hr]
    exact hK' _ _ (hK a' c' w' h')

end Go.Proofs.Ytggbnelbnbaoiaa

/- The document's disk: how it lies in memory; no condition. -/
namespace Go.Proofs.Ytggbnelbnbaoiaa
open Go.RowKit Go.MapKept

/-- The slice v reads as these cells, n rows of them. -/
def ValsIn (size : Nat) (w : World) (v : Value) (xs : List Value) : Prop :=
  ∃ ad n cap, v = .slice ad n cap ∧ xs.length = n * size ∧ n ≤ maxLen ∧ (xs ≠ [] → ∃ b o, ad = some ⟨b, o, none⟩ ∧ w.rangeAt b o xs)
theorem rowA_vals {e : TypeId} {size n : Nat} {v : Value} {xs : List Value} {R : Assn} : (rowA e size v n xs * R).Tells (fun w => ValsIn size w v xs) := by
  intro w h
  obtain ⟨hl, hr⟩ := h.row
  rcases hr with ⟨rfl, rfl⟩ | ⟨g, cap, cur, rfl, _, hg, hn, hm, hs, ht⟩
  · have hl0 : xs.length = 0 := by simpa using hl
    exact ⟨none, 0, 0, rfl, by omega, Nat.zero_le _, fun h => absurd (List.length_eq_zero_iff.1 hl0) h⟩
  · refine ⟨_, n, cap, rfl, hl, by omega, fun _ => ⟨g, 0, rfl, fun j v hv => ?_⟩⟩
    rw [cell_of_obj hg]
    rw [← ht, List.getElem?_take] at hv
    split at hv
    · simpa using hv
    · cases hv
theorem ValsIn.nil (size : Nat) (w : World) : ValsIn size w (.slice none 0 0) [] := ⟨none, 0, 0, rfl, by simp, Nat.zero_le _, fun h => absurd rfl h⟩
theorem ValsIn.cell {w : World} {size : Nat} {ad : Option Addr} {n cap : Nat} {xs : List Value} (h : ValsIn size w (.slice ad n cap) xs) {j : Nat} {v : Value} (hj : xs[j]? = some v) : ∃ b o, ad = some ⟨b, o, none⟩ ∧ w.cell? ⟨b, o + j, none⟩ = some v := by
  obtain ⟨_, _, _, hv, _, _, hr⟩ := h
  simp only [Value.slice.injEq] at hv
  obtain ⟨rfl, _, _⟩ := hv
  obtain ⟨b, o, rfl, h2⟩ := hr (by intro e; rw [e] at hj; simp at hj)
  exact ⟨b, o, rfl, h2 j v hj⟩
theorem ValsIn.form {w : World} {size : Nat} {v : Value} {xs : List Value} (h : ValsIn size w v xs) : ∃ ad n cap, v = .slice ad n cap ∧ xs.length = n * size ∧ n ≤ maxLen := by
  obtain ⟨ad, n, cap, rfl, h2, h3, _⟩ := h
  exact ⟨ad, n, cap, rfl, h2, h3⟩

/-- A row of the document's disk: its slice, and its bytes (none: noughts). -/
structure RowOk (Y : Assn) (r : Value × Sec) : Prop where
  tells : Y.Tells (fun w => BytesIn w r.1 r.2)
  size : r.2 = [] ∨ r.2.length = 64
theorem RowOk.right {Z Y : Assn} {r : Value × Sec} (h : RowOk Y r) : RowOk (Z * Y) r := ⟨h.tells.right, h.size⟩
theorem RowOk.form {Y : Assn} {r : Value × Sec} {w : World} (h : RowOk Y r) (hw : Bears w Y) : ∃ ad n cap, r.1 = .slice ad n cap ∧ n = r.2.length := by
  obtain ⟨ad, cap, h1, _⟩ := h.tells w hw
  exact ⟨ad, _, cap, h1, rfl⟩
def padS (s : Sec) : Sec := if s = [] then zeroSec else s
theorem padS_64 {s : Sec} (h : s = [] ∨ s.length = 64) : (padS s).length = 64 := by
  unfold padS
  split
  · rfl
  · rcases h with h | h
    · contradiction
    · exact h
def rputCells (ls : List (Nat × Value × Sec)) : List Value := ls.flatMap fun x => [.int .i64 (x.1 : Int), x.2.1]
theorem rputCells_length (ls : List (Nat × Value × Sec)) : (rputCells ls).length = ls.length * 2 := by
  induction ls with
  | nil => rfl
  | cons x ls ih =>
    unfold rputCells at ih ⊢
    rw [List.flatMap_cons, List.length_append, ih]
    simp only [List.length_cons, List.length_nil]
    omega
theorem rputCells_at {ls : List (Nat × Value × Sec)} {k : Nat} (hk : k < ls.length) : (rputCells ls)[k * 2]? = some (.int .i64 ((ls.getD k default).1 : Int)) ∧ (rputCells ls)[k * 2 + 1]? = some (ls.getD k default).2.1 := by
  induction ls generalizing k with
  | nil => simp at hk
  | cons x ls ih =>
    unfold rputCells at ih ⊢
    rw [List.flatMap_cons]
    cases k with
    | zero => exact ⟨rfl, rfl⟩
    | succ k =>
      have := ih (k := k) (by simpa using hk)
      rw [show (k + 1) * 2 = k * 2 + 1 + 1 by omega]
      simp only [List.cons_append, List.nil_append, List.getElem?_cons_succ, List.getD_cons_succ]
      exact this
theorem rputCells_append (a b : List (Nat × Value × Sec)) : rputCells (a ++ b) = rputCells a ++ rputCells b := by simp [rputCells]

/-- Rows, and a row of writes. -/
structure RowsOk (Y : Assn) (rs : List (Value × Sec)) (bv : Value) : Prop where
  rows : ∀ r ∈ rs, RowOk Y r
  tells : Y.Tells (fun w => ValsIn 1 w bv (rs.map Prod.fst))
  form : ∃ ad cap, bv = .slice ad rs.length cap
theorem RowsOk.right {Z Y : Assn} {rs : List (Value × Sec)} {bv : Value} (h : RowsOk Y rs bv) : RowsOk (Z * Y) rs bv := ⟨fun r hr => (h.rows r hr).right, h.tells.right, h.form⟩
structure PutsOk (Y : Assn) (ls : List (Nat × Value × Sec)) (lv : Value) : Prop where
  rows : ∀ x ∈ ls, RowOk Y x.2
  tells : Y.Tells (fun w => ValsIn 2 w lv (rputCells ls))
  form : ∃ ad cap, lv = .slice ad ls.length cap
theorem PutsOk.right {Z Y : Assn} {ls : List (Nat × Value × Sec)} {lv : Value} (h : PutsOk Y ls lv) : PutsOk (Z * Y) ls lv := ⟨fun r hr => (h.rows r hr).right, h.tells.right, h.form⟩
theorem PutsOk.nil (Y : Assn) : PutsOk Y [] (.slice none 0 0) := ⟨by simp, fun w _ => ValsIn.nil 2 w, none, 0, rfl⟩
def putsOf (ls : List (Nat × Value × Sec)) : List (Nat × Sec) := ls.map fun x => (x.1, x.2.2)
/-- The rows stand for the sectors f, as far as there are any. -/
def RowsAre (rs : List (Value × Sec)) (f : Nat → Sec) : Prop := ∀ k, k < rs.length → padS (rs.getD k default).2 = f k
structure RefOk (Y : Assn) (d : DiskM) (rs : List (Value × Sec)) (ls : List (Nat × Value × Sec)) (bv lv : Value) (bu : Bool) (lf : Int) : Prop where
  wf : d.WF
  len : rs.length = d.len
  rows : RowsOk Y rs bv
  sure : RowsAre rs d.sure
  puts : PutsOk Y ls lv
  waits : putsOf ls = d.waits
  burn : bu = decide (0 ≤ d.fuse)
  left : 0 ≤ d.fuse → lf = d.fuse
  lfb : -9223372036854775808 ≤ lf ∧ lf ≤ 9223372036854775807
theorem RefOk.right {Z Y : Assn} {d : DiskM} {rs : List (Value × Sec)} {ls : List (Nat × Value × Sec)} {bv lv : Value} {bu : Bool} {lf : Int} (h : RefOk Y d rs ls bv lv bu lf) : RefOk (Z * Y) d rs ls bv lv bu lf :=
  ⟨h.wf, h.len, h.rows.right, h.sure, h.puts.right, h.waits, h.burn, h.left, h.lfb⟩

abbrev refObj (y : Nat) (bv lv : Value) (off bu : Bool) (lf n : Int) : Assn := Assn.obj y (.cells #[bv, lv, .bool off, .bool bu, .int .i64 lf, .int .i64 n] 117 (0, 0))
structure RefX where
  rs : List (Value × Sec)
  ls : List (Nat × Value × Sec)
  bv : Value
  lv : Value
  bu : Bool
  lf : Int
/-- The document's disk at y does what the disk d does; what never is written over lies in Y. -/
def refA (y : Nat) (Y : Assn) (d : DiskM) : Assn := Assn.ex fun x : RefX => Assn.fact (RefOk Y d x.rs x.ls x.bv x.lv x.bu x.lf) * refObj y x.bv x.lv d.off x.bu x.lf d.steps
theorem Bears.ref {w : World} {y : Nat} {Y : Assn} {d : DiskM} {R : Assn} : Bears w (refA y Y d * R) ↔ ∃ rs ls bv lv bu lf, RefOk Y d rs ls bv lv bu lf ∧ Bears w (refObj y bv lv d.off bu lf d.steps * R) := by
  unfold refA
  rw [Bears.ex]
  constructor
  · rintro ⟨x, h⟩
    rw [Assn.mul_assoc', Bears.fact] at h
    exact ⟨_, _, _, _, _, _, h⟩
  · rintro ⟨rs, ls, bv, lv, bu, lf, h⟩
    refine ⟨⟨rs, ls, bv, lv, bu, lf⟩, ?_⟩
    rw [Assn.mul_assoc', Bears.fact]
    exact h
theorem Bears.refRight {w : World} {y : Nat} {Z Y : Assn} {d : DiskM} {R : Assn} (h : Bears w (refA y Y d * R)) : Bears w (refA y (Z * Y) d * R) := by
  obtain ⟨rs, ls, bv, lv, bu, lf, h1, h2⟩ := Bears.ref.1 h
  exact Bears.ref.2 ⟨rs, ls, bv, lv, bu, lf, h1.right, h2⟩

/-- Rows that are set, one behind the other. -/
def setAll (rs : List (Value × Sec)) (ls : List (Nat × Value × Sec)) : List (Value × Sec) := ls.foldl (fun rs x => rs.set x.1 x.2) rs
theorem setAll_length (ls : List (Nat × Value × Sec)) : ∀ rs, (setAll rs ls).length = rs.length := by
  induction ls with
  | nil => intro rs; rfl
  | cons x ls ih => intro rs; show (setAll (rs.set x.1 x.2) ls).length = _; rw [ih]; simp
theorem setAll_snoc (rs : List (Value × Sec)) (ls : List (Nat × Value × Sec)) (x : Nat × Value × Sec) : setAll rs (ls ++ [x]) = (setAll rs ls).set x.1 x.2 := by simp [setAll]
theorem setAll_mem {ls : List (Nat × Value × Sec)} : ∀ {rs : List (Value × Sec)} {r : Value × Sec}, r ∈ setAll rs ls → r ∈ rs ∨ ∃ x ∈ ls, x.2 = r := by
  induction ls with
  | nil => intro rs r h; exact .inl h
  | cons x ls ih =>
    intro rs r h
    rcases ih (rs := rs.set x.1 x.2) h with h1 | ⟨y, h1, h2⟩
    · rcases List.mem_or_eq_of_mem_set h1 with h2 | h2
      · exact .inl h2
      · exact .inr ⟨x, by simp, h2.symm⟩
    · exact .inr ⟨y, by simp [h1], h2⟩
theorem RowsAre.settle {rs : List (Value × Sec)} {f : Nat → Sec} : ∀ {ls : List (Nat × Value × Sec)} (_ : RowsAre rs f) (_ : ∀ x ∈ ls, x.2.2.length = 64), RowsAre (setAll rs ls) (settle f (putsOf ls)) := by
  intro ls
  induction ls generalizing rs f with
  | nil => intro h _; exact h
  | cons x ls ih =>
    intro h h64
    refine ih (rs := rs.set x.1 x.2) (f := updS f x.1 x.2.2) (fun k hk => ?_) (fun y hy => h64 y (by simp [hy]))
    have hk2 : k < rs.length := by simpa using hk
    unfold updS
    by_cases e : k = x.1
    · subst e
      rw [if_pos rfl, List.getD_eq_getElem?_getD, List.getElem?_set_self hk2]
      have := h64 x (by simp)
      show padS x.2.2 = _
      unfold padS
      rw [if_neg (by intro e; rw [e] at this; simp at this)]
    · rw [if_neg e, List.getD_eq_getElem?_getD, List.getElem?_set_ne (Ne.symm e), ← List.getD_eq_getElem?_getD]
      exact h k hk2

end Go.Proofs.Ytggbnelbnbaoiaa

/- Walks of the document's disk, part 1: New, step, Fuse, Clone; no condition. -/
namespace Go.Proofs.Ytggbnelbnbaoiaa
open Go.RowKit Go.MapKept

theorem i_row : (Try.prog.info? 33).map (fun i => (i.zero, i.size, i.bytes)) = some (some (.slice none 0 0), 1, 24) := by kernel_rfl
theorem u_rows : Try.prog.underlying 114 = some (.slice 33) := by kernel_rfl
theorem rnew_no (w : World) (n : Int) (h1 : n < 1 ∨ 8192 < n) :
    Calls Try.prog 60 #[.int .i64 n] w fun e w' => e = .returned (.tuple #[.pointer none, .int .i64 1]) ∧ w = w' := by
  rcases h1 with h1 | h1
  · go_enter Try.func60, Try.ntmps60
    go_wp2
    go_ret2
    exact ⟨rfl, rfl⟩
  · have h2 : ¬ n < 1 := by omega
    go_enter Try.func60, Try.ntmps60
    go_wp2
    go_ret2
    exact ⟨rfl, rfl⟩

theorem newRow {w : World} {R : Assn} {e : TypeId} {n : Nat} {xs : List Value} (h : Bears w R) (hl : xs.length = n) (hn : n ≤ maxLen) : Bears (w.alloc (.cells xs.toArray e)) (rowA e 1 (.slice (some ⟨w.heap.size, 0, none⟩) n n) n xs * R) := by
  have h2 := h.alloc (.cells xs.toArray e)
  obtain ⟨F, G, H, ⟨hb, rfl⟩, hR, hd, rfl⟩ := h2
  exact ⟨_, _, H, ⟨⟨by simpa using hl, .inr ⟨w.heap.size, n, xs.toArray, rfl, Nat.zero_le _, hb, Nat.le_refl _, hn, by simpa using hl, by simp [← hl]⟩⟩, by funext b; simp [Value.ownBlock, eq_comm]⟩, hR, hd, rfl⟩

theorem made_rows (n : Nat) : madeCells #[Value.slice none 0 0] n = (List.replicate n (Value.slice none 0 0)).toArray := by
  unfold madeCells
  apply Array.ext
  · simp
  · intro i h1 h2
    simp [Nat.mod_one]
theorem run_make_rows (w : World) (n : Nat) (hn : n ≤ 8192) : (Instr.makeSlice 114 (.int .i64 (n : Int)) (.int .i64 (n : Int))).run Try.prog w = .ok (.slice (some ⟨w.heap.size, 0, none⟩) n n) (w.alloc (.cells (List.replicate n (Value.slice none 0 0)).toArray 33)) := by
  obtain ⟨i0, hi0, hz0, hz1, hz2⟩ := info_parts i_row
  have h := run_makeSlice (P := Try.prog) (w := w) 114 33 i0 _ u_rows hi0 hz0 .i64 .i64 (n : Int) (n : Int) (by omega) (Int.le_refl _) (by rw [hz1, Int.toNat_natCast]; omega) (by rw [hz2]; omega) (by omega)
  rw [hz1, Int.toNat_natCast, Nat.mul_one, show (Value.slice none 0 0).cells = #[Value.slice none 0 0] by simp [Value.cells], made_rows] at h
  exact h

theorem exec_make {P : Program} {ev : Operand → Value} {o : Oper} {ty : TypeId} {x y : Operand} {vx vy v : Value} {w w' : World} (ho : o.op = .makeSlice ty x y) (hx : ev x = vx) (hy : ev y = vy) (hrun : (Instr.makeSlice ty vx vy).run P w = .ok v w') : (execOp ev o).run P w = .ok (.value v) w' := by
  unfold execOp
  simp only [ho, hx, hy, Sem.run_bind, Sem.run_pure, hrun, Result.andThen_ok]

set_option maxRecDepth 100000 in
set_option maxHeartbeats 400000 in
theorem rnew_ok {R : Assn} {w : World} (h : Bears w R) (n : Nat) (h1 : 1 ≤ n) (h2 : n ≤ 8192) :
    Calls Try.prog 60 #[.int .i64 n] w fun e w' => ∃ p Y, e = .returned (.tuple #[.pointer (some ⟨p, 0, none⟩), .int .i64 0]) ∧ Bears w' (refA p Y (DiskM.new n) * (Y * R)) := by
  have hmk := run_make_rows w n h2
  have hxs : (List.replicate n (Value.slice none 0 0)).length = n := by simp
  have hrs : List.replicate n (Value.slice none 0 0) = (List.replicate n ((Value.slice none 0 0, []) : Value × Sec)).map Prod.fst := by simp
  have h3 := newRow (e := 33) h hxs (by unfold maxLen; omega)
  rw [hrs] at h3 hmk
  have hmem : ∀ r ∈ List.replicate n ((Value.slice none 0 0, []) : Value × Sec), r = (Value.slice none 0 0, []) := fun r hr => (List.mem_replicate.1 hr).2
  have hgd : RowsAre (List.replicate n ((Value.slice none 0 0, []) : Value × Sec)) (fun _ => zeroSec) := fun k hk => by
    have e : (List.replicate n ((Value.slice none 0 0, []) : Value × Sec)).getD k default = (Value.slice none 0 0, []) := by
      rw [List.getD_eq_getElem?_getD, List.getElem?_eq_getElem hk]; simp
    rw [e]; rfl
  have hlen : (List.replicate n ((Value.slice none 0 0, []) : Value × Sec)).length = n := by simp
  generalize List.replicate n ((Value.slice none 0 0, []) : Value × Sec) = rs at *
  clear hxs hrs
  go_enter Try.func60, Try.ntmps60
  go_wp2_with (first | (refine wpList_op rfl (exec_make rfl rfl rfl hmk) ?_) | fail)
  go_ret2
  have h4 := h3.alloc (.cells #[.slice (some ⟨w.heap.size, 0, none⟩) n n, .slice none 0 0, .bool false, .bool false, .int .i64 0, .int .i64 0] 117)
  rw [show (w.alloc (.cells (rs.map Prod.fst).toArray 33)).heap.size = w.heap.size + 1 from Array.size_push _] at h4
  refine ⟨_, _, rfl, Bears.ref.2 ⟨rs, [], _, .slice none 0 0, false, 0, ⟨⟨h2, fun _ => rfl, by simp [DiskM.new], by simp [DiskM.new], by simp [DiskM.new]⟩, hlen, ⟨fun r hr => ?_, ?_, ?_⟩, hgd, PutsOk.nil _, rfl, rfl, fun h => absurd h (by simp [DiskM.new]), by omega⟩, h4⟩⟩
  · rw [hmem r hr]
    exact ⟨fun w _ => ⟨none, 0, rfl, fun h => absurd rfl h⟩, .inl rfl⟩
  · have := rowA_vals (e := 33) (size := 1) (n := n) (v := .slice (some ⟨w.heap.size, 0, none⟩) n n) (xs := rs.map Prod.fst) (R := Assn.emp)
    rw [Assn.mul_emp] at this
    exact this
  · exact ⟨_, _, by rw [hlen]⟩

theorem Bears.refCells {w : World} {y : Nat} {bv lv : Value} {off bu : Bool} {lf n : Int} {R : Assn} (h : Bears w (refObj y bv lv off bu lf n * R)) : w.cell? ⟨y, 0, none⟩ = some bv ∧ w.cell? ⟨y, 1, none⟩ = some lv ∧ w.cell? ⟨y, 2, none⟩ = some (.bool off) ∧
    w.cell? ⟨y, 3, none⟩ = some (.bool bu) ∧ w.cell? ⟨y, 4, none⟩ = some (.int .i64 lf) ∧ w.cell? ⟨y, 5, none⟩ = some (.int .i64 n) ∧ ∀ i, w.frozen? ⟨y, i, none⟩ = false := by
  obtain ⟨hc, hf⟩ := disk_cells h
  exact ⟨hc 0, hc 1, hc 2, hc 3, hc 4, hc 5, hf⟩

set_option maxHeartbeats 400000 in
theorem rstep_any {y : Nat} {Y : Assn} {d : DiskM} {R : Assn} {w : World} (h : Bears w (refA y Y d * R)) :
    Calls Try.prog 112 #[.pointer (some ⟨y, 0, none⟩)] w fun e w' => e = .returned (.bool (d.step.1 == 0)) ∧ Bears w' (refA y Y d.step.2 * R) := by
  obtain ⟨rs, ls, bv, lv, bu, lf, hok, h⟩ := Bears.ref.1 h
  obtain ⟨c0, c1, c2, c3, c4, c5, hf⟩ := h.refCells
  have f2 := hf 2
  have f3 := hf 3
  have f4 := hf 4
  have f5 := hf 5
  have hfu := hok.wf.fuse
  have hst := hok.wf.steps
  have hl := hok.left
  have hb := hok.burn
  clear hf
  have hwf2 : d.step.2.WF := by
    unfold DiskM.step
    split
    · exact ⟨hok.wf.len, hok.wf.sure, hok.wf.waits, by simp, hst⟩
    · refine ⟨hok.wf.len, hok.wf.sure, hok.wf.waits, ?_, by simp only; unfold wrap64; omega⟩
      simp only
      split <;> omega
  have Hwf := Lib.hid hwf2
  have Hok := Lib.hid hok
  clear hwf2 hok
  by_cases h0 : d.fuse = 0
  · have Hd : DiskM.step d = (2, { d with off := true, fuse := -1 }) := by simp [DiskM.step, h0]
    obtain rfl : lf = 0 := by rw [hl (by omega), h0]
    obtain rfl : bu = true := by rw [hb]; simp [h0]
    have hd := Lib.hid Hd
    clear h0 Hd hb hl hfu hst
    go_enter Try.func112, Try.ntmps112
    go_wp2
    go_ret
    rw [hd.out] at Hwf ⊢
    exact ⟨rfl, Bears.ref.2 ⟨rs, ls, bv, lv, false, 0, ⟨Hwf.out, Hok.out.len, Hok.out.rows, Hok.out.sure, Hok.out.puts, Hok.out.waits, rfl, fun h => absurd (show (0 : Int) ≤ -1 from h) (by decide), by decide⟩, ((h.setCell (i := 2) _).setCell (i := 3) _).cast (by simp)⟩⟩
  · by_cases h1 : 0 < d.fuse
    · have Hd : DiskM.step d = (0, { d with fuse := d.fuse - 1, steps := wrap64 (d.steps + 1) }) := by simp [DiskM.step, h0, h1]
      obtain rfl : lf = d.fuse := hl (by omega)
      obtain rfl : bu = true := by rw [hb]; simp; omega
      have H0 : (d.fuse == 0) = false := by simp [h0]
      have hd := Lib.hid Hd
      clear h0 Hd hb hl hst
      go_enter Try.func112, Try.ntmps112
      go_wp2
      go_ret
      rw [hd.out] at Hwf ⊢
      exact ⟨rfl, Bears.ref.2 ⟨rs, ls, bv, lv, true, d.fuse - 1, ⟨Hwf.out, Hok.out.len, Hok.out.rows, Hok.out.sure, Hok.out.puts, Hok.out.waits, by simp; omega, fun _ => rfl, by omega⟩, ((h.setCell (i := 4) _).setCell (i := 5) _).cast (by simp)⟩⟩
    · have Hd : DiskM.step d = (0, { d with steps := wrap64 (d.steps + 1) }) := by simp [DiskM.step, h0, h1]
      obtain rfl : bu = false := by rw [hb]; simp; omega
      have hd := Lib.hid Hd
      have Hb := Lib.hid hb
      have Hl := Lib.hid hl
      clear h0 Hd hb hl hst
      go_enter Try.func112, Try.ntmps112
      go_wp2
      go_ret
      rw [hd.out] at Hwf ⊢
      exact ⟨rfl, Bears.ref.2 ⟨rs, ls, bv, lv, false, lf, ⟨Hwf.out, Hok.out.len, Hok.out.rows, Hok.out.sure, Hok.out.puts, Hok.out.waits, Hb.out, Hl.out, Hok.out.lfb⟩, (h.setCell (i := 5) _).cast (by simp)⟩⟩

theorem i_refdisk : (Try.prog.info? 117).map (fun i => i.size) = some 6 := by kernel_rfl
theorem z_refdisk (w : World) : (zeroValue 117).run Try.prog w = .ok (.agg #[.slice none 0 0, .slice none 0 0, .bool false, .bool false, .int .i64 0, .int .i64 0]) w := by kernel_rfl
noncomputable def f_refdisk : Array Field := match Try.prog.underlying 117 with | some (.struct fs) => fs | _ => #[]
theorem u_refdisk : Try.prog.underlying 117 = some (.struct f_refdisk) := by kernel_rfl

end Go.Proofs.Ytggbnelbnbaoiaa

/- Walks of the document's disk, part 2: Read, settle; no condition. -/
namespace Go.Proofs.Ytggbnelbnbaoiaa
open Go.RowKit Go.MapKept

/-- A sector copied over a sector's bytes; nothing copied. -/
theorem copy64 {w : World} {g dCap sn sc : Nat} {l s : List UInt8} {ad : Option Addr} {R : Assn} (h : Bears w (Assn.obj g (.cells (cellsV l).toArray 5 (0, 0)) * R)) (hl : l.length = 64) (hs : BytesIn w (.slice ad sn sc) s)
    (h64 : s.length = 64) :
    ∃ w', (Builtin.copy_ #[33, 33] 3 #[.slice (some ⟨g, 0, none⟩) 64 dCap, .slice ad sn sc]).run Try.prog w = .ok (goInt 64) w' ∧
      Bears w' (Assn.obj g (.cells (cellsV s).toArray 5 (0, 0)) * R) := by
  obtain rfl : sn = s.length := hs.len
  obtain ⟨b, so, rfl, hr⟩ := hs.at (by intro e; rw [e] at h64; simp at h64)
  have hrun := run_copy_cells (P := Try.prog) w 33 33 3 5 g 0 64 dCap ⟨b, so, none⟩ s.length sc (cellsV s) u_bytes (by kernel_rfl) (by rw [length_cellsV, h64]; rfl)
    (addr_cells hr)
    (fun j hj => by
      rw [length_cellsV] at hj
      rw [Nat.zero_add, cell_of_obj h.obj]
      simp [hl]; omega)
    (fun j hj => frozen_of_obj h.obj _) (oneCell_cellsV s)
  rw [length_cellsV] at hrun
  refine ⟨_, hrun.trans (by rw [h64]; rfl), ?_⟩
  have h2 := h.setCells 0 (cellsV s)
  have e : setList (cellsV l).toArray 0 (cellsV s) = (cellsV s).toArray := by
    have := setList_all (cellsV l).toArray (cellsV s).toArray (by simp [hl, h64])
    simpa using this
  rw [e] at h2
  exact h2
theorem copy0 (w : World) {g dCap sc : Nat} {ad : Option Addr} :
    (Builtin.copy_ #[33, 33] 3 #[.slice (some ⟨g, 0, none⟩) 64 dCap, .slice ad 0 sc]).run Try.prog w = .ok (goInt 0) w :=
  run_copy_none w _ _ _ 5 _ _ _ _ _ _ u_bytes (by kernel_rfl) (by simp)

/-- A row is copied over noughts, or over a sector. -/
theorem copyRow {w : World} {g sn sc : Nat} {l s : List UInt8} {ad : Option Addr} {R : Assn} (h : Bears w (Assn.obj g (.cells (cellsV l).toArray 5 (0, 0)) * R)) (hl : l.length = 64) (hs : BytesIn w (.slice ad sn sc) s)
    (h64 : s = [] ∨ s.length = 64) :
    ∃ w' n, (Builtin.copy_ #[33, 33] 3 #[.slice (some ⟨g, 0, none⟩) 64 64, .slice ad sn sc]).run Try.prog w = .ok (goInt n) w' ∧
      Bears w' (Assn.obj g (.cells (cellsV (if s = [] then l else s)).toArray 5 (0, 0)) * R) := by
  rcases h64 with rfl | h64
  · obtain rfl : sn = 0 := hs.len
    exact ⟨w, 0, copy0 w, h⟩
  · obtain ⟨w', h1, h2⟩ := copy64 (dCap := 64) h hl hs h64
    rw [if_neg (by intro e; rw [e] at h64; simp at h64)]
    exact ⟨w', 64, h1, h2⟩

theorem RefOk.put {Y : Assn} {d : DiskM} {rs : List (Value × Sec)} {ls : List (Nat × Value × Sec)} {bv lv : Value} {bu : Bool} {lf : Int} (h : RefOk Y d rs ls bv lv bu lf) {k : Nat} (hk : k < ls.length) :
    (ls.getD k default).1 < d.len ∧ (ls.getD k default).2.2.length = 64 ∧ RowOk Y (ls.getD k default).2 := by
  have hm : ls.getD k default ∈ ls := by rw [List.getD_eq_getElem?_getD, List.getElem?_eq_getElem hk]; exact List.getElem_mem hk
  have h1 := h.wf.waits ((ls.getD k default).1, (ls.getD k default).2.2) (by rw [← h.waits]; exact List.mem_map.2 ⟨_, hm, rfl⟩)
  exact ⟨h1.1, h1.2, h.puts.rows _ hm⟩
theorem RefOk.row {Y : Assn} {d : DiskM} {rs : List (Value × Sec)} {ls : List (Nat × Value × Sec)} {bv lv : Value} {bu : Bool} {lf : Int} (h : RefOk Y d rs ls bv lv bu lf) {k : Nat} (hk : k < d.len) :
    RowOk Y (rs.getD k default) ∧ padS (rs.getD k default).2 = d.sure k ∧ (rs.map Prod.fst)[k]? = some (rs.getD k default).1 := by
  have hk2 : k < rs.length := by rw [h.len]; exact hk
  have hm : rs.getD k default ∈ rs := by rw [List.getD_eq_getElem?_getD, List.getElem?_eq_getElem hk2]; exact List.getElem_mem hk2
  exact ⟨h.rows.rows _ hm, h.sure k hk2, by rw [List.getElem?_map, List.getD_eq_getElem?_getD, List.getElem?_eq_getElem hk2]; rfl⟩
/-- What is read when k of the writes that wait are looked at. -/
def seen (d : DiskM) (i k : Nat) : Sec := settle d.sure (d.waits.take k) i
theorem seen_all (d : DiskM) (i : Nat) : seen d i d.waits.length = d.now i := by unfold seen DiskM.now; rw [List.take_length]
theorem seen_succ {d : DiskM} {ls : List (Nat × Value × Sec)} (h : putsOf ls = d.waits) {i k : Nat} (hk : k < ls.length) : seen d i (k + 1) = if (ls.getD k default).1 = i then (ls.getD k default).2.2 else seen d i k := by
  have hk2 : k < d.waits.length := by rw [← h]; simpa [putsOf] using hk
  unfold seen
  rw [List.take_succ_eq_append_getElem hk2, settle_append]
  have e : d.waits[k] = ((ls.getD k default).1, (ls.getD k default).2.2) := by
    have : d.waits[k]? = some ((ls.getD k default).1, (ls.getD k default).2.2) := by
      rw [← h]
      unfold putsOf
      rw [List.getElem?_map, List.getD_eq_getElem?_getD, List.getElem?_eq_getElem hk]
      rfl
    rw [List.getElem?_eq_getElem hk2] at this
    exact Option.some.inj this
  rw [e]
  unfold updS
  simp only
  by_cases e2 : (ls.getD k default).1 = i
  · rw [if_pos e2, if_pos e2.symm]
  · rw [if_neg e2, if_neg (Ne.symm e2)]

theorem rread_no {y : Nat} {Y : Assn} {d : DiskM} {R : Assn} {w : World} (h : Bears w (refA y Y d * R)) (i : Int) (hck : d.check i ≠ 0) :
    Calls Try.prog 66 #[.pointer (some ⟨y, 0, none⟩), .int .i64 i] w fun e w' => e = .returned (.tuple #[.slice none 0 0, .int .i64 (d.check i)]) ∧ w = w' := by
  obtain ⟨rs, ls, bv, lv, bu, lf, hok, h1⟩ := Bears.ref.1 h
  obtain ⟨ba, bc, rfl⟩ := hok.rows.form
  obtain ⟨c0, c1, c2, c3, c4, c5, hf⟩ := h1.refCells
  have hlen := hok.len
  rw [hlen] at c0
  have hwl := hok.wf.len
  clear hlen hok h1 h hf c1 c3 c4 c5
  by_cases ho : d.off = true
  · have e : d.check i = 2 := by simp [DiskM.check, ho]
    rw [e]
    clear e hck
    go_enter Try.func66, Try.ntmps66
    go_wp2
    go_ret2
    exact ⟨rfl, rfl⟩
  · have ho : d.off = false := by simpa using ho
    by_cases h0 : i < 0
    · have e : d.check i = 10 := by simp [DiskM.check, ho, h0]
      rw [e]
      clear e hck
      go_enter Try.func66, Try.ntmps66
      go_wp2
      go_ret2
      exact ⟨rfl, rfl⟩
    · by_cases h1 : (d.len : Int) ≤ i
      · have e : d.check i = 10 := by simp [DiskM.check, ho, h1]
        rw [e]
        clear e hck
        go_enter Try.func66, Try.ntmps66
        go_wp2
        go_ret2
        exact ⟨rfl, rfl⟩
      · exact absurd (by simp [DiskM.check, ho, h0, h1]) hck

set_option maxRecDepth 100000 in
set_option maxHeartbeats 800000 in
theorem rread_ok {y : Nat} {Y : Assn} {d : DiskM} {R : Assn} {w : World} (h : Bears w (refA y Y d * (Y * R))) (i : Nat) (hck : d.check (i : Int) = 0) (hroom : d.waits.length < 1099511627776) :
    Calls Try.prog 66 #[.pointer (some ⟨y, 0, none⟩), .int .i64 i] w fun e w' => ∃ g, e = .returned (.tuple #[.slice (some ⟨g, 0, none⟩) 64 64, .int .i64 0]) ∧
      Bears w' (Assn.obj g (.cells (cellsV (d.now i)).toArray 5 (0, 0)) * (refA y Y d * (Y * R))) := by
  obtain ⟨hoff, -, hil⟩ := check_range hck
  have hil : i < d.len := by omega
  obtain ⟨rs, ls, bv, lv, bu, lf, hok, h1⟩ := Bears.ref.1 h
  obtain ⟨ba, bc, rfl⟩ := hok.rows.form
  obtain ⟨la, lc, rfl⟩ := hok.puts.form
  have hll : ls.length = d.waits.length := by rw [← hok.waits]; simp [putsOf]
  have hlen := hok.len
  rw [hlen, hll] at h1
  have hwl := hok.wf.len
  obtain ⟨c0, c1, c2, _, _, _, _⟩ := h1.refCells
  rw [hoff] at c2
  obtain ⟨rok, rpad, rget⟩ := hok.row hil
  have hz : ∀ w, (Instr.makeSlice 33 (.int .i64 64) (.int .i64 64)).run Try.prog w = .ok (.slice (some ⟨w.heap.size, 0, none⟩) 64 64) (w.alloc (.cells (cellsV (List.replicate 64 0)).toArray 5)) := fun _ => by kernel_rfl
  have hz64 : (List.replicate 64 (0 : UInt8)).length = 64 := by simp
  have hzz : List.replicate 64 (0 : UInt8) = zeroSec := rfl
  generalize List.replicate 64 (0 : UInt8) = z at hz hz64 hzz
  have h2 := h1.alloc (.cells (cellsV z).toArray 5)
  -- the row of what is sure
  obtain ⟨rb, ro, rfl, rc⟩ := (hok.rows.tells _ h2.pull3.left).cell rget
  obtain ⟨xa, xn, xc, ex, exn⟩ := rok.form h2.pull3.left
  rw [ex] at rc
  have hrb := rok.tells _ h2.pull3.left
  rw [ex] at hrb
  obtain ⟨w3, n3, hcp, h3⟩ := copyRow h2 hz64 hrb rok.size
  have e3 : (if (rs.getD i default).2 = [] then z else (rs.getD i default).2) = seen d i 0 := by
    show _ = d.sure i
    rw [← rpad, hzz]
    rfl
  rw [e3] at h3
  have s64 : ∀ k, (seen d i k).length = 64 := fun k => settle_length hok.wf.sure (fun q hq => (hok.wf.waits q (List.mem_of_mem_take hq)).2) i
  have hseen := fun k hk => seen_succ (d := d) (i := i) (k := k) hok.waits hk
  have hput := fun k hk => hok.put (k := k) hk
  have hall := seen_all d i
  have Hok := Lib.hid hok
  have Hseen := Lib.hid hseen
  have Hput := Lib.hid hput
  have Hall := Lib.hid hall
  have Hll := Lib.hid hll
  have H64 := Lib.hid s64
  obtain ⟨d0, d1, d2, _, _, _, _⟩ := h2.pull2.refCells
  clear hseen hput hall hll hck hok s64 hz64 hzz rok rpad rget hrb ex exn e3 hlen
  go_enter Try.func66, Try.ntmps66
  go_wp2_with (first | (refine wpList_op rfl (exec_make rfl rfl rfl (hz _)) ?_) | (refine wpList_op rfl (exec_copy rfl rfl rfl hcp) ?_))
  go_loopw [7] (fun v wr => ∃ k : Nat, k ≤ d.waits.length ∧ v = .int .i64 k ∧ Bears wr (Assn.obj w.heap.size (.cells (cellsV (seen d i k)).toArray 5 (0, 0)) *
    (refObj y (.slice (some ⟨rb, ro, none⟩) d.len bc) (.slice la d.waits.length lc) d.off bu lf d.steps * (Y * R)))) (fun v _ => d.waits.length - (intOf v).toNat)
  case atStart => exact ⟨0, by omega, rfl, h3⟩
  case round =>
    clear h3 h2 h1 h hcp rc c0 c1 c2 d0 d1 d2
    obtain ⟨k, hk, rfl, h4⟩ := hrel
    obtain ⟨c0, c1, c2, _, _, _, _⟩ := h4.pull2.refCells
    by_cases hlt : k < d.waits.length
    · have hk2 : k < ls.length := by rw [Hll.out]; exact hlt
      have hltI : (k : Int) < (d.waits.length : Int) := by omega
      obtain ⟨q0, q1⟩ := rputCells_at hk2
      have hp := Hput.out k hk2
      have hse := Hseen.out k hk2
      generalize ls.getD k default = x at q0 q1 hp hse
      obtain ⟨pi, pv, pb⟩ := x
      simp only at q0 q1 hp hse
      obtain ⟨hpi, hpb, hrow⟩ := hp
      obtain ⟨xa, xn, xc, ex, exn⟩ := hrow.form h4.pull3.left
      simp only at ex exn
      subst ex
      obtain ⟨lb, lo, hla, m0⟩ := (Hok.out.puts.tells _ h4.pull3.left).cell q0
      subst hla
      obtain ⟨_, _, e9, m1⟩ := (Hok.out.puts.tells _ h4.pull3.left).cell q1
      cases e9
      have hrb := hrow.tells _ h4.pull3.left
      simp only at hrb
      obtain ⟨w5, hcp, h5⟩ := copy64 (dCap := 64) h4 (H64.out k) hrb hpb
      have m0' : wr.cell? ⟨lb, lo + k * 2, none⟩ = some (.int .i64 (pi : Int)) := m0
      have m1' : wr.cell? ⟨lb, lo + k * 2 + 1, none⟩ = some (.slice xa xn xc) := m1
      clear q0 q1 m0 m1 hpb hrow hrb exn
      by_cases he : pi = i
      · subst he
        rw [if_pos rfl] at hse
        have Hse := Lib.hid hse
        clear hse
        go_wp2_with (refine wpList_op rfl (exec_copy rfl rfl rfl hcp) ?_)
        go_roundw
        case rel => exact ⟨k + 1, hlt, by go_num, by rw [Hse.out]; exact h5⟩
        case measure => simp [intOf]; omega
      · rw [if_neg he] at hse
        have Hse := Lib.hid hse
        have heI : (pi : Int) ≠ (i : Int) := by omega
        clear hse he
        go_wp2_with fail
        go_roundw
        case rel => exact ⟨k + 1, hlt, by go_num, by rw [Hse.out]; exact h4⟩
        case measure => simp [intOf]; omega
    · obtain rfl : k = d.waits.length := by omega
      rw [Hall.out] at h4
      rw [← Hll.out] at h4
      go_wp2_with fail
      go_ret2
      rw [← Hok.out.len] at h4
      exact ⟨_, rfl, (Bears.ref.2 ⟨rs, ls, _, _, bu, lf, Hok.out, h4.pull2⟩).pull2⟩

end Go.Proofs.Ytggbnelbnbaoiaa

/- Walks of the document's disk, part 3: rows copied; settle; Barrier; no condition. -/
namespace Go.Proofs.Ytggbnelbnbaoiaa
open Go.RowKit Go.MapKept

theorem i_putR : (Try.prog.info? 123).map (fun i => (i.zero, i.size, i.bytes)) = some (some (.agg #[.int .i64 0, .slice none 0 0]), 2, 32) := by kernel_rfl
theorem u_putsR : Try.prog.underlying 115 = some (.slice 123) := by kernel_rfl
/-- 'append([]T{}, s...)'. -/
theorem wpList_append_vals {w : World} {ops : Array Oper} {rest : List Oper} {o : Oper} {a : Act} {Q : Exit → Act → World → Prop} {s x : Operand} {e t : TypeId} {i0 : TypeInfo} {z : Value} {size bytes : Nat} {R : Assn} {b0 : Addr}
    (h : Bears w (rowA e size (.slice (some b0) 0 0) 0 [] * R)) (hg : o.guard = none) (ho : o.op = .call { callee := .builtin .append, args := #[s, x], argTypes := #[t, t] }) (ht : Try.prog.underlying t = some (.slice e))
    (hi : Try.prog.info? e = some i0) (hz0 : i0.zero = some z) (hz1 : i0.size = size) (hz2 : i0.bytes = bytes) (hzc : z.cells.size = size) (hpos : 0 < size) (hs : a.eval s = .slice (some b0) 0 0) {ad : Option Addr} {n c : Nat} {xs : List Value} (hx : a.eval x = .slice ad n c)
    (hb : ValsIn size w (.slice ad n c) xs) (h1 : ∀ u ∈ xs, u.oneCell' = true) (hl : n * bytes ≤ 140737488355328)
    (hK : ∀ a' c' w', Bears w' (rowA e size (.slice a' n c') n xs * R) → wpList Try.prog ops Q rest (a.put o.dst (.slice a' n c')) w') : wpList Try.prog ops Q (o :: rest) a w := by
  obtain ⟨_, n', _, hv, hxl, hmax, hr⟩ := hb
  simp only [Value.slice.injEq] at hv
  obtain ⟨rfl, rfl, -⟩ := hv
  by_cases h0 : xs = []
  · subst h0
    obtain rfl : n = 0 := by
      rcases Nat.eq_zero_or_pos n with h | h
      · exact h
      · have := Nat.mul_pos h hpos
        simp at hxl
        omega
    refine wpList_plain hg fun K hK' => ?_
    have hr : (Builtin.append_ #[t, t] o.type #[.slice (some b0) 0 0, .slice ad 0 c]).run Try.prog w = .ok (.slice (some b0) 0 0) w := by
      cases ad <;> simp [Builtin.append_, run_underlying ht, sizeOf, typeInfo, hi, storeCells, Builtin.lenOf, Builtin.firstCells, loadCells, loadCellsFrom]
    unfold Oper.wp execOp
    simp only [ho, resolve, invoke, builtin, Sem.run_bind, Sem.run_pure, Result.andThen_ok, List.map_toArray, List.map_cons, List.map_nil, hs, hx, hr]
    exact hK' _ _ (hK _ _ _ h)
  · obtain ⟨b, ob, rfl, hr2⟩ := hr h0
    refine wpList_append_bears h hg ho ht hi hz0 hz1 hz2 hzc hpos hs (ad := ⟨b, ob, none⟩) (m := n) (c := c) (news := xs) hx hxl (addr_cells hr2) h1 (by omega) (by rw [Nat.zero_add]; exact hl) ?_
    intro a' c' w' h'
    rw [Nat.zero_add] at h' ⊢
    exact hK a' c' w' h'

theorem RowsOk.one {Y : Assn} {rs : List (Value × Sec)} {bv : Value} {w : World} (h : RowsOk Y rs bv) (hw : Bears w Y) : ∀ u ∈ rs.map Prod.fst, u.oneCell' = true := by
  intro u hu
  obtain ⟨r, hr, rfl⟩ := List.mem_map.1 hu
  obtain ⟨ad, n, cap, e, _⟩ := (h.rows r hr).form hw
  rw [e]
  rfl
theorem PutsOk.one {Y : Assn} {ls : List (Nat × Value × Sec)} {lv : Value} {w : World} (h : PutsOk Y ls lv) (hw : Bears w Y) : ∀ u ∈ rputCells ls, u.oneCell' = true := by
  intro u hu
  obtain ⟨x, hx, hu⟩ := List.mem_flatMap.1 hu
  obtain ⟨ad, n, cap, e, _⟩ := (h.rows x hx).form hw
  simp only [List.mem_cons, List.not_mem_nil, or_false] at hu
  rcases hu with rfl | rfl
  · rfl
  · rw [e]; rfl

set_option maxRecDepth 100000 in
set_option maxHeartbeats 800000 in
theorem rsettle_any {y : Nat} {Y : Assn} {R : Assn} {w : World} {bv lv : Value} {off bu : Bool} {lf n : Int} {la : Option Addr} {lc : Nat} {rs : List (Value × Sec)} {ls : List (Nat × Value × Sec)} (h : Bears w (refObj y bv lv off bu lf n * (Y * R)))
    (hrs : RowsOk Y rs bv) (hlen : rs.length ≤ 8192) (hls : PutsOk Y ls (.slice la ls.length lc)) (hput : ∀ x ∈ ls, x.1 < rs.length) (hroom : ls.length < 1099511627776) :
    Calls Try.prog 113 #[.pointer (some ⟨y, 0, none⟩), .slice la ls.length lc] w fun e w' => ∃ Z bv', e = .returned (.tuple #[]) ∧ RowsOk (Z * Y) (setAll rs ls) bv' ∧
      Bears w' (refObj y bv' (.slice none 0 0) off bu lf n * ((Z * Y) * R)) := by
  obtain ⟨ba, bc, rfl⟩ := hrs.form
  have h1 := h.zeroRow (e := 33) (size := 1)
  obtain ⟨c0, _⟩ := h1.pull2.refCells
  have hvals := hrs.tells _ h1.pull3.left
  have hone := hrs.one h1.pull3.left
  obtain ⟨i0, hi0, hz0, hz1, hz2⟩ := info_parts i_row
  have Hrs := Lib.hid hrs
  have Hls := Lib.hid hls
  have Hput := Lib.hid hput
  clear hrs hls hput
  go_enter Try.func113, Try.ntmps113
  go_wp2_with (at_builtin; refine wpList_append_vals h1 rfl rfl u_rows hi0 hz0 hz1 hz2 (by simp [Value.cells]) (by decide) rfl rfl hvals hone (by omega) ?_; intro ga gc w2 h2)
  clear h1 hvals hone c0 h
  go_loopw [5] (fun v wr => ∃ k : Nat, k ≤ ls.length ∧ v = .int .i64 k ∧ Bears wr (rowA 33 1 (.slice ga rs.length gc) rs.length ((setAll rs (ls.take k)).map Prod.fst) *
    (refObj y (.slice ba rs.length bc) lv off bu lf n * (Y * R)))) (fun v _ => ls.length - (intOf v).toNat)
  case atStart => exact ⟨0, by omega, rfl, h2⟩
  case round =>
    clear h2
    obtain ⟨k, hk, rfl, h4⟩ := hrel
    by_cases hlt : k < ls.length
    · have hltI : (k : Int) < (ls.length : Int) := by omega
      obtain ⟨q0, q1⟩ := rputCells_at hlt
      have htk : ls.take (k + 1) = ls.take k ++ [ls.getD k default] := by
        rw [List.take_succ_eq_append_getElem hlt, List.getD_eq_getElem?_getD, List.getElem?_eq_getElem hlt]; rfl
      have hp := Hput.out (ls.getD k default) (by rw [List.getD_eq_getElem?_getD, List.getElem?_eq_getElem hlt]; exact List.getElem_mem hlt)
      have hro := Hls.out.rows (ls.getD k default) (by rw [List.getD_eq_getElem?_getD, List.getElem?_eq_getElem hlt]; exact List.getElem_mem hlt)
      have hst := setAll_snoc rs (ls.take k) (ls.getD k default)
      rw [← htk] at hst
      generalize ls.getD k default = x at q0 q1 hp hst hro
      obtain ⟨pi, pv, pb⟩ := x
      simp only at q0 q1 hp hst
      obtain ⟨xa, xn, xc, ex, exn⟩ := hro.form h4.pull3.left
      simp only at ex exn
      subst ex
      obtain ⟨lb, lo, hla, m0⟩ := (Hls.out.tells _ h4.pull3.left).cell q0
      subst hla
      obtain ⟨_, _, e9, m1⟩ := (Hls.out.tells _ h4.pull3.left).cell q1
      cases e9
      have m0' : wr.cell? ⟨lb, lo + k * 2, none⟩ = some (.int .i64 (pi : Int)) := m0
      have m1' : wr.cell? ⟨lb, lo + k * 2 + 1, none⟩ = some (.slice xa xn xc) := m1
      obtain ⟨gb, rfl, _⟩ := h4.rowAt (k := pi) hp
      have hsl := setAll_length (ls.take k) rs
      have hcell := h4.rowCell (i := pi) hp (v := ((setAll rs (ls.take k)).map Prod.fst)[pi]'(by rw [List.length_map, hsl]; exact hp)) (List.getElem?_eq_getElem _)
      have hfr := h4.rowFrozen pi
      have h5 := h4.drew.rowSet hp (.slice xa xn xc)
      have e5 : ((setAll rs (ls.take k)).map Prod.fst).set pi (.slice xa xn xc) = (setAll rs (ls.take (k + 1))).map Prod.fst := by rw [hst, List.map_set]
      rw [e5] at h5
      have H5 := Lib.hid h5
      generalize ((setAll rs (ls.take k)).map Prod.fst)[pi]'(by rw [List.length_map, hsl]; exact hp) = old at hcell
      clear q0 q1 m0 m1 hro exn htk hst e5 hsl h4 h5
      go_wp2_with fail
      refine wp_region_tail 12 (by kernel_rfl) (by kernel_rfl) ?_
      simp only [List.take_succ_cons, List.take_zero, List.drop_succ_cons, List.drop_zero]
      iterate 12 still_step
      refine wpStill_nil ?_
      go_wp2_with fail
      go_roundw
      case rel => exact ⟨k + 1, hlt, by go_num, H5.out⟩
      case measure => simp [intOf]; omega
    · obtain rfl : k = ls.length := by omega
      rw [List.take_length] at h4
      obtain ⟨_, _, _, _, _, _, hf⟩ := h4.pull2.refCells
      have f0 := hf 0
      have f1 := hf 1
      obtain ⟨c0, c1, _⟩ := h4.pull2.refCells
      have h6 := ((h4.pull2.setCell (i := 0) (.slice ga rs.length gc)).setCell (i := 1) (.slice none 0 0)).pull2
      clear hf
      have Hsl := Lib.hid (setAll_length ls rs)
      go_wp2_with fail
      go_end0
      refine ⟨rowA 33 1 (.slice ga rs.length gc) rs.length ((setAll rs ls).map Prod.fst), .slice ga rs.length gc, rfl, ⟨fun r hr => ?_, rowA_vals, ga, gc, by rw [Hsl.out]⟩, ?_⟩
      · rcases setAll_mem hr with hr | ⟨x, hx, rfl⟩
        · exact (Hrs.out.rows r hr).right
        · exact (Hls.out.rows x hx).right
      · rw [Assn.mul_assoc']
        exact h6.pull2.cast (by simp)

theorem RefOk.far {Y : Assn} {d : DiskM} {rs : List (Value × Sec)} {ls : List (Nat × Value × Sec)} {bv lv : Value} {bu : Bool} {lf : Int} (h : RefOk Y d rs ls bv lv bu lf) : ∀ x ∈ ls, x.1 < rs.length ∧ x.2.2.length = 64 := by
  intro x hx
  have := h.wf.waits (x.1, x.2.2) (by rw [← h.waits]; exact List.mem_map.2 ⟨_, hx, rfl⟩)
  rw [h.len]
  exact this
theorem RefOk.many {Y : Assn} {d : DiskM} {rs : List (Value × Sec)} {ls : List (Nat × Value × Sec)} {bv lv : Value} {bu : Bool} {lf : Int} (h : RefOk Y d rs ls bv lv bu lf) : ls.length = d.waits.length := by rw [← h.waits]; simp [putsOf]

theorem DiskM.step_two {d : DiskM} (h : d.step.1 ≠ 0) : d.step.1 = 2 := by
  unfold DiskM.step at h ⊢
  split
  · rfl
  · rename_i hne; rw [if_neg hne] at h; exact absurd rfl h
theorem DiskM.step_go {d : DiskM} (h : d.step.1 = 0) : d.step.2 = { d with fuse := if 0 < d.fuse then d.fuse - 1 else d.fuse, steps := wrap64 (d.steps + 1) } := by
  unfold DiskM.step at h ⊢
  split at h
  · simp at h
  · rename_i hne; rw [if_neg hne]

set_option maxRecDepth 100000 in
set_option maxHeartbeats 800000 in
theorem rbarrier_any {y : Nat} {Y : Assn} {d d' : DiskM} {r : Int} {R : Assn} {w : World} (h : Bears w (refA y Y d * (Y * R))) (hroom : d.waits.length < 1099511627776) (hb : d.barrier = (r, d')) :
    Calls Try.prog 74 #[.pointer (some ⟨y, 0, none⟩)] w fun e w' => e = .returned (.int .i64 r) ∧ ∃ Z, Bears w' (refA y (Z * Y) d' * ((Z * Y) * R)) := by
  obtain ⟨rs, ls, bv, lv, bu, lf, hok, h1⟩ := Bears.ref.1 h
  obtain ⟨_, _, c2, _⟩ := h1.refCells
  clear hok h1
  by_cases ho : d.off = true
  · have hb2 : d.barrier = (2, d) := by simp [DiskM.barrier, ho]
    obtain ⟨rfl, rfl⟩ := Prod.mk.inj (hb.symm.trans hb2)
    rw [ho] at c2
    clear hb hb2 ho
    go_enter Try.func74, Try.ntmps74
    go_wp2_with fail
    go_ret
    exact ⟨rfl, Assn.emp, by rw [Assn.emp_mul]; exact h⟩
  · have ho : d.off = false := by simpa using ho
    rw [ho] at c2
    by_cases hs : d.step.1 = 0
    · have hb2 : d.barrier = (0, { d.step.2 with sure := d.now, waits := [] }) := by unfold DiskM.barrier; rw [ho, if_neg (by simp), if_neg (by simpa using hs)]
      obtain ⟨rfl, rfl⟩ := Prod.mk.inj (hb.symm.trans hb2)
      have hst := DiskM.step_go hs
      have hr := rstep_any h
      have hs' : (d.step.1 == 0) = true := by simp [hs]
      rw [hs'] at hr
      have Hr := Lib.hid hr
      have Hst := Lib.hid hst
      clear hb hb2 ho hs hs' hst hr h
      go_enter Try.func74, Try.ntmps74
      go_wp2_with fail
      refine Hr.out.mono ?_
      rintro e w1 ⟨rfl, h2⟩
      obtain ⟨rs, ls, bv, lv, bu, lf, hok, h3⟩ := Bears.ref.1 h2
      have hw : d.step.2.waits = d.waits := by rw [Hst.out]
      obtain ⟨la, lc, rfl⟩ := hok.puts.form
      have hmany := hok.many
      rw [hw] at hmany
      have hwl := hok.wf.len
      have hrl := hok.len
      obtain ⟨_, e1, _⟩ := h3.refCells
      have Hok := Lib.hid hok
      have Hmany := Lib.hid hmany
      clear hok hw hmany c2
      go_wp2_with fail
      refine (rsettle_any h3 Hok.out.rows (by omega) Hok.out.puts (fun x hx => (Hok.out.far x hx).1) (by rw [Hmany.out]; exact hroom)).mono ?_
      rintro e w4 ⟨Z, bv', rfl, hrs, h4⟩
      go_wp2_with fail
      go_ret
      have hok := Hok.out
      have hsu : d.step.2.now = d.now := by rw [Hst.out]; rfl
      refine ⟨rfl, Z, Bears.ref.2 ⟨setAll rs ls, [], bv', .slice none 0 0, bu, lf, ⟨⟨hok.wf.len, fun i => ?_, by simp, hok.wf.fuse, hok.wf.steps⟩, ?_, hrs, ?_, PutsOk.nil _, rfl, hok.burn, hok.left, hok.lfb⟩, h4⟩⟩
      · simp only
        rw [← hsu]
        exact hok.wf.now i
      · rw [setAll_length]; exact hok.len
      · have h5 := hok.sure.settle (fun x hx => (hok.far x hx).2)
        rw [hok.waits] at h5
        simp only
        rw [← hsu]
        exact h5
    · have hb2 : d.barrier = d.step := by unfold DiskM.barrier; rw [ho, if_neg (by simp), if_pos hs]
      have hr := rstep_any h
      have hs' : (d.step.1 == 0) = false := by simp [hs]
      rw [hs'] at hr
      have hs2 := DiskM.step_two hs
      have hb3 : d.step = (r, d') := hb2.symm.trans hb
      obtain rfl : r = 2 := by rw [hb3] at hs2; exact hs2
      obtain rfl : d.step.2 = d' := by rw [hb3]
      have Hr := Lib.hid hr
      clear hb hb2 hb3 ho hs hs' hs2 hr h
      go_enter Try.func74, Try.ntmps74
      go_wp2_with fail
      refine Hr.out.mono ?_
      rintro e w1 ⟨rfl, h2⟩
      go_wp2_with fail
      go_ret
      exact ⟨rfl, Assn.emp, by rw [Assn.emp_mul]; exact h2⟩

end Go.Proofs.Ytggbnelbnbaoiaa

/- Walks of the document's disk, part 4: Write; no condition. -/
namespace Go.Proofs.Ytggbnelbnbaoiaa
open Go.RowKit Go.MapKept

theorem DiskM.step_wf {d : DiskM} (h : d.WF) : d.step.2.WF := by
  have hfu := h.fuse
  have hst := h.steps
  unfold DiskM.step
  split
  · exact ⟨h.len, h.sure, h.waits, by simp, hst⟩
  · refine ⟨h.len, h.sure, h.waits, ?_, by simp only; unfold wrap64; omega⟩
    simp only
    split <;> omega
theorem RefOk.snoc {Z Y : Assn} {d : DiskM} {rs : List (Value × Sec)} {ls : List (Nat × Value × Sec)} {bv lv lv' : Value} {bu : Bool} {lf : Int} (h : RefOk Y d rs ls bv lv bu lf) {i : Nat} {pv : Value} {pb : Sec} (hi : i < d.len) (hp : RowOk (Z * Y) (pv, pb)) (h64 : pb.length = 64)
    (hl : PutsOk (Z * Y) (ls ++ [(i, pv, pb)]) lv') : RefOk (Z * Y) { d with waits := d.waits ++ [(i, pb)] } rs (ls ++ [(i, pv, pb)]) bv lv' bu lf := by
  refine ⟨⟨h.wf.len, h.wf.sure, fun q hq => ?_, h.wf.fuse, h.wf.steps⟩, h.len, h.rows.right, h.sure, hl, ?_, h.burn, h.left, h.lfb⟩
  · rcases List.mem_append.1 hq with hq | hq
    · exact h.wf.waits q hq
    · rw [List.mem_singleton] at hq; subst hq; exact ⟨hi, h64⟩
  · show putsOf (ls ++ [(i, pv, pb)]) = _
    unfold putsOf
    rw [List.map_append]
    have := h.waits
    unfold putsOf at this
    rw [this]
    rfl

set_option maxRecDepth 100000 in
set_option maxHeartbeats 800000 in
theorem rwrite_any {y : Nat} {Y : Assn} {d d' : DiskM} {r : Int} {R : Assn} {w : World} (h : Bears w (refA y Y d * (Y * R))) (i : Int) {l : List UInt8} {ad : Option Addr} {n cap : Nat} (hb : (Y * R).Tells (fun w => BytesIn w (.slice ad n cap) l)) (hroom : d.waits.length < 1099511627776) (hw : d.write i l = (r, d')) (hl0 : l.length ≤ 140737488355328) :
    Calls Try.prog 73 #[.pointer (some ⟨y, 0, none⟩), .int .i64 i, .slice ad n cap] w fun e w' => e = .returned (.int .i64 r) ∧ ∃ Z, Bears w' (refA y (Z * Y) d' * ((Z * Y) * R)) := by
  obtain rfl : n = l.length := (hb _ h.right).len
  obtain ⟨rs, ls, bv, lv, bu, lf, hok, h1⟩ := Bears.ref.1 h
  obtain ⟨ba, bc, rfl⟩ := hok.rows.form
  obtain ⟨c0, _, c2, _⟩ := h1.refCells
  rw [hok.len] at c0
  have hdl := hok.wf.len
  clear hok h1
  by_cases ho : d.off = true
  · have hb2 : d.write i l = (2, d) := by simp [DiskM.write, DiskM.check, ho]
    obtain ⟨rfl, rfl⟩ := Prod.mk.inj (hw.symm.trans hb2)
    rw [ho] at c2
    clear hw hb2 ho
    go_enter Try.func73, Try.ntmps73
    go_wp2_with fail
    go_ret
    exact ⟨rfl, Assn.emp, by rw [Assn.emp_mul]; exact h⟩
  have ho : d.off = false := by simpa using ho
  rw [ho] at c2
  by_cases hi : i < 0 ∨ (d.len : Int) ≤ i
  · have hb2 : d.write i l = (10, d) := by simp [DiskM.write, DiskM.check, ho, hi]
    obtain ⟨rfl, rfl⟩ := Prod.mk.inj (hw.symm.trans hb2)
    clear hw hb2 ho
    rcases hi with hi | hi
    · go_enter Try.func73, Try.ntmps73
      go_wp2_with fail
      go_ret
      exact ⟨rfl, Assn.emp, by rw [Assn.emp_mul]; exact h⟩
    · have hi0 : ¬ i < 0 := by omega
      go_enter Try.func73, Try.ntmps73
      go_wp2_with fail
      go_ret
      exact ⟨rfl, Assn.emp, by rw [Assn.emp_mul]; exact h⟩
  have hi1 : 0 ≤ i := by omega
  have hi2 : i < (d.len : Int) := by omega
  have hck : d.check i = 0 := by simp [DiskM.check, ho, hi]
  by_cases hl : ¬ l.length = 64
  · have hb2 : d.write i l = (11, d) := by simp [DiskM.write, hck, hl]
    obtain ⟨rfl, rfl⟩ := Prod.mk.inj (hw.symm.trans hb2)
    have hne : ((l.length : Int) != 64) = true := by rw [bne_iff_ne]; omega
    clear hw hb2 ho hl hi hck
    go_enter Try.func73, Try.ntmps73
    go_wp2_with fail
    go_ret
    exact ⟨rfl, Assn.emp, by rw [Assn.emp_mul]; exact h⟩
  have hl : l.length = 64 := Decidable.not_not.1 hl
  have heq : ((l.length : Int) != 64) = false := by rw [hl]; rfl
  by_cases hs : ¬ d.step.1 = 0
  · have hb2 : d.write i l = d.step := by simp [DiskM.write, hck, hl, hs]
    have hr := rstep_any h
    have hs' : (d.step.1 == 0) = false := by simp [hs]
    rw [hs'] at hr
    have hs2 := DiskM.step_two hs
    have hb3 : d.step = (r, d') := hb2.symm.trans hw
    obtain rfl : r = 2 := by rw [hb3] at hs2; exact hs2
    obtain rfl : d.step.2 = d' := by rw [hb3]
    have Hr := Lib.hid hr
    have Hl := Lib.hid hl
    clear hw hb2 hb3 ho hs hs' hs2 hr h hl hi hck
    go_enter Try.func73, Try.ntmps73
    go_wp2_with fail
    refine Hr.out.mono ?_
    rintro e w1 ⟨rfl, h2⟩
    go_wp2_with fail
    go_ret
    exact ⟨rfl, Assn.emp, by rw [Assn.emp_mul]; exact h2⟩
  have hs : d.step.1 = 0 := Decidable.not_not.1 hs
  obtain ⟨k, rfl⟩ := Int.eq_ofNat_of_zero_le hi1
  have hb2 : d.write (k : Int) l = (0, { d.step.2 with waits := d.step.2.waits ++ [(k, l)] }) := by simp [DiskM.write, hck, hl, hs, step_waits]
  obtain ⟨rfl, rfl⟩ := Prod.mk.inj (hw.symm.trans hb2)
  have hr := rstep_any h
  have hs' : (d.step.1 == 0) = true := by simp [hs]
  rw [hs'] at hr
  have Hr := Lib.hid hr
  have Hl := Lib.hid hl
  have hkl : k < d.step.2.len := by rw [step_len]; omega
  have Hkl := Lib.hid hkl
  have Hw : Hid (d.step.2.waits = d.waits) := step_waits d
  obtain ⟨i0, hi0, hz0, hz1, hz2⟩ := info_parts i_putR
  clear hw hb2 ho hs hs' hr h hl hi hck hkl
  go_enter Try.func73, Try.ntmps73
  go_wp2_with fail
  refine Hr.out.mono ?_
  rintro e w1 ⟨rfl, h2⟩
  obtain ⟨rs, ls, bv, lv, bu, lf, hok, h3⟩ := Bears.ref.1 h2
  obtain ⟨la, lc, rfl⟩ := hok.puts.form
  have h4 := h3.zeroRow (e := 123) (size := 2)
  obtain ⟨_, e1, _⟩ := h4.pull2.refCells
  have hvals := hok.puts.tells _ h4.pull3.left
  have hone := hok.puts.one h4.pull3.left
  have hmany := hok.many
  rw [Hw.out] at hmany
  have hmn : ls.length < 1099511627776 := by rw [hmany]; exact hroom
  have Hok := Lib.hid hok
  clear hok hmany c0 c2
  have hz64 : l.length ≤ 140737488355328 := hl0
  go_wp2_with (first
    | (at_builtin; refine wpList_append_vals h4 rfl rfl u_putsR hi0 hz0 hz1 hz2 (by simp [Value.cells]) (by decide) rfl rfl hvals hone (by omega) ?_; intro ga gc w5 h5)
    | (at_builtin; refine wpList_append_fresh (h5.alloc (.cells #[] 5)).right rfl rfl rfl rfl (hb _ (h5.alloc (.cells #[] 5)).right.right.right) hl0 ?_; intro xa xc w6 h6)
    | (at_builtin; refine wpList_append_bears (h6.alloc (.cells #[.int .i64 (k : Int), .slice xa l.length xc] 123)).pull3 rfl rfl u_putsR hi0 hz0 hz1 hz2 (by simp [Value.cells]) (by decide) rfl (m := 1) rfl rfl (World.news_of_block (cs := #[.int .i64 (k : Int), .slice xa l.length xc]) (h6.alloc _).obj) (by intro u hu; simp at hu; rcases hu with rfl | rfl <;> rfl) (by unfold maxLen; omega) (by omega) ?_; intro pa pc w8 h8; obtain ⟨g0, g1, g2, g3, g4, g5, g6⟩ := h8.pull4.refCells; have f1 := g6 1; clear g6))
  go_ret
  have hok := Hok.out
  have h9 := h8.pull4.setCell (i := 1) (.slice pa (ls.length + 1) pc)
  refine ⟨rfl, rowA 123 2 (.slice pa (ls.length + 1) pc) (ls.length + 1) (rputCells ls ++ [.int .i64 (k : Int), .slice xa l.length xc]) * bufA (.slice xa l.length xc) l, Bears.ref.2 ⟨rs, ls ++ [(k, .slice xa l.length xc, l)], _, .slice pa (ls.length + 1) pc, bu, lf, hok.snoc Hkl.out ?_ Hl.out ?_, ?_⟩⟩
  · refine ⟨?_, .inr Hl.out⟩
    rw [Assn.mul_assoc']
    exact (buf_tells (R := Y)).right
  · refine ⟨fun x hx => ?_, ?_, pa, pc, by simp⟩
    · rcases List.mem_append.1 hx with hx | hx
      · exact (hok.puts.rows x hx).right
      · rw [List.mem_singleton] at hx
        subst hx
        refine ⟨?_, .inr Hl.out⟩
        rw [Assn.mul_assoc']
        exact (buf_tells (R := Y)).right
    · rw [rputCells_append, Assn.mul_assoc']
      exact rowA_vals
  · have h10 : Bears _ (refObj y bv (.slice pa (ls.length + 1) pc) d.step.2.off bu lf d.step.2.steps * (rowA 123 2 (.slice pa (ls.length + 1) pc) (ls.length + 1) (rputCells ls ++ [.int .i64 (k : Int), .slice xa l.length xc]) * (Assn.obj w6.heap.size (.cells #[.int .i64 (k : Int), .slice xa l.length xc] 123 (0, 0)) * (bufA (.slice xa l.length xc) l * (Y * R))))) := h9.cast (by simp)
    have h11 := h10.pull3.right
    simp only [Assn.mul_assoc']
    exact h11

end Go.Proofs.Ytggbnelbnbaoiaa

/- Walks of the document's disk, part 5: Boot; no condition. -/
namespace Go.Proofs.Ytggbnelbnbaoiaa
open Go.RowKit Go.MapKept

/-- Which of the writes that wait are kept. -/
def keptL (keep : List Int) : Nat → List (Nat × Value × Sec) → List (Nat × Value × Sec)
  | _, [] => []
  | k, p :: r => if keeps keep k = true then p :: keptL keep (k + 1) r else keptL keep (k + 1) r
theorem keptL_append (keep : List Int) (p : Nat × Value × Sec) : ∀ (l : List (Nat × Value × Sec)) (j : Nat), keptL keep j (l ++ [p]) = keptL keep j l ++ if keeps keep (j + l.length) = true then [p] else []
  | [], j => by simp [keptL]
  | q :: l, j => by
    have e : j + (l.length + 1) = j + 1 + l.length := by omega
    simp only [List.cons_append, keptL, List.length_cons, e]
    rw [keptL_append keep p l (j + 1)]
    split <;> rfl
theorem keptL_sub (keep : List Int) : ∀ (l : List (Nat × Value × Sec)) (j : Nat) (p : Nat × Value × Sec), p ∈ keptL keep j l → p ∈ l
  | [], _, _, h => by simp [keptL] at h
  | q :: l, j, p, h => by
    simp only [keptL] at h
    split at h
    · rcases List.mem_cons.1 h with rfl | h
      · simp
      · exact List.mem_cons_of_mem _ (keptL_sub keep l _ p h)
    · exact List.mem_cons_of_mem _ (keptL_sub keep l _ p h)
theorem keptL_puts (keep : List Int) : ∀ (l : List (Nat × Value × Sec)) (j : Nat), putsOf (keptL keep j l) = kept keep j (putsOf l)
  | [], _ => rfl
  | q :: l, j => by
    show putsOf (keptL keep j (q :: l)) = kept keep j ((q.1, q.2.2) :: putsOf l)
    simp only [keptL, kept]
    split
    · show (q.1, q.2.2) :: putsOf (keptL keep (j + 1) l) = _
      rw [keptL_puts keep l (j + 1)]
    · exact keptL_puts keep l (j + 1)
theorem keptL_len (keep : List Int) : ∀ (l : List (Nat × Value × Sec)) (j : Nat), (keptL keep j l).length ≤ l.length
  | [], _ => Nat.le_refl _
  | q :: l, j => by
    simp only [keptL]
    have := keptL_len keep l (j + 1)
    split <;> simp <;> omega
theorem keptL_none : ∀ (l : List (Nat × Value × Sec)) (j : Nat), keptL [] j l = []
  | [], _ => rfl
  | q :: l, j => by simp only [keptL, keeps]; exact keptL_none l (j + 1)

end Go.Proofs.Ytggbnelbnbaoiaa
