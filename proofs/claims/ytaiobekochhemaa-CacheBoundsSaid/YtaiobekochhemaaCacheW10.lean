/- Walks of the cache's functions, part 10: Read, Begin, Write, Held, Pinned; no condition. -/
import Derived.Test.YtaiobekochhemaaCacheW9
namespace Go.Proofs.Ytaiobekochhemaa
open Go.RowKit Go.MapKept

theorem pinOf_some {i : Int} {y : LineM} {ls : List LineM} (h : findL i ls = some y) : pinOf i ls = y.pin := by unfold pinOf; rw [h]
theorem pinOf_none {i : Int} {ls : List LineM} (h : findL i ls = none) : pinOf i ls = false := by unfold pinOf; rw [h]

/-- What a cache answers to a reading, and what it is behind it. -/
def CacheM.read (c : CacheM) (d : DiskM) (i : Int) : Int × Sec × CacheM :=
  match findL i c.lines with
  | some y => (0, y.b, c.used y)
  | none => if d.check i ≠ 0 then (d.check i, [], c) else (0, d.now i.toNat, ({ c with misses := wrap64 (c.misses + 1) } : CacheM).used ⟨i, d.now i.toNat, false⟩)

theorem wrap64_bounds (x : Int) : -9223372036854775808 ≤ wrap64 x ∧ wrap64 x ≤ 9223372036854775807 := by unfold wrap64; omega

theorem Bears.diskWF {w : World} {p : Nat} {d : DiskM} {R : Assn} (h : Bears w (diskA p d * R)) : d.WF := by
  obtain ⟨_, _, _, _, _, hd, _⟩ := Bears.disk.1 h
  exact hd
theorem DiskM.WF.now64 {d : DiskM} (h : d.WF) (i : Nat) : (d.now i).length = 64 := settle_length h.sure (fun p hp => (h.waits p hp).2) i

set_option maxRecDepth 100000 in
set_option maxHeartbeats 1000000 in
theorem cread_held {c p x : Nat} {cm : CacheM} {R : Assn} {w : World} {i : Int} {y : LineM} (h : Bears w (cacheA c p x cm * R)) (hf : findL i cm.lines = some y) (hlen : cm.lines.length < 1099511627775) :
    Calls Try.prog 24 #[.pointer (some ⟨c, 0, none⟩), .int .i64 i] w fun e w' => ∃ ad cap, e = .returned (.tuple #[.slice ad y.b.length cap, .int .i64 0]) ∧
      Bears w' (rowA 5 1 (.slice ad y.b.length cap) y.b.length (cellsV y.b) * (cacheA c p x (cm.used y) * R)) := by
  obtain ⟨hb, pb, ov, hl, pl, Y, hwf, hhm, hpm, h0⟩ := Bears.cache.1 h
  obtain ⟨⟨c0, c1, c2, c3, c4, c5, c6, c7⟩, _⟩ := cache_cells h0
  obtain ⟨hym, rfl⟩ := findL_mem hf
  obtain ⟨ad, cap, hg, hY⟩ := hhm.yes _ _ hf
  have hy64 := hwf.bytes y hym
  have hz : ∀ w, (zeroValue 43).run Try.prog w = .ok (.slice none 0 0) w := fun _ => by kernel_rfl
  have hh := h0.pull2
  have hk := hh.mapNodup
  have hmap' := Lib.hid (hhm.use hwf.nodup hk hY)
  have hpm' := Lib.hid (hpm.use hwf.nodup (pinOf_some hf))
  have hu := use_any rfl (by omega) h0.c34 y (.slice ad y.b.length cap)
  have Hy := Lib.hid hy64
  have Hwf := Lib.hid hwf
  have Hf := Lib.hid hf
  have hul : (useL y cm.lines).length < 1099511627776 := by have := useL_length (y := y) (ls := cm.lines); omega
  clear hf hy64 hwf hhm hpm hym h hk
  go_enter Try.func24, Try.ntmps24
  go_wp2_with (refine wpList_lookup_ok_bears hh rfl rfl u_has u_int (hz _) rfl rfl ?_; rw [hg]; simp only [Option.getD_some, Option.isSome_some])
  refine hu.mono ?_
  rintro e w1 ⟨rfl, ov1, h1⟩
  go_wp2_with fail
  refine (trim_any rfl (useL_nodup Hwf.out.nodup) hpm'.out Hwf.out.most h1.c34).mono ?_
  rintro e w2 ⟨rfl, ov2, hl2, hm2, hp2, h2⟩
  go_wp2_with fail
  have hY2 : (cacheObj c p x cm hb pb ov2 * (mapA hb hl2 * (mapA pb pl * (rowA 3 1 ov2 (trimL cm.most (useL y cm.lines).length (useL y cm.lines)).length (orderV (trimL cm.most (useL y cm.lines).length (useL y cm.lines))) * (Y * R))))).Tells (fun w => BytesIn w (.slice ad y.b.length cap) y.b) :=
    fun w hw => hY w hw.right.right.right.right.left
  refine (bclone_any h2 hY2 (ne_nil_of_64 Hy.out) (by rw [Hy.out]; decide)).mono ?_
  rintro e w3 ⟨ad', cap', rfl, h3⟩
  go_wp2_with fail
  go_ret2
  refine ⟨ad', cap', rfl, ?_⟩
  have h4 := h3.pull2
  refine Bears.pull2 (Bears.cache.2 ⟨hb, pb, ov2, hl2, pl, Y, Hwf.out.used Hy.out (fun ho => Hwf.out.closed ho y (findL_mem Hf.out).1) (Hwf.out.place y (findL_mem Hf.out).1), hm2 Y hmap'.out, hp2, ?_⟩)
  simp only [CacheM.used]
  exact h4.cast (by ac_rfl)

set_option maxRecDepth 100000 in
set_option maxHeartbeats 1000000 in
theorem cread_disk {c p x : Nat} {cm : CacheM} {d : DiskM} {R : Assn} {w : World} {i : Int} (h : Bears w (cacheA c p x cm * (diskA p d * R))) (hf : findL i cm.lines = none) (hck : d.check i = 0) (hlen : cm.lines.length < 1099511627775) :
    Calls Try.prog 24 #[.pointer (some ⟨c, 0, none⟩), .int .i64 i] w fun e w' => ∃ ad cap, e = .returned (.tuple #[.slice ad 64 cap, .int .i64 0]) ∧
      Bears w' (rowA 5 1 (.slice ad 64 cap) 64 (cellsV (d.now i.toNat)) * (cacheA c p x (({ cm with misses := wrap64 (cm.misses + 1) } : CacheM).used ⟨i, d.now i.toNat, false⟩) * (diskA p d * R))) := by
  have hs64 := h.pull2.diskWF.now64 i.toNat
  obtain ⟨hb, pb, ov, hl, pl, Y, hwf, hhm, hpm, h0⟩ := Bears.cache.1 h
  obtain ⟨⟨c0, c1, c2, c3, c4, c5, c6, c7⟩, _⟩ := cache_cells h0
  have hg := hhm.no _ hf
  generalize hs : d.now i.toNat = s at hs64
  have hz : ∀ w, (zeroValue 43).run Try.prog w = .ok (.slice none 0 0) w := fun _ => by kernel_rfl
  have hh := h0.pull2
  have hr := read_to (p := p) (s := s) i (h0.cast (by ac_rfl : _ = diskA p d * (cacheObj c p x cm hb pb ov * (mapA hb hl * (mapA pb pl * (rowA 3 1 ov cm.lines.length (orderV cm.lines) * (Y * R))))))) hck hs
  have Hs := Lib.hid hs64
  have Hwf := Lib.hid hwf
  have Hf := Lib.hid hf
  have Hpm := Lib.hid hpm
  have Hhm := Lib.hid hhm
  clear hf hs64 hwf hhm hpm h hs hck
  go_enter Try.func24, Try.ntmps24
  go_wp2_with (refine wpList_lookup_ok_bears hh rfl rfl u_has u_int (hz _) rfl rfl ?_; rw [hg]; simp only [Option.getD_none, Option.isSome_none])
  refine hr.mono ?_
  rintro e w1 ⟨g, rfl, h1⟩
  have h1' := h1.pull3
  obtain ⟨⟨d0, d1, d2, d3, d4, d5, d6, d7⟩, df⟩ := cache_cells h1'
  have df3 := df 3
  have h2 := h1'.setCell (i := 3) (.int .i64 (wrap64 (cm.misses + 1)))
  simp only [List.setIfInBounds_toArray, List.set_cons_zero, List.set_cons_succ] at h2
  have h3 : Bears (w1.setCell ⟨c, 3, none⟩ (.int .i64 (wrap64 (cm.misses + 1)))) (cacheObj c p x ({ cm with misses := wrap64 (cm.misses + 1) } : CacheM) hb pb ov * (mapA hb hl * (rowA 3 1 ov cm.lines.length (orderV cm.lines) *
      (mapA pb pl * ((Assn.obj g (.cells (cellsV s).toArray 125 (0, 0)) * Y) * (diskA p d * R)))))) := h2.cast (by simp only [cacheObj]; ac_rfl)
  have hmap' := Lib.hid (Hhm.out.more (Z := Assn.obj g (.cells (cellsV s).toArray 125 (0, 0))) |>.use Hwf.out.nodup h3.pull2.mapNodup (y := ⟨i, s, false⟩) (ad := some ⟨g, 0, none⟩) (cap := 64) (BytesIn.tells _ _ rfl))
  have hpm' := Lib.hid (Hpm.out.use Hwf.out.nodup (y := ⟨i, s, false⟩) (pinOf_none Hf.out))
  have hu := use_any rfl (by omega) h3 ⟨i, s, false⟩ (.slice (some ⟨g, 0, none⟩) s.length 64)
  have hul : (useL ⟨i, s, false⟩ cm.lines).length < 1099511627776 := by have := useL_length (y := ⟨i, s, false⟩) (ls := cm.lines); omega
  rw [Hs.out] at hu
  clear h1 h1' h2
  go_wp2_with fail
  refine hu.mono ?_
  rintro e w2 ⟨rfl, ov1, h4⟩
  go_wp2_with fail
  refine (trim_any (cm := { cm with misses := wrap64 (cm.misses + 1) }) rfl (useL_nodup Hwf.out.nodup) hpm'.out Hwf.out.most h4.c34).mono ?_
  rintro e w3 ⟨rfl, ov2, hl2, hm2, hp2, h5⟩
  have hm3 := hm2 _ (by have := hmap'.out; rw [Hs.out] at this; exact this)
  go_wp2_with fail
  have hY2 : (cacheObj c p x ({ cm with misses := wrap64 (cm.misses + 1) } : CacheM) hb pb ov2 * (mapA hb hl2 * (mapA pb pl * (rowA 3 1 ov2 (trimL cm.most (useL ⟨i, s, false⟩ cm.lines).length (useL ⟨i, s, false⟩ cm.lines)).length (orderV (trimL cm.most (useL ⟨i, s, false⟩ cm.lines).length (useL ⟨i, s, false⟩ cm.lines))) *
      ((Assn.obj g (.cells (cellsV s).toArray 125 (0, 0)) * Y) * (diskA p d * R)))))).Tells (fun w => BytesIn w (.slice (some ⟨g, 0, none⟩) 64 64) s) :=
    fun w hw => BytesIn.tells _ _ Hs.out.symm _ hw.right.right.right.right.left
  refine (bclone_any h5 hY2 (ne_nil_of_64 Hs.out) (by rw [Hs.out]; decide)).mono ?_
  rintro e w4 ⟨ad', cap', rfl, h6⟩
  go_wp2_with fail
  go_ret2
  refine ⟨ad', cap', rfl, ?_⟩
  have hw2 : CacheM.WF { cm with misses := wrap64 (cm.misses + 1) } := ⟨Hwf.out.nodup, Hwf.out.bytes, Hwf.out.most, wrap64_bounds _, Hwf.out.closed, Hwf.out.place⟩
  refine Bears.pull2 (Bears.cache.2 ⟨hb, pb, ov2, hl2, pl, _, hw2.used (y := ⟨i, s, false⟩) Hs.out (fun _ => rfl) (fun h => by cases h), hm3, hp2, ?_⟩)
  simp only [CacheM.used]
  exact h6.cast (by ac_rfl)

set_option maxRecDepth 100000 in
set_option maxHeartbeats 1000000 in
theorem cread_no {c p x : Nat} {cm : CacheM} {d : DiskM} {R : Assn} {w : World} {i : Int} (h : Bears w (cacheA c p x cm * (diskA p d * R))) (hf : findL i cm.lines = none) (hck : d.check i ≠ 0) :
    Calls Try.prog 24 #[.pointer (some ⟨c, 0, none⟩), .int .i64 i] w fun e w' => e = .returned (.tuple #[.slice none 0 0, .int .i64 (d.check i)]) ∧ w = w' := by
  obtain ⟨hb, pb, ov, hl, pl, Y, hwf, hhm, hpm, h0⟩ := Bears.cache.1 h
  obtain ⟨⟨c0, c1, c2, c3, c4, c5, c6, c7⟩, _⟩ := cache_cells h0
  have hg := hhm.no _ hf
  have hz : ∀ w, (zeroValue 43).run Try.prog w = .ok (.slice none 0 0) w := fun _ => by kernel_rfl
  have hr := read_no h.pull2 i hck
  have hh := h0.pull2
  obtain ⟨r, hr0⟩ : ∃ r, d.check i = r := ⟨_, rfl⟩
  rw [hr0] at hr hck ⊢
  have hne : (r == 0) = false := by rw [beq_eq_false_iff_ne]; exact hck
  clear hf hwf hhm h hr0
  go_enter Try.func24, Try.ntmps24
  go_wp2_with (refine wpList_lookup_ok_bears hh rfl rfl u_has u_int (hz _) rfl rfl ?_; rw [hg]; simp only [Option.getD_none, Option.isSome_none])
  refine hr.mono ?_
  rintro e w1 ⟨rfl, rfl⟩
  go_wp2_with fail
  go_ret2
  exact ⟨rfl, rfl⟩

set_option maxRecDepth 100000 in
set_option maxHeartbeats 400000 in
theorem cbegin_any {c p x : Nat} {cm : CacheM} {R : Assn} {w : World} (h : Bears w (cacheA c p x cm * R)) :
    Calls Try.prog 29 #[.pointer (some ⟨c, 0, none⟩)] w fun e w' => e = .returned (.int .i64 cm.begins.1) ∧ Bears w' (cacheA c p x cm.begins.2 * R) := by
  obtain ⟨hb, pb, ov, hl, pl, Y, hwf, hhm, hpm, h0⟩ := Bears.cache.1 h
  obtain ⟨⟨c0, c1, c2, c3, c4, c5, c6, c7⟩, f⟩ := cache_cells h0
  have f4 := f 4
  cases ho : cm.isOpen with
  | true =>
    have e1 : cm.begins = (30, cm) := by simp [CacheM.begins, ho]
    rw [e1]
    rw [ho] at c4
    clear ho e1
    go_enter Try.func29, Try.ntmps29
    go_wp2_with fail
    go_ret
    exact ⟨rfl, h⟩
  | false =>
    have e1 : cm.begins = (0, { cm with isOpen := true }) := by simp [CacheM.begins, ho]
    rw [e1]
    rw [ho] at c4
    have h2 := h0.setCell (i := 4) (.bool true)
    have Ho := Lib.hid ho
    clear ho e1
    go_enter Try.func29, Try.ntmps29
    go_wp2_with fail
    go_ret
    refine ⟨rfl, Bears.cache.2 ⟨hb, pb, ov, hl, pl, Y, ⟨hwf.nodup, hwf.bytes, hwf.most, hwf.misses, fun h => (by cases h), hwf.place⟩, hhm, hpm, ?_⟩⟩
    exact h2.cast (by simp [cacheObj])

set_option maxRecDepth 100000 in
set_option maxHeartbeats 400000 in
theorem cpinned_any {c p x : Nat} {cm : CacheM} {R : Assn} {w : World} (h : Bears w (cacheA c p x cm * R)) :
    Calls Try.prog 37 #[.pointer (some ⟨c, 0, none⟩)] w fun e w' => e = .returned (.int .i64 (cm.lines.filter (·.pin)).length) ∧ w = w' := by
  obtain ⟨hb, pb, ov, hl, pl, Y, hwf, hhm, hpm, h0⟩ := Bears.cache.1 h
  obtain ⟨⟨c0, c1, c2, c3, c4, c5, c6, c7⟩, f⟩ := cache_cells h0
  rw [← hpm.count]
  have h2 := h0.pull3
  go_enter Try.func37, Try.ntmps37
  go_wp2_with (refine wpList_lenMap_bears h2 rfl rfl u_pins rfl ?_)
  go_ret
  exact ⟨rfl, rfl⟩

set_option maxRecDepth 100000 in
set_option maxHeartbeats 400000 in
theorem cheld_any {c p x : Nat} {cm : CacheM} {R : Assn} {w : World} (h : Bears w (cacheA c p x cm * R)) (hlen : cm.lines.length < 1099511627776) :
    Calls Try.prog 36 #[.pointer (some ⟨c, 0, none⟩)] w fun e w' => ∃ v, e = .returned v ∧ Bears w' (rowA 3 1 v cm.lines.length (intsV (cm.lines.map (·.at'))) * (cacheA c p x cm * R)) := by
  obtain ⟨hb, pb, ov, hl, pl, Y, hwf, hhm, hpm, h0⟩ := Bears.cache.1 h
  obtain ⟨⟨c0, c1, c2, c3, c4, c5, c6, c7⟩, f⟩ := cache_cells h0
  have h2 := h0.pull4
  rw [orderV_eq] at h2
  obtain ⟨a, cap, rfl, _⟩ := h2.rowForm
  go_enter Try.func36, Try.ntmps36
  go_wp2_with fail
  refine (iclone_any h2 hlen).mono ?_
  rintro e w1 ⟨v', rfl, h3⟩
  obtain ⟨a2, cap2, rfl, _⟩ := h3.rowForm
  go_wp2_with fail
  go_ret
  refine ⟨_, rfl, Bears.pull2 (Bears.cache.2 ⟨hb, pb, .slice a cm.lines.length cap, hl, pl, Y, hwf, hhm, hpm, ?_⟩)⟩
  rw [orderV_eq]
  exact h3.cast (by ac_rfl)

end Go.Proofs.Ytaiobekochhemaa
