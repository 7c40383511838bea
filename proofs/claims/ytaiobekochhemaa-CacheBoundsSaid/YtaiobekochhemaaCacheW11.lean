/- Walks of the cache's functions, part 11: Write, Abort; no condition. -/
import Derived.Test.YtaiobekochhemaaCacheW10
import Derived.Test.YtaiobekochhemaaMaps3
namespace Go.Proofs.Ytaiobekochhemaa
open Go.RowKit Go.MapKept

def CacheM.write (c : CacheM) (len : Nat) (i : Int) (b : Sec) : Int × CacheM :=
  if c.isOpen = false then (30, c) else if i < 0 ∨ (len : Int) ≤ i then (10, c) else if b.length ≠ 64 then (11, c) else (0, { c with lines := useL ⟨i, b, true⟩ c.lines })
def CacheM.abort (c : CacheM) : Int × CacheM :=
  if c.isOpen = false then (30, c) else (0, { c with isOpen := false, lines := c.lines.filter fun y => !y.pin })

theorem putL_length {α : Type} {k : Int} {v : α} : ∀ {l : List (Int × α)}, (putL k v l).length = l.length + (!(getL k l).isSome).toNat
  | [] => rfl
  | p :: l => by
    by_cases h : p.1 = k
    · have e1 : getL k (p :: l) = some p.2 := by simp [getL, h]
      rw [e1]
      simp [putL, h]
    · have e1 : getL k (p :: l) = getL k l := by simp [getL, h]
      have e2 : putL k v (p :: l) = p :: putL k v l := by simp [putL, h]
      rw [e1, e2, List.length_cons, putL_length (l := l), List.length_cons]
      omega
theorem filter_forgetL' {z : Int} : ∀ {ls : List LineM}, (ls.map (·.at')).Nodup → ((forgetL z ls).filter (·.pin)).length + (pinOf z ls).toNat = (ls.filter (·.pin)).length
  | [], _ => rfl
  | y :: r, hn => by
    simp only [List.map_cons, List.nodup_cons] at hn
    by_cases e : y.at' = z
    · have e1 : pinOf z (y :: r) = y.pin := by simp [pinOf, findL, e]
      have e2 : forgetL z (y :: r) = r := by simp [forgetL, e]
      rw [e1, e2]
      simp only [List.filter_cons]
      cases y.pin <;> simp
    · have e1 : pinOf z (y :: r) = pinOf z r := by simp [pinOf, findL, e]
      have e2 : forgetL z (y :: r) = y :: forgetL z r := by simp [forgetL, e]
      have ih := filter_forgetL' (z := z) (ls := r) hn.2
      rw [e1, e2]
      simp only [List.filter_cons]
      cases y.pin
      · simpa using ih
      · simp only [if_true, List.length_cons]
        omega
theorem PinMap.pin {pl : List (Int × Value)} {ls : List LineM} (h : PinMap pl ls) (hn : (ls.map (·.at')).Nodup) {y : LineM} (hy : y.pin = true) (v : Value) : PinMap (putL y.at' v pl) (useL y ls) := by
  refine ⟨fun i => ?_, ?_⟩
  · rw [getL_putL, findL_useL hn]
    by_cases e : i = y.at'
    · rw [if_pos e, if_pos e]
      simp [hy]
    · rw [if_neg e, if_neg e]
      exact h.has i
  · rw [putL_length, h.count, h.has]
    unfold useL
    rw [List.filter_append, List.length_append]
    have h2 := filter_forgetL' (z := y.at') hn
    change (ls.filter (·.pin)).length + (!pinOf y.at' ls).toNat = _
    simp only [List.filter_cons, hy, if_true, List.filter_nil, List.length_cons, List.length_nil]
    cases hp : pinOf y.at' ls
    · rw [hp] at h2
      simp at h2 ⊢
      omega
    · rw [hp] at h2
      simp at h2 ⊢
      omega

theorem forgetL_filter {z : Int} : ∀ {ls : List LineM}, (ls.map (·.at')).Nodup → forgetL z ls = ls.filter fun y => !(y.at' == z)
  | [], _ => rfl
  | y :: r, hn => by
    simp only [List.map_cons, List.nodup_cons] at hn
    simp only [forgetL, List.filter_cons]
    by_cases e : y.at' = z
    · rw [if_pos e]
      simp only [e, beq_self_eq_true, Bool.not_true, Bool.false_eq_true, if_false]
      symm
      rw [List.filter_eq_self]
      intro x hx
      have : x.at' ≠ z := fun e2 => hn.1 (by rw [e, ← e2]; exact List.mem_map.2 ⟨x, hx, rfl⟩)
      simp [this]
    · rw [if_neg e, forgetL_filter hn.2]
      simp [e]
/-- The lines of which none stands in a row of numbers. -/
def leftL (done : List Int) (ls : List LineM) : List LineM := ls.filter fun y => !done.contains y.at'
theorem leftL_nil (ls : List LineM) : leftL [] ls = ls := by
  unfold leftL
  rw [List.filter_eq_self]
  intro y _
  simp
theorem leftL_cons {k : Int} {done : List Int} {ls : List LineM} (hn : (ls.map (·.at')).Nodup) : forgetL k (leftL done ls) = leftL (k :: done) ls := by
  have h2 : ((leftL done ls).map (·.at')).Nodup := (List.filter_sublist.map _).nodup hn
  rw [forgetL_filter h2]
  unfold leftL
  rw [List.filter_filter]
  congr 1
  funext y
  simp only [List.contains_cons]
  cases y.at' == k <;> cases done.contains y.at' <;> rfl
theorem leftL_nodup {done : List Int} {ls : List LineM} (hn : (ls.map (·.at')).Nodup) : ((leftL done ls).map (·.at')).Nodup := (List.filter_sublist.map _).nodup hn

set_option maxRecDepth 100000 in
set_option maxHeartbeats 1000000 in
theorem cwrite_any {c p x : Nat} {cm : CacheM} {d : DiskM} {R : Assn} {w : World} {i : Int} {b : Sec} {ad : Option Addr} {n cap : Nat} (h : Bears w (cacheA c p x cm * (diskA p d * R))) (hb : R.Tells (fun w => BytesIn w (.slice ad n cap) b)) (hlen : cm.lines.length < 1099511627775) :
    Calls Try.prog 28 #[.pointer (some ⟨c, 0, none⟩), .int .i64 i, .slice ad n cap] w fun e w' => e = .returned (.int .i64 (cm.write d.len i b).1) ∧ Bears w' (cacheA c p x (cm.write d.len i b).2 * (diskA p d * R)) := by
  have hdl := h.pull2.diskWF.len
  obtain rfl : n = b.length := (hb _ h.right.right).len
  obtain ⟨hbk, pb, ov, hl, pl, Y, hwf, hhm, hpm, h0⟩ := Bears.cache.1 h
  obtain ⟨⟨c0, c1, c2, c3, c4, c5, c6, c7⟩, _⟩ := cache_cells h0
  have hlen1 := len_any (h.pull2)
  have hl63 : (d.len : Int) ≤ 9223372036854775807 := by omega
  generalize hdn : d.len = dn at hlen1 hdl hl63
  have Hdn := Lib.hid hdn
  clear hdn
  cases ho : cm.isOpen with
  | false =>
    have e1 : cm.write dn i b = (30, cm) := by simp [CacheM.write, ho]
    rw [e1]
    rw [ho] at c4
    clear ho e1 hpm hhm hwf
    go_enter Try.func28, Try.ntmps28
    go_wp2_with fail
    go_ret
    exact ⟨rfl, h⟩
  | true =>
    rw [ho] at c4
    have Ho := Lib.hid ho
    clear ho
    have Hwf := Lib.hid hwf
    have Hpm := Lib.hid hpm
    have Hhm := Lib.hid hhm
    clear hwf hpm hhm
    by_cases h1 : i < 0
    · have e1 : cm.write dn i b = (10, cm) := by simp [CacheM.write, Ho.out, h1]
      rw [e1]
      have hd1 : decide (i < 0) = true := decide_eq_true h1
      clear e1
      go_enter Try.func28, Try.ntmps28
      go_wp2_with fail
      go_ret
      exact ⟨rfl, h⟩
    · have hd1 : decide (i < 0) = false := decide_eq_false h1
      by_cases h2 : (dn : Int) ≤ i
      · have e1 : cm.write dn i b = (10, cm) := by simp [CacheM.write, Ho.out, h2]
        rw [e1]
        have hd2 : decide (i ≥ (dn : Int)) = true := decide_eq_true h2
        clear e1
        go_enter Try.func28, Try.ntmps28
        go_wp2_with (refine hlen1.mono ?_; rintro e w1 ⟨rfl, rfl⟩)
        go_ret
        exact ⟨rfl, h⟩
      · have hd2 : decide (i ≥ (dn : Int)) = false := decide_eq_false h2
        by_cases h3 : b.length = 64
        · have e1 : cm.write dn i b = (0, { cm with lines := useL ⟨i, b, true⟩ cm.lines }) := by simp [CacheM.write, Ho.out, h1, h2, h3]
          rw [e1]
          have Hb := Lib.hid h3
          rw [h3] at hb ⊢
          clear e1 h3
          have hbc := bclone_any h (fun w hw => hb w hw.right.right) (ne_nil_of_64 Hb.out) (by rw [Hb.out]; decide)
          go_enter Try.func28, Try.ntmps28
          go_wp2_with (refine hlen1.mono ?_; rintro e w1 ⟨rfl, rfl⟩)
          refine hbc.mono ?_
          rintro e w2 ⟨ad', cap', rfl, h4⟩
          obtain ⟨hbk, pb, ov, hl, pl, Y, hwf, hhm, hpm, h5⟩ := Bears.cache.1 h4.pull2
          have hu := use_any (n := cm.lines.length) rfl (by omega) h5.c34 ⟨i, b, true⟩ (.slice ad' b.length cap')
          have h5k := h5.pull2.mapNodup
          rw [Hb.out] at hu
          go_wp2_with fail
          refine hu.mono ?_
          rintro e w3 ⟨rfl, ov1, h6⟩
          go_wp2_with fail
          obtain ⟨a1, cap1, rfl, _⟩ := h6.pull3.rowForm
          have h7 := h6.drew
          obtain ⟨⟨_, _, _, _, _, _, k6, k7⟩, _⟩ := cache_cells h7
          refine wp_region_tail 10 (by kernel_rfl) (by kernel_rfl) ?_
          simp only [List.take_succ_cons, List.take_zero, List.drop_succ_cons, List.drop_zero]
          iterate 10 still_step
          refine wpStill_nil ?_
          refine wpList_mapUpdate_bears (val := .int .i64 (useL ⟨i, b, true⟩ cm.lines).length) h7.pull4 rfl rfl u_pins u_int rfl rfl (by go_simp; try rfl) ?_
          intro w4 h8
          go_wp2_with fail
          go_ret
          refine ⟨rfl, Bears.cache.2 ⟨hbk, pb, .slice a1 (useL ⟨i, b, true⟩ cm.lines).length cap1, _, _, _, ⟨useL_nodup Hwf.out.nodup, fun y hy => ?_, Hwf.out.most, Hwf.out.misses, fun ho => ?_, fun y hy hp => ?_⟩, ((hhm.more (Z := rowA 5 1 (.slice ad' 64 cap') 64 (cellsV b))).use hwf.nodup h5k (y := ⟨i, b, true⟩) (ad := ad') (cap := cap') ?_), hpm.pin hwf.nodup (y := ⟨i, b, true⟩) rfl (.int .i64 (useL ⟨i, b, true⟩ cm.lines).length), ?_⟩⟩
          · rcases mem_useL hy with rfl | hy
            · exact Hb.out
            · exact Hwf.out.bytes y hy
          · simp only at ho
            rw [Ho.out] at ho
            cases ho
          · rcases mem_useL hy with rfl | hy
            · exact ⟨by simp only; omega, by simp only; omega⟩
            · exact Hwf.out.place y hy hp
          · rw [Hb.out]
            exact rowA_bytes Hb.out.symm
          · rw [Hb.out]
            exact h8.cast (by ac_rfl)
        · have e1 : cm.write dn i b = (11, cm) := by simp [CacheM.write, Ho.out, h1, h2, h3]
          rw [e1]
          have hn3 : ((b.length : Int) != 64) = true := by rw [bne_iff_ne]; omega
          have hbl : (b.length : Int) ≤ 9223372036854775807 ∨ True := .inr trivial
          clear e1
          go_enter Try.func28, Try.ntmps28
          go_wp2_with (refine hlen1.mono ?_; rintro e w1 ⟨rfl, rfl⟩)
          go_ret
          exact ⟨rfl, h⟩

set_option maxRecDepth 100000 in
set_option maxHeartbeats 1000000 in
theorem cabort_any {c p x : Nat} {cm : CacheM} {R : Assn} {w : World} (h : Bears w (cacheA c p x cm * R)) :
    Calls Try.prog 33 #[.pointer (some ⟨c, 0, none⟩)] w fun e w' => e = .returned (.int .i64 cm.abort.1) ∧ Bears w' (cacheA c p x cm.abort.2 * R) := by
  obtain ⟨hb, pb, ov, hl, pl, Y, hwf, hhm, hpm, h0⟩ := Bears.cache.1 h
  obtain ⟨⟨c0, c1, c2, c3, c4, c5, c6, c7⟩, _⟩ := cache_cells h0
  cases ho : cm.isOpen with
  | false =>
    have e1 : cm.abort = (30, cm) := by simp [CacheM.abort, ho]
    rw [e1]
    rw [ho] at c4
    clear ho e1 hpm hhm hwf
    go_enter Try.func33, Try.ntmps33
    go_wp2_with fail
    go_ret
    exact ⟨rfl, h⟩
  | true =>
    have e1 : cm.abort = (0, { cm with isOpen := false, lines := cm.lines.filter fun y => !y.pin }) := by simp [CacheM.abort, ho]
    rw [e1]
    rw [ho] at c4
    have Ho := Lib.hid ho
    have Hwf := Lib.hid hwf
    have Hpm := Lib.hid hpm
    have Hhm := Lib.hid hhm
    clear ho hwf hpm hhm e1 h
    go_enter Try.func33, Try.ntmps33
    go_wp2_with (refine wpList_range_bears h0.pull3 rfl rfl u_pins rfl ?_; intro w1 left1 h1)
    generalize w.heap.size = r at h1
    go_wp2_with fail
    simp only [Act.put, List.setIfInBounds_toArray, List.set_cons_zero, List.set_cons_succ]
    go_loopw [] (fun wr => ∃ done left hl' ov', (∀ k ∈ done, (getL k pl).isSome = true) ∧ HasMap Y hl' (leftL done cm.lines) ∧
      Bears wr (rangeA pb r pl done left * (cacheObj c p x cm hb pb ov' * (mapA hb hl' * (rowA 3 1 ov' (leftL done cm.lines).length (orderV (leftL done cm.lines)) * (Y * R)))))) (fun wr => wr.rangeLeft pb r)
    case atStart =>
      refine ⟨[], left1, hl, ov, by simp, ?_, ?_⟩
      · rw [leftL_nil]; exact Hhm.out
      · rw [leftL_nil]; exact h1
    case round =>
      obtain ⟨done, left, hl', ov', hdone, hm', h2⟩ := hrel
      have Hdone := Lib.hid hdone
      have Hm' := Lib.hid hm'
      clear hdone hm'
      have hlf := Lib.hid h2.rangeLeft
      have h2e := h2.rangeEnd
      obtain ⟨⟨_, _, _, _, _, _, k6, _⟩, kf⟩ := cache_cells h2e.pull2
      have kf4 := kf 4
      have h5 := h2e.pull2.setCell (i := 4) (.bool false)
      have k6' := cell_of_obj h5.obj 6
      simp only [List.setIfInBounds_toArray, List.set_cons_zero, List.set_cons_succ, List.getElem?_toArray, List.getElem?_cons_zero, List.getElem?_cons_succ] at k6' h5
      go_wp2_with (first
        | (refine wpList_next_bears h2 rfl rfl rfl (fun hd => ?_) (fun k v w3 left3 hk hn hlt h3 hen => ?_))
        | (refine wpList_clear_bears h5.pull2 rfl rfl u_pins rfl ?_; intro w7 h7))
      · go_ret
        have he : leftL done cm.lines = cm.lines.filter fun y => !y.pin := by
          unfold leftL
          refine List.filter_congr fun y hy => ?_
          have h1 := Hpm.out.each Hwf.out.nodup y hy
          congr 1
          rw [← h1, Bool.eq_iff_iff, List.contains_iff_mem]
          refine ⟨fun hm => Hdone.out _ hm, fun hs => ?_⟩
          obtain ⟨v, hv⟩ := Option.isSome_iff_exists.1 hs
          exact hd _ v hv
        have hm2 := Hm'.out
        rw [he] at hm2 h7
        refine ⟨rfl, Bears.cache.2 ⟨hb, pb, ov', hl', [], Y, ⟨(List.filter_sublist.map _).nodup Hwf.out.nodup, fun y hy => Hwf.out.bytes y (List.mem_filter.1 hy).1, Hwf.out.most, Hwf.out.misses, fun _ y hy => ?_, fun y hy hp => Hwf.out.place y (List.mem_filter.1 hy).1 hp⟩, hm2, ⟨fun i => ?_, ?_⟩, ?_⟩⟩
        · have := (List.mem_filter.1 hy).2
          simpa using this
        · simp only [getL, Option.isSome_none]
          cases hf : findL i (cm.lines.filter fun y => !y.pin) with
          | none => rfl
          | some y =>
            have := (List.mem_filter.1 (findL_mem hf).1).2
            simp only [Bool.not_eq_true'] at this
            simp [this]
        · have : (cm.lines.filter fun y => !y.pin).filter (·.pin) = [] := by
            rw [List.filter_eq_nil_iff]
            intro y hy
            have := (List.mem_filter.1 hy).2
            simpa using this
          simp only [this, List.length_nil]
        · exact h7.cast (by simp only [cacheObj]; ac_rfl)
      · have h8 := h3.push4
        refine (forget_any rfl h8 k).mono ?_
        rintro e w5 ⟨rfl, ov2, h6⟩
        go_wp2_with fail
        go_roundw
        case rel =>
          refine ⟨k :: done, left3, delL k hl', ov2, ?_, ?_, ?_⟩
          · intro j hj
            rcases List.mem_cons.1 hj with rfl | hj
            · rw [hk]; rfl
            · exact Hdone.out j hj
          · rw [← leftL_cons Hwf.out.nodup]
            exact Hm'.out.forget (leftL_nodup Hwf.out.nodup) h8.pull2.mapNodup
          · rw [← leftL_cons Hwf.out.nodup]
            exact h6.cast (by ac_rfl)
        case measure =>
          rw [h6.pull4.rangeLeft, hlf.out]
          exact hlt

end Go.Proofs.Ytaiobekochhemaa
