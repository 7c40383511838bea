/- Walks of the cache's functions, part 13: Commit; no condition. -/
import Derived.Test.YtaiobekochhemaaCacheW12
namespace Go.Proofs.Ytaiobekochhemaa
open Go.RowKit Go.MapKept

/-- The puts of a commit: a line each that is pinned, in whatever order. -/
structure PutsOf (l : List PutM) (ls : List LineM) : Prop where
  perm : (l.map (·.sector)).Perm ((ls.filter (·.pin)).map (·.at'))
  bytes : ∀ q ∈ l, ∃ y ∈ ls, y.pin = true ∧ y.at' = q.sector ∧ y.b = q.bytes
def unpinL (ls : List LineM) : List LineM := ls.map fun y => { y with pin := false }
def CacheM.commits (c : CacheM) : CacheM := { c with isOpen := false, lines := trimL c.most (unpinL c.lines).length (unpinL c.lines) }

theorem unpinL_at (ls : List LineM) : (unpinL ls).map (·.at') = ls.map (·.at') := by simp [unpinL, Function.comp_def]
theorem unpinL_order (ls : List LineM) : orderV (unpinL ls) = orderV ls := by simp [unpinL, orderV, Function.comp_def]
theorem unpinL_length (ls : List LineM) : (unpinL ls).length = ls.length := by simp [unpinL]
theorem findL_unpin (i : Int) : ∀ (ls : List LineM), findL i (unpinL ls) = (findL i ls).map fun y => { y with pin := false }
  | [] => rfl
  | y :: r => by
    have ih := findL_unpin i r
    unfold unpinL at ih ⊢
    simp only [List.map_cons, findL]
    by_cases h : y.at' = i
    · rw [if_pos h, if_pos h]; rfl
    · rw [if_neg h, if_neg h, ih]
theorem HasMap.unpin {Y : Assn} {hl : List (Int × Value)} {ls : List LineM} (h : HasMap Y hl ls) : HasMap Y hl (unpinL ls) := by
  refine ⟨fun i hi => ?_, fun i x hi => ?_⟩
  · rw [findL_unpin] at hi
    exact h.no i (by simpa using hi)
  · rw [findL_unpin] at hi
    cases hf : findL i ls with
    | none => rw [hf] at hi; cases hi
    | some y =>
      rw [hf] at hi
      simp only [Option.map_some, Option.some.injEq] at hi
      subst hi
      exact h.yes i y hf
theorem PinMap.unpin (ls : List LineM) : PinMap [] (unpinL ls) := by
  refine ⟨fun i => ?_, ?_⟩
  · rw [findL_unpin]
    cases findL i ls <;> rfl
  · have : (unpinL ls).filter (·.pin) = [] := by
      rw [List.filter_eq_nil_iff]
      intro y hy
      obtain ⟨z, _, rfl⟩ := List.mem_map.1 hy
      simp
    rw [this]
    rfl
theorem CacheM.WF.commits {c : CacheM} (h : c.WF) : c.commits.WF := by
  refine ⟨((trimL_sub _ _ _).map _).nodup (by rw [unpinL_at]; exact h.nodup), fun x hx => ?_, h.most, h.misses, fun _ x hx => ?_, fun x hx hp => ?_⟩
  · obtain ⟨z, hz, rfl⟩ := List.mem_map.1 ((trimL_sub _ _ _).subset hx)
    exact h.bytes z hz
  · obtain ⟨z, hz, rfl⟩ := List.mem_map.1 ((trimL_sub _ _ _).subset hx)
    rfl
  · obtain ⟨z, hz, rfl⟩ := List.mem_map.1 ((trimL_sub _ _ _).subset hx)
    cases hp

theorem PinMap.keys {pl : List (Int × Value)} {ls : List LineM} (h : PinMap pl ls) (hn : (ls.map (·.at')).Nodup) (hk : (pl.map Prod.fst).Nodup) : (pl.map Prod.fst).Perm ((ls.filter (·.pin)).map (·.at')) := by
  refine (List.perm_ext_iff_of_nodup hk ((List.filter_sublist.map _).nodup hn)).2 fun i => ?_
  have h1 := h.has i
  constructor
  · intro hi
    have : getL i pl ≠ none := fun e => getL_none.1 e hi
    cases hf : findL i ls with
    | none =>
      rw [hf] at h1
      cases hg : getL i pl with
      | none => exact absurd hg this
      | some v => rw [hg] at h1; cases h1
    | some y =>
      rw [hf] at h1
      obtain ⟨hy, rfl⟩ := findL_mem hf
      refine List.mem_map.2 ⟨y, List.mem_filter.2 ⟨hy, ?_⟩, rfl⟩
      have h2 : (getL y.at' pl).isSome = y.pin := h1
      rw [← h2]
      cases hg : getL y.at' pl with
      | none => exact absurd hg this
      | some v => rfl
  · intro hi
    obtain ⟨y, hy, rfl⟩ := List.mem_map.1 hi
    obtain ⟨hy, hp⟩ := List.mem_filter.1 hy
    have h2 := h.each hn y hy
    rw [hp] at h2
    by_cases hm : y.at' ∈ pl.map Prod.fst
    · exact hm
    · rw [getL_none.2 hm] at h2
      cases h2

set_option maxRecDepth 100000 in
set_option maxHeartbeats 2000000 in
theorem ccommit_open {c p x a s : Nat} {g : Int} {cm : CacheM} {d : DiskM} {R : Assn} {w : World} (h : Bears w (cacheA c p x cm * (walObj x p a s g * (diskA p d * R)))) (ho : cm.isOpen = true) (ha : a ≤ 100000) (hs : s ≤ 100000)
    (hroom : d.waits.length + 400000 < 1099511627776) (hlen : cm.lines.length < 1099511627775) :
    Calls Try.prog 31 #[.pointer (some ⟨c, 0, none⟩)] w fun e w' => ∃ l r g' d', PutsOf l cm.lines ∧ wCommit d a s g l = (r, g', d') ∧ e = .returned (.int .i64 r) ∧
      Bears w' (cacheA c p x (if r = 0 then cm.commits else cm) * (walObj x p a s g' * (diskA p d' * R))) := by
  obtain ⟨hb, pb, ov, hl, pl, Y, hwf, hhm, hpm, h0⟩ := Bears.cache.1 h
  obtain ⟨⟨c0, c1, c2, c3, c4, c5, c6, c7⟩, _⟩ := cache_cells h0
  rw [ho] at c4
  have hkeys := Lib.hid (hpm.keys hwf.nodup h0.pull3.mapNodup)
  have hpl : pl.length < 1099511627776 := by
    have := hpm.count
    have := List.length_filter_le (fun y : LineM => y.pin) cm.lines
    omega
  have hso := sorted_any h0.pull3 (fun k v hk => by
    have hm := hkeys.out.mem_iff.1 (List.mem_map.2 ⟨(k, v), mem_of_getL hk, rfl⟩)
    obtain ⟨y, hy, rfl⟩ := List.mem_map.1 hm
    obtain ⟨hy, hp⟩ := List.mem_filter.1 hy
    have := hwf.place y hy hp
    omega) hpl
  have hz : ∀ w, (zeroValue 43).run Try.prog w = .ok (.slice none 0 0) w := fun _ => by kernel_rfl
  have Hwf := Lib.hid hwf
  have Hpm := Lib.hid hpm
  have Hhm := Lib.hid hhm
  have Ho := Lib.hid ho
  have Hlen := Lib.hid hlen
  have Hroom := Lib.hid hroom
  clear hwf hpm hhm ho h hlen hroom
  go_enter Try.func31, Try.ntmps31
  go_wp2_with fail
  refine (keys_any _ w).mono ?_
  rintro e w1 ⟨rfl, rfl⟩
  go_wp2_with fail
  refine hso.mono ?_
  rintro e w2 ⟨v, ks, rfl, hperm, h1⟩
  obtain ⟨ra, rc, rfl, _⟩ := h1.rowForm
  have hkl : ks.length < 1099511627776 := by rw [hperm.length_eq, List.length_map]; exact hpl
  have Hperm := Lib.hid (hperm.trans hkeys.out)
  have hnil := (Bears.nilRow (e := 121) (size := 2)).2 h1
  clear hso hkeys hperm h1 h0 c0 c1 c2 c3 c4 c5 c6 c7
  have h2 : Bears w2 (rowA 121 2 (.slice none 0 0) 0 (putCells []) * (rowA 3 1 (.slice ra ks.length rc) ks.length (intsV ks) * (cacheObj c p x cm hb pb ov * (mapA hb hl * (mapA pb pl *
      (rowA 3 1 ov cm.lines.length (orderV cm.lines) * (Y * (walObj x p a s g * (diskA p d * R))))))))) := hnil.cast (by simp only [putCells, List.flatMap_nil]; ac_rfl)
  clear hnil
  obtain ⟨nk, hnk⟩ : ∃ nk, ks.length = nk := ⟨_, rfl⟩
  have Hnk := Lib.hid hnk
  rw [hnk] at hkl
  rw [hnk] at h2
  rw [hnk]
  clear hnk
  go_upto_block 0 with (fail)
  go_cut [3] (fun gv wr => ∃ L : List PutM, L.length = nk ∧ L.map (·.sector) = ks ∧ (∀ q ∈ L, ∃ y ∈ cm.lines, y.pin = true ∧ y.at' = q.sector ∧ y.b = q.bytes ∧ Y.Tells (fun w => BytesIn w q.val q.bytes)) ∧
      Bears wr (rowA 121 2 gv nk (putCells L) * (cacheObj c p x cm hb pb ov * (mapA hb hl * (mapA pb pl * (rowA 3 1 ov cm.lines.length (orderV cm.lines) * (Y * (walObj x p a s g * (diskA p d * R)))))))))
  case first =>
    go_wp2_with fail
    go_loopw [3, 19] (fun gv i wr => ∃ k : Nat, k ≤ nk ∧ i = .int .i64 k ∧ ∃ L : List PutM, L.length = k ∧ L.map (·.sector) = ks.take k ∧ (∀ q ∈ L, ∃ y ∈ cm.lines, y.pin = true ∧ y.at' = q.sector ∧ y.b = q.bytes ∧ Y.Tells (fun w => BytesIn w q.val q.bytes)) ∧
      Bears wr (rowA 121 2 gv k (putCells L) * (rowA 3 1 (.slice ra nk rc) nk (intsV ks) * (cacheObj c p x cm hb pb ov * (mapA hb hl * (mapA pb pl * (rowA 3 1 ov cm.lines.length (orderV cm.lines) * (Y * (walObj x p a s g * (diskA p d * R)))))))))) (fun _ i _ => nk - (intOf i).toNat)
    case atStart => exact ⟨0, by omega, rfl, [], rfl, by simp, by simp, h2⟩
    case round =>
      obtain ⟨k, hk, rfl, L, hL, hLs, hLb, h3⟩ := hrel
      obtain ⟨ga, gc, rfl, _⟩ := h3.rowForm
      by_cases hlt : k < nk
      · obtain ⟨rg, rfl, hcell⟩ := h3.pull2.rowObjN Hnk.out.symm hlt
        have hcol := cache_cells h3.pull3
        obtain ⟨⟨c0, c1, c2, c3, c4, c5, c6, c7⟩, _⟩ := hcol
        obtain ⟨i, hi⟩ : ∃ i, ks.getD k 0 = i := ⟨_, rfl⟩
        rw [hi] at hcell
        have hmem : i ∈ ks := by rw [← hi]; rw [List.getD_eq_getElem?_getD, List.getElem?_eq_getElem (by rw [Hnk.out]; exact hlt)]; simp
        have hsucc : ks.take (k + 1) = ks.take k ++ [i] := by
          rw [← hi, List.take_succ_eq_append_getElem (by rw [Hnk.out]; exact hlt)]
          simp [Hnk.out, hlt]
        obtain ⟨y, hy, hyi⟩ := List.mem_map.1 (Hperm.out.mem_iff.1 hmem)
        obtain ⟨hy, hyp⟩ := List.mem_filter.1 hy
        obtain ⟨ad, cap, hg, hY⟩ := Hhm.out.yes _ _ (findL_of_mem Hwf.out.nodup hy)
        rw [hyi] at hg
        have h4 := (h3.alloc (.cells #[.int .i64 i, .slice ad y.b.length cap] 121)).pull2
        have hnews := World.news_of_block (cs := #[.int .i64 i, .slice ad y.b.length cap]) h4.pull2.obj
        have hh := h3.pull4
        have HY := Lib.hid hY
        have Hyi := Lib.hid hyi
        have Hs := Lib.hid hsucc
        have Hy := Lib.hid hy
        have Hyp := Lib.hid hyp
        have HLb := Lib.hid hLb
        have HLs := Lib.hid hLs
        have HL := Lib.hid hL
        clear hY hyi hsucc hy hyp hi hmem hLb hLs hL
        obtain ⟨i0, hi0, hz0, hz1, hz2⟩ := info_parts i_put
        go_wp2_with (first
          | (refine wpList_lookup_bears hh rfl rfl u_has u_int (hz _) rfl rfl ?_; rw [hg]; simp only [Option.getD_some])
          | (at_builtin; refine wpList_append_bears h4 rfl rfl u_puts hi0 hz0 hz1 hz2 (by simp [Value.cells]) (by decide) rfl (m := 1) rfl rfl hnews (by intro u hu; simp at hu; rcases hu with rfl | rfl <;> rfl) (by unfold maxLen; omega) (by omega) ?_; intro a' c' w14 h14))
        go_roundw
        case rel =>
          refine ⟨k + 1, hlt, by go_num, L ++ [⟨i, y.b, ad, cap⟩], by simp [HL.out], ?_, ?_, ?_⟩
          · rw [List.map_append, HLs.out, Hs.out]
            rfl
          · intro q hq
            rcases List.mem_append.1 hq with hq | hq
            · exact HLb.out q hq
            · rw [List.mem_singleton] at hq
              subst hq
              exact ⟨y, Hy.out, Hyp.out, Hyi.out, rfl, HY.out⟩
          · rw [putCells_snoc]
            exact h14.pull2.right
        case measure => simp [intOf]; omega
      · obtain rfl : k = nk := by omega
        go_wp2_with fail
        go_meet
        case rel => exact ⟨L, hL, by rw [hLs, ← Hnk.out, List.take_length], hLb, h3.pull2.right⟩
  case rest =>
    obtain ⟨L, hL, hLs, hLb, h3⟩ := hcut
    obtain ⟨ga, gc, rfl, _⟩ := h3.rowForm
    obtain ⟨⟨c0, c1, c2, c3, c4, c5, c6, c7⟩, _⟩ := cache_cells h3.pull2
    have h4 : Bears _ (walObj x p a s g * (diskA p d * (rowA 121 2 (.slice ga nk gc) nk (putCells L) * (Y * (cacheObj c p x cm hb pb ov * (mapA hb hl * (mapA pb pl * (rowA 3 1 ov cm.lines.length (orderV cm.lines) * R)))))))) := h3.cast (by ac_rfl)
    obtain ⟨r, g', d', hcm⟩ : ∃ r g' d', wCommit d a s g L = (r, g', d') := ⟨_, _, _, rfl⟩
    have hwc := commit_to (n := nk) (ad := ga) (cap := gc) h4 hcm (fun w' hw' => PutsIn.row hw' hL.symm (fun q hq => by obtain ⟨_, _, _, _, _, hY⟩ := hLb q hq; exact hY.left)) (by omega) ha hs Hroom.out
    have Hcm := Lib.hid hcm
    have HP : PutsOf L cm.lines := ⟨by rw [hLs]; exact Hperm.out, fun q hq => by obtain ⟨y, h1, h2, h3, h4, _⟩ := hLb q hq; exact ⟨y, h1, h2, h3, h4⟩⟩
    clear hcm h2
    go_wp2_with fail
    refine hwc.mono ?_
    rintro e w3 ⟨rfl, h5⟩
    have h6 : Bears w3 (cacheObj c p x cm hb pb ov * (mapA hb hl * (mapA pb pl * (rowA 3 1 ov cm.lines.length (orderV cm.lines) * (Y * (walObj x p a s g' * (diskA p d' * R))))))) := (h5.pull3.right).cast (by ac_rfl)
    by_cases hr : r = 0
    · subst hr
      obtain ⟨⟨_, _, _, _, _, _, k6, _⟩, kf⟩ := cache_cells h6
      have kf4 := kf 4
      have h7 := h6.setCell (i := 4) (.bool false)
      have k6' := cell_of_obj h7.obj 6
      simp only [List.setIfInBounds_toArray, List.set_cons_zero, List.set_cons_succ, List.getElem?_toArray, List.getElem?_cons_zero, List.getElem?_cons_succ] at k6' h7
      have ht := fun w8 (h8 : Bears w8 (cacheObj c p x { cm with isOpen := false } hb pb ov * (mapA hb hl * (mapA pb [] * (rowA 3 1 ov cm.lines.length (orderV (unpinL cm.lines)) * (Y * (walObj x p a s g' * (diskA p d' * R)))))))) =>
        trim_any (cm := { cm with isOpen := false }) (ls := unpinL cm.lines) (n := cm.lines.length) (unpinL_length _).symm (by rw [unpinL_at]; exact Hwf.out.nodup) (PinMap.unpin _) Hwf.out.most h8
      clear hwc h4 h5 h3
      go_wp2_with (refine wpList_clear_bears h7.pull3 rfl rfl u_pins rfl ?_; intro w7 h8)
      refine (ht w7 (by rw [unpinL_order]; exact h8.push3)).mono ?_
      rintro e w9 ⟨rfl, ov2, hl2, hm2, hp2, h9⟩
      go_wp2_with fail
      go_ret
      refine ⟨L, 0, g', d', HP, Hcm.out, rfl, ?_⟩
      rw [if_pos rfl]
      exact Bears.cache.2 ⟨hb, pb, ov2, hl2, [], Y, Hwf.out.commits, hm2 Y Hhm.out.unpin, hp2, h9⟩
    · have hne : (r == 0) = false := by rw [beq_eq_false_iff_ne]; exact hr
      have Hr := Lib.hid hr
      clear hr
      go_wp2_with fail
      go_ret
      refine ⟨L, r, g', d', HP, Hcm.out, rfl, ?_⟩
      rw [if_neg Hr.out]
      exact Bears.cache.2 ⟨hb, pb, ov, hl, pl, Y, Hwf.out, Hhm.out, Hpm.out, h6⟩

set_option maxRecDepth 100000 in
set_option maxHeartbeats 400000 in
theorem ccommit_closed {c p x : Nat} {cm : CacheM} {R : Assn} {w : World} (h : Bears w (cacheA c p x cm * R)) (ho : cm.isOpen = false) :
    Calls Try.prog 31 #[.pointer (some ⟨c, 0, none⟩)] w fun e w' => e = .returned (.int .i64 30) ∧ w = w' := by
  obtain ⟨hb, pb, ov, hl, pl, Y, hwf, hhm, hpm, h0⟩ := Bears.cache.1 h
  obtain ⟨⟨c0, c1, c2, c3, c4, c5, c6, c7⟩, _⟩ := cache_cells h0
  rw [ho] at c4
  clear ho hwf hhm hpm
  go_enter Try.func31, Try.ntmps31
  go_wp2_with fail
  go_ret
  exact ⟨rfl, rfl⟩

end Go.Proofs.Ytaiobekochhemaa
