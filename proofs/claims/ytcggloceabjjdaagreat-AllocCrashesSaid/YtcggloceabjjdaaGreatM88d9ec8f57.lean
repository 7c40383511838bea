/- Texts of this claim, put together: RSW2, Region2, RSW3, RSW4, InoM, InoC, RSM; no condition. -/
import Derived.Test.YtcggloceabjjdaaGreatM5536420ff4
import Derived.Lib.SliceRun

set_option linter.unusedSimpArgs false
set_option linter.unusedVariables false

/- Walks of the document's space, part 2: NextInode, Blocks, bit, check, Inode; no condition. -/
namespace Go.Proofs.YtcggloceabjjdaaGreat
open Go.RowKit Go.MapKept

section
variable {y len : Nat} {Y R : Assn} {S S' : SpM} {w : World}

set_option maxRecDepth 100000 in
set_option maxHeartbeats 800000 in
theorem rsnext_any (h : Bears w (spcA y Y len S * (Y * R))) :
    Calls Tryz.prog 52 #[.pointer (some ⟨y, 0, none⟩)] w fun e w' => ((∃ n : Nat, n < 256 ∧ (∀ m, m < n → ifreeB len S.G m = false) ∧ ifreeB len S.G n = true ∧ e = .returned (.tuple #[.int .i64 n, .int .i64 0])) ∨
      ((∀ m, m < 256 → ifreeB len S.G m = false) ∧ e = .returned (.tuple #[.int .i64 0, .int .i64 42]))) ∧ w = w' := by
  go_enter Tryz.func52, Tryz.ntmps52
  go_wp2_with fail
  go_loopw [4] (fun iv wr => ∃ j : Nat, j ≤ 256 ∧ iv = .int .i64 j ∧ (∀ m, m < j → ifreeB len S.G m = false) ∧ w = wr) (fun iv _ => 256 - (intOf iv).toNat)
  case atStart => exact ⟨0, by omega, rfl, by omega, rfl⟩
  case round =>
    obtain ⟨j, hj, rfl, hno, rfl⟩ := hrel
    have Hno := Lib.hid hno
    clear hno
    by_cases hlt : j < 256
    · have hf := rsfree_any h j hlt
      have hltI : (j : Int) < 256 := by omega
      obtain ⟨fb, hfb⟩ : ∃ fb, ifreeB len S.G j = fb := ⟨_, rfl⟩
      rw [hfb] at hf
      have Hf := Lib.hid hf
      have Hfb := Lib.hid hfb
      clear hf hfb
      go_wp2_with fail
      refine Hf.out.mono ?_
      rintro e w' ⟨rfl, rfl⟩
      cases fb with
      | true =>
        go_wp2_with fail
        go_ret2
        exact ⟨.inl ⟨j, hlt, Hno.out, Hfb.out, rfl⟩, rfl⟩
      | false =>
        go_wp2_with fail
        go_roundw
        case rel =>
          refine ⟨j + 1, hlt, by go_num, fun m hm => ?_, by simp⟩
          by_cases e : m = j
          · subst e; exact Hfb.out
          · exact Hno.out m (by omega)
        case measure => simp [intOf]; omega
    · obtain rfl : j = 256 := by omega
      go_wp2_with fail
      go_ret2
      exact ⟨.inr ⟨Hno.out, rfl⟩, rfl⟩

theorem cntB_zero0 {f : Nat → Bool} {n : Nat} (h : ∀ i, i < n → f i = false) : cntB f n = 0 := by
  rw [cntB_congr n (g := fun _ => false) h]
  exact cntB_zero (fun _ => rfl) n
theorem blk_cnt {G : Nat → Sec} {n : Nat} (hlen : firstB n ≤ n) (hout : ∀ i, i < 512 * mapsN n → (i < firstB n ∨ n ≤ i) → bitN G i = false) : blkN n G = ((n - firstB n : Nat) : Int) - (cntB (fun j => bitN G (firstB n + j)) (n - firstB n) : Int) := by
  unfold blkN
  rw [usedTo_cnt]
  have hm : n ≤ 512 * mapsN n := by unfold mapsN; omega
  have e : 512 * mapsN n = firstB n + ((n - firstB n) + (512 * mapsN n - n)) := by omega
  have h1 : cntB (bitN G) (512 * mapsN n) = cntB (fun j => bitN G (firstB n + j)) (n - firstB n) := by
    rw [e, cntB_add, cntB_add]
    rw [cntB_zero0 (fun i hi => hout i (by omega) (.inl hi)), cntB_zero0 (fun i hi => hout (firstB n + (n - firstB n + i)) (by omega) (.inr (by omega)))]
    omega
  rw [h1]

theorem StOk.nil_at {bs is : List (Value × Sec)} {G : Nat → Sec} (h : StOk Y len bs is G) {k : Nat} (hk : k < bs.length) : (bs.map Prod.fst)[k]? = some (bs.getD k default).1 := by
  rw [List.getElem?_map, List.getD_eq_getElem?_getD, List.getElem?_eq_getElem hk]
  rfl

set_option maxRecDepth 100000 in
set_option maxHeartbeats 800000 in
theorem rsblocks_any (h : Bears w (spcA y Y len S * R)) (hlen : firstB len ≤ len) (hlen2 : len ≤ 8192) :
    Calls Tryz.prog 53 #[.pointer (some ⟨y, 0, none⟩)] w fun e w' => e = .returned (.int .i64 (blkN len S.G)) ∧ w = w' := by
  obtain ⟨was, now, tv, ts, bs, is, bv, iv, _, hok, h1⟩ := Bears.spn.1 h
  obtain ⟨ba, bc, rfl, _⟩ := h1.pull3.rowForm
  obtain ⟨_, _, c2, _, _, _, _⟩ := h1.spcCells
  obtain ⟨d0, _, _⟩ := h1.pull2.stCells
  have hbl := hok.blen
  have hbn : bs.length ≤ 8192 := by omega
  have hcnt := blk_cnt hlen hok.out
  rw [← hbl] at hcnt
  rw [hcnt]
  have Hok := Lib.hid hok
  clear hcnt hok hbl h
  go_enter Tryz.func53, Tryz.ntmps53
  go_wp2_with fail
  go_loopw [3, 4] (fun v iv wr => ∃ (k m : Nat), k ≤ bs.length ∧ m + cntB (fun j => bitN S.G (firstB len + j)) k = k ∧ iv = .int .i64 k ∧ v = .int .i64 m ∧ w = wr) (fun _ iv _ => bs.length - (intOf iv).toNat)
  case atStart => exact ⟨0, 0, by omega, rfl, rfl, rfl, rfl⟩
  case round =>
    obtain ⟨k, m, hk, hm, rfl, rfl, rfl⟩ := hrel
    have hmk : m ≤ k := by omega
    have Hm := Lib.hid hm
    clear hm
    by_cases hlt : k < bs.length
    · have hltI : (k : Int) < (bs.length : Int) := by omega
      obtain ⟨gb, rfl, _⟩ := h1.pull3.rowAt (k := k) hlt
      have hc := h1.pull3.rowCell (i := k) hlt (Hok.out.nil_at hlt)
      have hcs : cntB (fun j => bitN S.G (firstB len + j)) (k + 1) = cntB (fun j => bitN S.G (firstB len + j)) k + (bitN S.G (firstB len + k)).toNat := rfl
      have Hcs := Lib.hid hcs
      clear hcs
      rcases Hok.out.blk k hlt with ⟨b1, b2⟩ | ⟨b1, _, _, a, c, b2⟩
      · rw [b2] at hc
        have hq := fun w => Lib.run_eql_slice_nil (P := Tryz.prog) w 34 _ none 0 0 0 0 u_bytes
        have B1 := Lib.hid b1
        clear b1 b2
        go_wp2_with fail
        go_roundw
        case rel => exact ⟨k + 1, m + 1, hlt, by rw [Hcs.out, B1.out]; have := Hm.out; simp; omega, by go_num, by go_num, by simp⟩
        case measure => simp [intOf]; omega
      · rw [b2] at hc
        have hq := fun w => Lib.run_eql_slice_nil (P := Tryz.prog) w 34 _ (some a) 64 c 0 0 u_bytes
        have B1 := Lib.hid b1
        clear b1 b2
        go_wp2_with fail
        go_roundw
        case rel => exact ⟨k + 1, m, hlt, by rw [Hcs.out, B1.out]; have := Hm.out; simp; omega, by go_num, rfl, by simp⟩
        case measure => simp [intOf]; omega
    · obtain rfl : k = bs.length := by omega
      have hm := Hm.out
      go_wp2_with fail
      go_ret
      have hv : (bs.length : Int) - (cntB (fun j => bitN S.G (firstB len + j)) bs.length : Int) = (m : Int) := by omega
      exact ⟨by rw [hv]; rfl, rfl⟩

theorem rsbit_any (n : Int) (h0 : 0 ≤ n) (h1 : n < 8192) (v : Value) (w : World) :
    Calls Tryz.prog 85 #[v, .int .i64 n] w fun e w' => e = .returned (.int .i64 (621 + n / 512)) ∧ w = w' := by
  have hq : n.tdiv 512 = n / 512 := Int.tdiv_eq_ediv_of_nonneg h0
  have h2 : 0 ≤ n / 512 := Int.ediv_nonneg h0 (by decide)
  have h3 : n / 512 ≤ n := Int.ediv_le_self _ h0
  go_enter Tryz.func85, Tryz.ntmps85
  go_wp2_with fail
  go_ret
  exact ⟨rfl, rfl⟩

set_option maxRecDepth 100000 in
set_option maxHeartbeats 800000 in
theorem rscheck_any (h : Bears w (spcA y Y len S * R)) (hlo : 1024 ≤ len) (hhi : len ≤ 8192) (n : Int) (hn : -9223372036854775808 ≤ n ∧ n ≤ 9223372036854775807) :
    Calls Tryz.prog 63 #[.pointer (some ⟨y, 0, none⟩), .int .i64 n] w fun e w' => e = .returned (.int .i64 (chkN len S.G n)) ∧ Bears w' (spcA y Y len S * R) := by
  obtain ⟨was, now, tv, ts, bs, is, bv, iv, _, hok, h1⟩ := Bears.spn.1 h
  obtain ⟨ba, bc, rfl, _⟩ := h1.pull3.rowForm
  have hfl : firstB len ≤ len := by unfold firstB mapsN; omega
  have hbl := hok.blen
  obtain ⟨f, hf⟩ : ∃ f, firstB len = f := ⟨_, rfl⟩
  obtain ⟨m, hm⟩ : ∃ m, len - f = m := ⟨_, rfl⟩
  rw [hf] at h1 hbl hfl
  rw [hm] at hbl
  rw [hbl] at h1
  obtain ⟨c0, _, c2, _, _, _, _⟩ := h1.drew.spcCells
  obtain ⟨d0, _, _⟩ := h1.drew.pull2.stCells
  have hw1 : IntKind.i64.wrap ((f : Int) + (m : Int)) = (f : Int) + (m : Int) := IntWalk.i64_in _ (by omega)
  have hfm : f + m = len := by omega
  have Hok := Lib.hid hok
  have Hf := Lib.hid hf
  have Hbl := Lib.hid hbl
  have Hfm := Lib.hid hfm
  by_cases h40 : n < (f : Int)
  · have hck : chkN len S.G n = 40 := by unfold chkN; rw [hf, if_pos (.inl h40)]
    rw [hck]
    have hd : decide (n < (f : Int)) = true := decide_eq_true h40
    clear hck hok hf hm hbl hfm
    go_enter Tryz.func63, Tryz.ntmps63
    go_wp2_with fail
    refine wp_region_L (fun w' => w'.cell? ⟨y, 0, none⟩ = some (.int .i64 (f : Int)) ∧ w'.cell? ⟨y, 2, none⟩ = some (.pointer (some ⟨now, 0, none⟩)) ∧ w'.cell? ⟨now, 0, none⟩ = some (.slice ba m bc)) 23 [(true, 0), (true, 1), (true, 2), (true, 3), (true, 4), (true, 5), (true, 6), (true, 7), (true, 8), (true, 9), (true, 10), (true, 11), (true, 12), (true, 13), (true, 14), (true, 15), (true, 16), (true, 17), (true, 18), (true, 19), (true, 20), (true, 21), (true, 22)] [] (by kernel_rfl) (by kernel_rfl) ⟨c0, c2, d0⟩ ?_
    simp only [pick, List.getElem?_cons_zero, List.getElem?_cons_succ]
    refine wpL_yield (v := ?_) rfl (fun w' hS => ?_) ?_
    rotate_left
    · (obtain ⟨s0, s2, sd⟩ := hS; go_simp; try with_reducible rfl)
    simp only [Act.put, List.setIfInBounds_toArray, List.set_cons_zero, List.set_cons_succ]
    refine wpL_yield (v := ?_) rfl (fun w' hS => ?_) ?_
    rotate_left
    · (obtain ⟨s0, s2, sd⟩ := hS; go_simp; try with_reducible rfl)
    simp only [Act.put, List.setIfInBounds_toArray, List.set_cons_zero, List.set_cons_succ]
    refine wpL_yield (v := ?_) rfl (fun w' hS => ?_) ?_
    rotate_left
    · (obtain ⟨s0, s2, sd⟩ := hS; go_simp; try with_reducible rfl)
    simp only [Act.put, List.setIfInBounds_toArray, List.set_cons_zero, List.set_cons_succ]
    refine wpL_yield (v := ?_) rfl (fun w' hS => ?_) ?_
    rotate_left
    · (obtain ⟨s0, s2, sd⟩ := hS; go_simp; try with_reducible rfl)
    simp only [Act.put, List.setIfInBounds_toArray, List.set_cons_zero, List.set_cons_succ]
    refine wpL_yield (v := ?_) rfl (fun w' hS => ?_) ?_
    rotate_left
    · (obtain ⟨s0, s2, sd⟩ := hS; go_simp; try with_reducible rfl)
    simp only [Act.put, List.setIfInBounds_toArray, List.set_cons_zero, List.set_cons_succ]
    refine wpL_yield (v := ?_) rfl (fun w' hS => ?_) ?_
    rotate_left
    · (obtain ⟨s0, s2, sd⟩ := hS; go_simp; try with_reducible rfl)
    simp only [Act.put, List.setIfInBounds_toArray, List.set_cons_zero, List.set_cons_succ]
    refine wpL_yield (v := ?_) rfl (fun w' hS => ?_) ?_
    rotate_left
    · (obtain ⟨s0, s2, sd⟩ := hS; go_simp; try with_reducible rfl)
    simp only [Act.put, List.setIfInBounds_toArray, List.set_cons_zero, List.set_cons_succ]
    refine wpL_skip rfl ?_
    simp only [Act.put, List.setIfInBounds_toArray, List.set_cons_zero, List.set_cons_succ]
    refine wpL_skip rfl ?_
    simp only [Act.put, List.setIfInBounds_toArray, List.set_cons_zero, List.set_cons_succ]
    refine wpL_skip rfl ?_
    simp only [Act.put, List.setIfInBounds_toArray, List.set_cons_zero, List.set_cons_succ]
    refine wpL_skip rfl ?_
    simp only [Act.put, List.setIfInBounds_toArray, List.set_cons_zero, List.set_cons_succ]
    refine wpL_skip rfl ?_
    simp only [Act.put, List.setIfInBounds_toArray, List.set_cons_zero, List.set_cons_succ]
    refine wpL_skip rfl ?_
    simp only [Act.put, List.setIfInBounds_toArray, List.set_cons_zero, List.set_cons_succ]
    refine wpL_skip rfl ?_
    simp only [Act.put, List.setIfInBounds_toArray, List.set_cons_zero, List.set_cons_succ]
    refine wpL_skip rfl ?_
    simp only [Act.put, List.setIfInBounds_toArray, List.set_cons_zero, List.set_cons_succ]
    refine wpL_skip rfl ?_
    simp only [Act.put, List.setIfInBounds_toArray, List.set_cons_zero, List.set_cons_succ]
    refine wpL_skip rfl ?_
    simp only [Act.put, List.setIfInBounds_toArray, List.set_cons_zero, List.set_cons_succ]
    refine wpL_skip rfl ?_
    simp only [Act.put, List.setIfInBounds_toArray, List.set_cons_zero, List.set_cons_succ]
    refine wpL_skip rfl ?_
    simp only [Act.put, List.setIfInBounds_toArray, List.set_cons_zero, List.set_cons_succ]
    refine wpL_skip rfl ?_
    simp only [Act.put, List.setIfInBounds_toArray, List.set_cons_zero, List.set_cons_succ]
    refine wpL_skip rfl ?_
    simp only [Act.put, List.setIfInBounds_toArray, List.set_cons_zero, List.set_cons_succ]
    refine wpL_skip rfl ?_
    simp only [Act.put, List.setIfInBounds_toArray, List.set_cons_zero, List.set_cons_succ]
    refine wpL_yield (v := ?_) rfl (fun w' hS => ?_) ?_
    rotate_left
    · (go_simp; try with_reducible rfl)
    simp only [Act.put, List.setIfInBounds_toArray, List.set_cons_zero, List.set_cons_succ]
    refine wpL_nil ?_
    refine wpL_nil ?_
    go_wp2_with fail
    go_ret
    exact ⟨rfl, h.drew⟩
  by_cases h41 : (len : Int) ≤ n
  · have hck : chkN len S.G n = 40 := by unfold chkN; rw [if_pos (.inr h41)]
    rw [hck]
    have hd : decide (n < (f : Int)) = false := decide_eq_false h40
    have hd2 : (f : Int) + (m : Int) ≤ n := by omega
    clear hck hok hf hm hbl hfm h41
    go_enter Tryz.func63, Tryz.ntmps63
    go_wp2_with fail
    refine wp_region_L (fun w' => w'.cell? ⟨y, 0, none⟩ = some (.int .i64 (f : Int)) ∧ w'.cell? ⟨y, 2, none⟩ = some (.pointer (some ⟨now, 0, none⟩)) ∧ w'.cell? ⟨now, 0, none⟩ = some (.slice ba m bc)) 23 [(true, 0), (true, 1), (true, 2), (true, 3), (true, 4), (true, 5), (true, 6), (true, 7), (true, 8), (true, 9), (true, 10), (true, 11), (true, 12), (true, 13), (true, 14), (true, 15), (true, 16), (true, 17), (true, 18), (true, 19), (true, 20), (true, 21), (true, 22)] [] (by kernel_rfl) (by kernel_rfl) ⟨c0, c2, d0⟩ ?_
    simp only [pick, List.getElem?_cons_zero, List.getElem?_cons_succ]
    refine wpL_yield (v := ?_) rfl (fun w' hS => ?_) ?_
    rotate_left
    · (obtain ⟨s0, s2, sd⟩ := hS; go_simp; try with_reducible rfl)
    simp only [Act.put, List.setIfInBounds_toArray, List.set_cons_zero, List.set_cons_succ]
    refine wpL_yield (v := ?_) rfl (fun w' hS => ?_) ?_
    rotate_left
    · (obtain ⟨s0, s2, sd⟩ := hS; go_simp; try with_reducible rfl)
    simp only [Act.put, List.setIfInBounds_toArray, List.set_cons_zero, List.set_cons_succ]
    refine wpL_yield (v := ?_) rfl (fun w' hS => ?_) ?_
    rotate_left
    · (obtain ⟨s0, s2, sd⟩ := hS; go_simp; try with_reducible rfl)
    simp only [Act.put, List.setIfInBounds_toArray, List.set_cons_zero, List.set_cons_succ]
    refine wpL_yield (v := ?_) rfl (fun w' hS => ?_) ?_
    rotate_left
    · (obtain ⟨s0, s2, sd⟩ := hS; go_simp; try with_reducible rfl)
    simp only [Act.put, List.setIfInBounds_toArray, List.set_cons_zero, List.set_cons_succ]
    refine wpL_yield (v := ?_) rfl (fun w' hS => ?_) ?_
    rotate_left
    · (obtain ⟨s0, s2, sd⟩ := hS; go_simp; try with_reducible rfl)
    simp only [Act.put, List.setIfInBounds_toArray, List.set_cons_zero, List.set_cons_succ]
    refine wpL_yield (v := ?_) rfl (fun w' hS => ?_) ?_
    rotate_left
    · (obtain ⟨s0, s2, sd⟩ := hS; go_simp; try with_reducible rfl)
    simp only [Act.put, List.setIfInBounds_toArray, List.set_cons_zero, List.set_cons_succ]
    refine wpL_yield (v := ?_) rfl (fun w' hS => ?_) ?_
    rotate_left
    · (obtain ⟨s0, s2, sd⟩ := hS; go_simp; try with_reducible rfl)
    simp only [Act.put, List.setIfInBounds_toArray, List.set_cons_zero, List.set_cons_succ]
    refine wpL_guarded (v := ?_) rfl (fun w' hS => ?_) ?_
    rotate_left
    · (obtain ⟨s0, s2, sd⟩ := hS; go_simp; try with_reducible rfl)
    simp only [Act.put, List.setIfInBounds_toArray, List.set_cons_zero, List.set_cons_succ]
    refine wpL_guarded (v := ?_) rfl (fun w' hS => ?_) ?_
    rotate_left
    · (obtain ⟨s0, s2, sd⟩ := hS; go_simp; try with_reducible rfl)
    simp only [Act.put, List.setIfInBounds_toArray, List.set_cons_zero, List.set_cons_succ]
    refine wpL_guarded (v := ?_) rfl (fun w' hS => ?_) ?_
    rotate_left
    · (obtain ⟨s0, s2, sd⟩ := hS; go_simp; try with_reducible rfl)
    simp only [Act.put, List.setIfInBounds_toArray, List.set_cons_zero, List.set_cons_succ]
    refine wpL_guarded (v := ?_) rfl (fun w' hS => ?_) ?_
    rotate_left
    · (obtain ⟨s0, s2, sd⟩ := hS; go_simp; try with_reducible rfl)
    simp only [Act.put, List.setIfInBounds_toArray, List.set_cons_zero, List.set_cons_succ]
    refine wpL_guarded (v := ?_) rfl (fun w' hS => ?_) ?_
    rotate_left
    · (obtain ⟨s0, s2, sd⟩ := hS; go_simp; try with_reducible rfl)
    simp only [Act.put, List.setIfInBounds_toArray, List.set_cons_zero, List.set_cons_succ]
    refine wpL_guarded (v := ?_) rfl (fun w' hS => ?_) ?_
    rotate_left
    · (obtain ⟨s0, s2, sd⟩ := hS; go_simp; try with_reducible rfl)
    simp only [Act.put, List.setIfInBounds_toArray, List.set_cons_zero, List.set_cons_succ]
    refine wpL_guarded (v := ?_) rfl (fun w' hS => ?_) ?_
    rotate_left
    · (obtain ⟨s0, s2, sd⟩ := hS; go_simp; try with_reducible rfl)
    simp only [Act.put, List.setIfInBounds_toArray, List.set_cons_zero, List.set_cons_succ]
    refine wpL_guarded (v := ?_) rfl (fun w' hS => ?_) ?_
    rotate_left
    · (obtain ⟨s0, s2, sd⟩ := hS; go_simp; try with_reducible rfl)
    simp only [Act.put, List.setIfInBounds_toArray, List.set_cons_zero, List.set_cons_succ]
    refine wpL_guarded (v := ?_) rfl (fun w' hS => ?_) ?_
    rotate_left
    · (obtain ⟨s0, s2, sd⟩ := hS; go_simp; try with_reducible rfl)
    simp only [Act.put, List.setIfInBounds_toArray, List.set_cons_zero, List.set_cons_succ]
    refine wpL_guarded (v := ?_) rfl (fun w' hS => ?_) ?_
    rotate_left
    · (obtain ⟨s0, s2, sd⟩ := hS; go_simp; try with_reducible rfl)
    simp only [Act.put, List.setIfInBounds_toArray, List.set_cons_zero, List.set_cons_succ]
    refine wpL_guarded (v := ?_) rfl (fun w' hS => ?_) ?_
    rotate_left
    · (obtain ⟨s0, s2, sd⟩ := hS; go_simp; try with_reducible rfl)
    simp only [Act.put, List.setIfInBounds_toArray, List.set_cons_zero, List.set_cons_succ]
    refine wpL_guarded (v := ?_) rfl (fun w' hS => ?_) ?_
    rotate_left
    · (obtain ⟨s0, s2, sd⟩ := hS; go_simp; try with_reducible rfl)
    simp only [Act.put, List.setIfInBounds_toArray, List.set_cons_zero, List.set_cons_succ]
    refine wpL_guarded (v := ?_) rfl (fun w' hS => ?_) ?_
    rotate_left
    · (obtain ⟨s0, s2, sd⟩ := hS; go_simp; try with_reducible rfl)
    simp only [Act.put, List.setIfInBounds_toArray, List.set_cons_zero, List.set_cons_succ]
    refine wpL_guarded (v := ?_) rfl (fun w' hS => ?_) ?_
    rotate_left
    · (obtain ⟨s0, s2, sd⟩ := hS; go_simp; try with_reducible rfl)
    simp only [Act.put, List.setIfInBounds_toArray, List.set_cons_zero, List.set_cons_succ]
    refine wpL_guarded (v := ?_) rfl (fun w' hS => ?_) ?_
    rotate_left
    · (obtain ⟨s0, s2, sd⟩ := hS; go_simp; try with_reducible rfl)
    simp only [Act.put, List.setIfInBounds_toArray, List.set_cons_zero, List.set_cons_succ]
    refine wpL_yield (v := ?_) rfl (fun w' hS => ?_) ?_
    rotate_left
    · (go_simp; try with_reducible rfl)
    simp only [Act.put, List.setIfInBounds_toArray, List.set_cons_zero, List.set_cons_succ]
    refine wpL_nil ?_
    refine wpL_nil ?_
    go_wp2_with fail
    go_ret
    exact ⟨rfl, h.drew⟩
  obtain ⟨i, rfl⟩ : ∃ i : Nat, n = (f : Int) + (i : Int) := ⟨(n - f).toNat, by omega⟩
  have him : i < m := by omega
  have hck : chkN len S.G ((f : Int) + (i : Int)) = if bitN S.G (f + i) = true then 0 else 41 := by
    unfold chkN bitN
    rw [hf, if_neg (by omega), show ((f : Int) + (i : Int)).toNat = f + i by omega]
  rw [hck]
  have hall := h
  have hib : i < bs.length := by omega
  have hd : decide ((f : Int) + (i : Int) < (f : Int)) = false := decide_eq_false (by omega)
  have hd2 : ¬ ((f : Int) + (m : Int) ≤ (f : Int) + (i : Int)) := by omega
  have hw2 : IntKind.i64.wrap ((f : Int) + (i : Int) - (f : Int)) = (i : Int) := by rw [show (f : Int) + (i : Int) - (f : Int) = (i : Int) by omega]; exact IntWalk.i64_in _ (by omega)
  obtain ⟨gb, rfl, _⟩ := h1.pull3.rowAt (k := i) him
  have hc := h1.drew.drew.pull3.rowCell (i := i) him (hok.nil_at hib)
  obtain ⟨c0', _, c2', _, _, _, _⟩ := h1.drew.drew.spcCells
  obtain ⟨d0', _, _⟩ := h1.drew.drew.pull2.stCells
  have hb := hok.blk i hib
  rw [hf] at hb
  clear hck hok hf hm hbl hfm h41 h40
  rcases hb with ⟨b1, b2⟩ | ⟨b1, _, _, a, c, b2⟩
  · rw [b2] at hc
    rw [if_neg (by rw [b1]; decide)]
    have hq := fun w => Lib.run_eql_slice_nil (P := Tryz.prog) w 34 _ none 0 0 0 0 u_bytes
    clear b1 b2
    go_enter Tryz.func63, Tryz.ntmps63
    go_wp2_with fail
    refine wp_region_L (fun w' => w'.cell? ⟨y, 0, none⟩ = some (.int .i64 (f : Int)) ∧ w'.cell? ⟨y, 2, none⟩ = some (.pointer (some ⟨now, 0, none⟩)) ∧ w'.cell? ⟨now, 0, none⟩ = some (.slice (some ⟨gb, 0, none⟩) m bc)) 23 [(true, 0), (true, 1), (true, 2), (true, 3), (true, 4), (true, 5), (true, 6), (true, 7), (true, 8), (true, 9), (true, 10), (true, 11), (true, 12), (true, 13), (true, 14), (true, 15), (true, 16), (true, 17), (true, 18), (true, 19), (true, 20), (true, 21), (true, 22)] [] (by kernel_rfl) (by kernel_rfl) ⟨c0, c2, d0⟩ ?_
    simp only [pick, List.getElem?_cons_zero, List.getElem?_cons_succ]
    refine wpL_yield (v := ?_) rfl (fun w' hS => ?_) ?_
    rotate_left
    · (obtain ⟨s0, s2, sd⟩ := hS; go_simp; try with_reducible rfl)
    simp only [Act.put, List.setIfInBounds_toArray, List.set_cons_zero, List.set_cons_succ]
    refine wpL_yield (v := ?_) rfl (fun w' hS => ?_) ?_
    rotate_left
    · (obtain ⟨s0, s2, sd⟩ := hS; go_simp; try with_reducible rfl)
    simp only [Act.put, List.setIfInBounds_toArray, List.set_cons_zero, List.set_cons_succ]
    refine wpL_yield (v := ?_) rfl (fun w' hS => ?_) ?_
    rotate_left
    · (obtain ⟨s0, s2, sd⟩ := hS; go_simp; try with_reducible rfl)
    simp only [Act.put, List.setIfInBounds_toArray, List.set_cons_zero, List.set_cons_succ]
    refine wpL_yield (v := ?_) rfl (fun w' hS => ?_) ?_
    rotate_left
    · (obtain ⟨s0, s2, sd⟩ := hS; go_simp; try with_reducible rfl)
    simp only [Act.put, List.setIfInBounds_toArray, List.set_cons_zero, List.set_cons_succ]
    refine wpL_yield (v := ?_) rfl (fun w' hS => ?_) ?_
    rotate_left
    · (obtain ⟨s0, s2, sd⟩ := hS; go_simp; try with_reducible rfl)
    simp only [Act.put, List.setIfInBounds_toArray, List.set_cons_zero, List.set_cons_succ]
    refine wpL_yield (v := ?_) rfl (fun w' hS => ?_) ?_
    rotate_left
    · (obtain ⟨s0, s2, sd⟩ := hS; go_simp; try with_reducible rfl)
    simp only [Act.put, List.setIfInBounds_toArray, List.set_cons_zero, List.set_cons_succ]
    refine wpL_yield (v := ?_) rfl (fun w' hS => ?_) ?_
    rotate_left
    · (obtain ⟨s0, s2, sd⟩ := hS; go_simp; try with_reducible rfl)
    simp only [Act.put, List.setIfInBounds_toArray, List.set_cons_zero, List.set_cons_succ]
    refine wpL_guarded (v := ?_) rfl (fun w' hS => ?_) ?_
    rotate_left
    · (obtain ⟨s0, s2, sd⟩ := hS; go_simp; try with_reducible rfl)
    simp only [Act.put, List.setIfInBounds_toArray, List.set_cons_zero, List.set_cons_succ]
    refine wpL_guarded (v := ?_) rfl (fun w' hS => ?_) ?_
    rotate_left
    · (obtain ⟨s0, s2, sd⟩ := hS; go_simp; try with_reducible rfl)
    simp only [Act.put, List.setIfInBounds_toArray, List.set_cons_zero, List.set_cons_succ]
    refine wpL_guarded (v := ?_) rfl (fun w' hS => ?_) ?_
    rotate_left
    · (obtain ⟨s0, s2, sd⟩ := hS; go_simp; try with_reducible rfl)
    simp only [Act.put, List.setIfInBounds_toArray, List.set_cons_zero, List.set_cons_succ]
    refine wpL_guarded (v := ?_) rfl (fun w' hS => ?_) ?_
    rotate_left
    · (obtain ⟨s0, s2, sd⟩ := hS; go_simp; try with_reducible rfl)
    simp only [Act.put, List.setIfInBounds_toArray, List.set_cons_zero, List.set_cons_succ]
    refine wpL_guarded (v := ?_) rfl (fun w' hS => ?_) ?_
    rotate_left
    · (obtain ⟨s0, s2, sd⟩ := hS; go_simp; try with_reducible rfl)
    simp only [Act.put, List.setIfInBounds_toArray, List.set_cons_zero, List.set_cons_succ]
    refine wpL_guarded (v := ?_) rfl (fun w' hS => ?_) ?_
    rotate_left
    · (obtain ⟨s0, s2, sd⟩ := hS; go_simp; try with_reducible rfl)
    simp only [Act.put, List.setIfInBounds_toArray, List.set_cons_zero, List.set_cons_succ]
    refine wpL_guarded (v := ?_) rfl (fun w' hS => ?_) ?_
    rotate_left
    · (obtain ⟨s0, s2, sd⟩ := hS; go_simp; try with_reducible rfl)
    simp only [Act.put, List.setIfInBounds_toArray, List.set_cons_zero, List.set_cons_succ]
    refine wpL_guarded (v := ?_) rfl (fun w' hS => ?_) ?_
    rotate_left
    · (obtain ⟨s0, s2, sd⟩ := hS; go_simp; try with_reducible rfl)
    simp only [Act.put, List.setIfInBounds_toArray, List.set_cons_zero, List.set_cons_succ]
    refine wpL_guarded (v := ?_) rfl (fun w' hS => ?_) ?_
    rotate_left
    · (obtain ⟨s0, s2, sd⟩ := hS; go_simp; try with_reducible rfl)
    simp only [Act.put, List.setIfInBounds_toArray, List.set_cons_zero, List.set_cons_succ]
    refine wpL_guarded (v := ?_) rfl (fun w' hS => ?_) ?_
    rotate_left
    · (obtain ⟨s0, s2, sd⟩ := hS; go_simp; try with_reducible rfl)
    simp only [Act.put, List.setIfInBounds_toArray, List.set_cons_zero, List.set_cons_succ]
    refine wpL_guarded (v := ?_) rfl (fun w' hS => ?_) ?_
    rotate_left
    · (obtain ⟨s0, s2, sd⟩ := hS; go_simp; try with_reducible rfl)
    simp only [Act.put, List.setIfInBounds_toArray, List.set_cons_zero, List.set_cons_succ]
    refine wpL_guarded (v := ?_) rfl (fun w' hS => ?_) ?_
    rotate_left
    · (obtain ⟨s0, s2, sd⟩ := hS; go_simp; try with_reducible rfl)
    simp only [Act.put, List.setIfInBounds_toArray, List.set_cons_zero, List.set_cons_succ]
    refine wpL_guarded (v := ?_) rfl (fun w' hS => ?_) ?_
    rotate_left
    · (obtain ⟨s0, s2, sd⟩ := hS; go_simp; try with_reducible rfl)
    simp only [Act.put, List.setIfInBounds_toArray, List.set_cons_zero, List.set_cons_succ]
    refine wpL_guarded (v := ?_) rfl (fun w' hS => ?_) ?_
    rotate_left
    · (obtain ⟨s0, s2, sd⟩ := hS; go_simp; try with_reducible rfl)
    simp only [Act.put, List.setIfInBounds_toArray, List.set_cons_zero, List.set_cons_succ]
    refine wpL_guarded (v := ?_) rfl (fun w' hS => ?_) ?_
    rotate_left
    · (obtain ⟨s0, s2, sd⟩ := hS; go_simp; try with_reducible rfl)
    simp only [Act.put, List.setIfInBounds_toArray, List.set_cons_zero, List.set_cons_succ]
    refine wpL_yield (v := ?_) rfl (fun w' hS => ?_) ?_
    rotate_left
    · (go_simp; try with_reducible rfl)
    simp only [Act.put, List.setIfInBounds_toArray, List.set_cons_zero, List.set_cons_succ]
    refine wpL_nil ?_
    refine wpL_nil ?_
    go_wp2_with fail
    refine wp_region_tail 15 (by kernel_rfl) (by kernel_rfl) ?_
    simp only [List.take_succ_cons, List.take_zero, List.drop_succ_cons, List.drop_zero]
    iterate 15 still_step
    refine wpStill_nil ?_
    go_wp2_with fail
    go_ret
    exact ⟨rfl, hall.drew.drew⟩
  · rw [b2] at hc
    rw [if_pos b1]
    have hq := fun w => Lib.run_eql_slice_nil (P := Tryz.prog) w 34 _ (some a) 64 c 0 0 u_bytes
    clear b1 b2
    go_enter Tryz.func63, Tryz.ntmps63
    go_wp2_with fail
    refine wp_region_L (fun w' => w'.cell? ⟨y, 0, none⟩ = some (.int .i64 (f : Int)) ∧ w'.cell? ⟨y, 2, none⟩ = some (.pointer (some ⟨now, 0, none⟩)) ∧ w'.cell? ⟨now, 0, none⟩ = some (.slice (some ⟨gb, 0, none⟩) m bc)) 23 [(true, 0), (true, 1), (true, 2), (true, 3), (true, 4), (true, 5), (true, 6), (true, 7), (true, 8), (true, 9), (true, 10), (true, 11), (true, 12), (true, 13), (true, 14), (true, 15), (true, 16), (true, 17), (true, 18), (true, 19), (true, 20), (true, 21), (true, 22)] [] (by kernel_rfl) (by kernel_rfl) ⟨c0, c2, d0⟩ ?_
    simp only [pick, List.getElem?_cons_zero, List.getElem?_cons_succ]
    refine wpL_yield (v := ?_) rfl (fun w' hS => ?_) ?_
    rotate_left
    · (obtain ⟨s0, s2, sd⟩ := hS; go_simp; try with_reducible rfl)
    simp only [Act.put, List.setIfInBounds_toArray, List.set_cons_zero, List.set_cons_succ]
    refine wpL_yield (v := ?_) rfl (fun w' hS => ?_) ?_
    rotate_left
    · (obtain ⟨s0, s2, sd⟩ := hS; go_simp; try with_reducible rfl)
    simp only [Act.put, List.setIfInBounds_toArray, List.set_cons_zero, List.set_cons_succ]
    refine wpL_yield (v := ?_) rfl (fun w' hS => ?_) ?_
    rotate_left
    · (obtain ⟨s0, s2, sd⟩ := hS; go_simp; try with_reducible rfl)
    simp only [Act.put, List.setIfInBounds_toArray, List.set_cons_zero, List.set_cons_succ]
    refine wpL_yield (v := ?_) rfl (fun w' hS => ?_) ?_
    rotate_left
    · (obtain ⟨s0, s2, sd⟩ := hS; go_simp; try with_reducible rfl)
    simp only [Act.put, List.setIfInBounds_toArray, List.set_cons_zero, List.set_cons_succ]
    refine wpL_yield (v := ?_) rfl (fun w' hS => ?_) ?_
    rotate_left
    · (obtain ⟨s0, s2, sd⟩ := hS; go_simp; try with_reducible rfl)
    simp only [Act.put, List.setIfInBounds_toArray, List.set_cons_zero, List.set_cons_succ]
    refine wpL_yield (v := ?_) rfl (fun w' hS => ?_) ?_
    rotate_left
    · (obtain ⟨s0, s2, sd⟩ := hS; go_simp; try with_reducible rfl)
    simp only [Act.put, List.setIfInBounds_toArray, List.set_cons_zero, List.set_cons_succ]
    refine wpL_yield (v := ?_) rfl (fun w' hS => ?_) ?_
    rotate_left
    · (obtain ⟨s0, s2, sd⟩ := hS; go_simp; try with_reducible rfl)
    simp only [Act.put, List.setIfInBounds_toArray, List.set_cons_zero, List.set_cons_succ]
    refine wpL_guarded (v := ?_) rfl (fun w' hS => ?_) ?_
    rotate_left
    · (obtain ⟨s0, s2, sd⟩ := hS; go_simp; try with_reducible rfl)
    simp only [Act.put, List.setIfInBounds_toArray, List.set_cons_zero, List.set_cons_succ]
    refine wpL_guarded (v := ?_) rfl (fun w' hS => ?_) ?_
    rotate_left
    · (obtain ⟨s0, s2, sd⟩ := hS; go_simp; try with_reducible rfl)
    simp only [Act.put, List.setIfInBounds_toArray, List.set_cons_zero, List.set_cons_succ]
    refine wpL_guarded (v := ?_) rfl (fun w' hS => ?_) ?_
    rotate_left
    · (obtain ⟨s0, s2, sd⟩ := hS; go_simp; try with_reducible rfl)
    simp only [Act.put, List.setIfInBounds_toArray, List.set_cons_zero, List.set_cons_succ]
    refine wpL_guarded (v := ?_) rfl (fun w' hS => ?_) ?_
    rotate_left
    · (obtain ⟨s0, s2, sd⟩ := hS; go_simp; try with_reducible rfl)
    simp only [Act.put, List.setIfInBounds_toArray, List.set_cons_zero, List.set_cons_succ]
    refine wpL_guarded (v := ?_) rfl (fun w' hS => ?_) ?_
    rotate_left
    · (obtain ⟨s0, s2, sd⟩ := hS; go_simp; try with_reducible rfl)
    simp only [Act.put, List.setIfInBounds_toArray, List.set_cons_zero, List.set_cons_succ]
    refine wpL_guarded (v := ?_) rfl (fun w' hS => ?_) ?_
    rotate_left
    · (obtain ⟨s0, s2, sd⟩ := hS; go_simp; try with_reducible rfl)
    simp only [Act.put, List.setIfInBounds_toArray, List.set_cons_zero, List.set_cons_succ]
    refine wpL_guarded (v := ?_) rfl (fun w' hS => ?_) ?_
    rotate_left
    · (obtain ⟨s0, s2, sd⟩ := hS; go_simp; try with_reducible rfl)
    simp only [Act.put, List.setIfInBounds_toArray, List.set_cons_zero, List.set_cons_succ]
    refine wpL_guarded (v := ?_) rfl (fun w' hS => ?_) ?_
    rotate_left
    · (obtain ⟨s0, s2, sd⟩ := hS; go_simp; try with_reducible rfl)
    simp only [Act.put, List.setIfInBounds_toArray, List.set_cons_zero, List.set_cons_succ]
    refine wpL_guarded (v := ?_) rfl (fun w' hS => ?_) ?_
    rotate_left
    · (obtain ⟨s0, s2, sd⟩ := hS; go_simp; try with_reducible rfl)
    simp only [Act.put, List.setIfInBounds_toArray, List.set_cons_zero, List.set_cons_succ]
    refine wpL_guarded (v := ?_) rfl (fun w' hS => ?_) ?_
    rotate_left
    · (obtain ⟨s0, s2, sd⟩ := hS; go_simp; try with_reducible rfl)
    simp only [Act.put, List.setIfInBounds_toArray, List.set_cons_zero, List.set_cons_succ]
    refine wpL_guarded (v := ?_) rfl (fun w' hS => ?_) ?_
    rotate_left
    · (obtain ⟨s0, s2, sd⟩ := hS; go_simp; try with_reducible rfl)
    simp only [Act.put, List.setIfInBounds_toArray, List.set_cons_zero, List.set_cons_succ]
    refine wpL_guarded (v := ?_) rfl (fun w' hS => ?_) ?_
    rotate_left
    · (obtain ⟨s0, s2, sd⟩ := hS; go_simp; try with_reducible rfl)
    simp only [Act.put, List.setIfInBounds_toArray, List.set_cons_zero, List.set_cons_succ]
    refine wpL_guarded (v := ?_) rfl (fun w' hS => ?_) ?_
    rotate_left
    · (obtain ⟨s0, s2, sd⟩ := hS; go_simp; try with_reducible rfl)
    simp only [Act.put, List.setIfInBounds_toArray, List.set_cons_zero, List.set_cons_succ]
    refine wpL_guarded (v := ?_) rfl (fun w' hS => ?_) ?_
    rotate_left
    · (obtain ⟨s0, s2, sd⟩ := hS; go_simp; try with_reducible rfl)
    simp only [Act.put, List.setIfInBounds_toArray, List.set_cons_zero, List.set_cons_succ]
    refine wpL_guarded (v := ?_) rfl (fun w' hS => ?_) ?_
    rotate_left
    · (obtain ⟨s0, s2, sd⟩ := hS; go_simp; try with_reducible rfl)
    simp only [Act.put, List.setIfInBounds_toArray, List.set_cons_zero, List.set_cons_succ]
    refine wpL_yield (v := ?_) rfl (fun w' hS => ?_) ?_
    rotate_left
    · (go_simp; try with_reducible rfl)
    simp only [Act.put, List.setIfInBounds_toArray, List.set_cons_zero, List.set_cons_succ]
    refine wpL_nil ?_
    refine wpL_nil ?_
    go_wp2_with fail
    refine wp_region_tail 15 (by kernel_rfl) (by kernel_rfl) ?_
    simp only [List.take_succ_cons, List.take_zero, List.drop_succ_cons, List.drop_zero]
    iterate 15 still_step
    refine wpStill_nil ?_
    go_wp2_with fail
    go_ret
    exact ⟨rfl, hall.drew.drew⟩
end

end Go.Proofs.YtcggloceabjjdaaGreat

/- A statement whose order Go leaves open, with two effects that may come in either order: a tree of orders; no condition. -/
namespace Go.Proofs.YtcggloceabjjdaaGreat
open Go.RowKit Go.MapKept

/-- A tree of orders. -/
inductive Tr where
  | nil : Tr
  | still : Nat → Tr → Tr
  | eff : Nat → Tr → Tr
  | both : Nat → Tr → Nat → Tr → Tr

section
variable {P : Program} {ops : Array Oper} {Q : Exit → Act → World → Prop} {S : World → Prop} {md : Region.Mode} {C : Act → World → Prop}

def schedT (md : Region.Mode) (ops : Array Oper) (fin : Array Bool) : Tr → Nat → Array Bool → Bool
  | .nil, f, listed => f == 0 && decide (listed = fin)
  | .still i r, f, listed => (Region.ready md ops listed).contains i && Region.free md ops listed i && decide (0 < f) && decide (i < ops.size) && schedT md ops fin r (f - 1) (listed.setIfInBounds i true)
  | .eff i r, f, listed => decide (Region.ready md ops listed = [i]) && decide (0 < f) && decide (i < ops.size) && schedT md ops fin r (f - 1) (listed.setIfInBounds i true)
  | .both i r j q, f, listed => decide (Region.ready md ops listed = [i, j]) && decide (0 < f) && decide (i < ops.size) && decide (j < ops.size) && schedT md ops fin r (f - 1) (listed.setIfInBounds i true) && schedT md ops fin q (f - 1) (listed.setIfInBounds j true)

def wpEff (P : Program) (ops : Array Oper) (Q : Exit → Act → World → Prop) (S : World → Prop) (i : Nat) (K : Act → World → Prop) (a : Act) (w : World) : Prop :=
  ∃ o, ops[i]? = some o ∧ Region.wanted o (yielded ops a.tmps) = true ∧ o.wp P a w (fun a' w' => S w' ∧ K a' w') Q
def wpT (P : Program) (ops : Array Oper) (Q : Exit → Act → World → Prop) (S : World → Prop) (C : Act → World → Prop) : Tr → Act → World → Prop
  | .nil, a, w => C a w
  | .still i r, a, w => ∃ o v, ops[i]? = some o ∧ YieldsIf P ops S o v a ∧ wpT P ops Q S C r (a.put o.dst v) w
  | .eff i r, a, w => wpEff P ops Q S i (wpT P ops Q S C r) a w
  | .both i r j q, a, w => wpEff P ops Q S i (wpT P ops Q S C r) a w ∧ wpEff P ops Q S j (wpT P ops Q S C q) a w

theorem wpPh_of_wpT (hs : Region.noSelect ops = true) (hQ : ∀ c a w, ¬ Q (.panic c) a w) {fin : Array Bool} (hfin : ∀ j ∈ Region.ready md ops fin, ops.size ≤ j) :
    ∀ (t : Tr) (f : Nat) (listed : Array Bool) (a : Act) (w : World), schedT md ops fin t f listed = true → S w → wpT P ops Q S C t a w → wpPh P md ops Q S ops.size (fun listed' a' w' => listed' = fin ∧ C a' w') f listed a w
  | .nil, f, listed, a, w, hB, _, h => by
    simp only [schedT, Bool.and_eq_true, beq_iff_eq, decide_eq_true_eq] at hB
    obtain ⟨rfl, hl⟩ := hB
    exact ⟨hl, h⟩
  | .still i r, f, listed, a, w, hB, hS, h => by
    obtain ⟨o, v, hi, hy, h⟩ := h
    simp only [schedT, Bool.and_eq_true, decide_eq_true_eq] at hB
    obtain ⟨⟨⟨⟨h1, h2⟩, h3⟩, h4⟩, h5⟩ := hB
    obtain ⟨f, rfl⟩ : ∃ f', f = f' + 1 := ⟨f - 1, by omega⟩
    exact wpPh_first hi (Region.noSelect_spec hs) hQ phaseB_all h4 (fun listed' a' w' h => by rw [h.1]; exact hfin) _ listed a w (Region.free_spec hi h2) (by simpa using h1) hy hS
      (wpPh_of_wpT hs hQ hfin r _ _ _ _ (by simpa using h5) hS h)
  | .eff i r, f, listed, a, w, hB, hS, h => by
    obtain ⟨o, hi, hg, h⟩ := h
    simp only [schedT, Bool.and_eq_true, decide_eq_true_eq] at hB
    obtain ⟨⟨⟨hc, h3⟩, h4⟩, h5⟩ := hB
    obtain ⟨f, rfl⟩ : ∃ f', f = f' + 1 := ⟨f - 1, by omega⟩
    refine ⟨by rw [hc]; simp, fun j hj => ?_⟩
    rw [hc] at hj
    have : j = i := by simpa using hj
    subst this
    refine ⟨h4, ?_⟩
    unfold wpOp
    simp only [hi, hg, if_true]
    exact .inl (Oper.wp_mono (fun a' w' h' => ⟨h'.1, wpPh_of_wpT hs hQ hfin r _ _ _ _ (by simpa using h5) h'.1 h'.2⟩) h)
  | .both i r k q, f, listed, a, w, hB, hS, h => by
    obtain ⟨⟨o, hi, hg, h⟩, ⟨o2, hi2, hg2, h2⟩⟩ := h
    simp only [schedT, Bool.and_eq_true, decide_eq_true_eq] at hB
    obtain ⟨⟨⟨⟨⟨hc, h3⟩, h4⟩, h4'⟩, h5⟩, h6⟩ := hB
    obtain ⟨f, rfl⟩ : ∃ f', f = f' + 1 := ⟨f - 1, by omega⟩
    refine ⟨by rw [hc]; simp, fun j hj => ?_⟩
    rw [hc] at hj
    have : j = i ∨ j = k := by simpa using hj
    rcases this with rfl | rfl
    · refine ⟨h4, ?_⟩
      unfold wpOp
      simp only [hi, hg, if_true]
      exact .inl (Oper.wp_mono (fun a' w' h' => ⟨h'.1, wpPh_of_wpT hs hQ hfin r _ _ _ _ (by simpa using h5) h'.1 h'.2⟩) h)
    · refine ⟨h4', ?_⟩
      unfold wpOp
      simp only [hi2, hg2, if_true]
      exact .inl (Oper.wp_mono (fun a' w' h' => ⟨h'.1, wpPh_of_wpT hs hQ hfin q _ _ _ _ (by simpa using h6) h'.1 h'.2⟩) h2)

def planT (ops : Array Oper) (t : Tr) : Bool :=
  Region.noSelect ops && schedT .any ops (Array.replicate ops.size true) t ops.size (Array.replicate ops.size false) && (Region.ready .any ops (Array.replicate ops.size true)).isEmpty

/-- A region that draws its order, walked along a tree of orders. -/
theorem wp_region_T {id : Nat} {l : List Oper} {a : Act} {w : World} (S : World → Prop) (t : Tr) (hm : P.follows .mixedOrders = true)
    (hB : planT l.toArray t = true) (hS : S w.drew) (h : wpT P l.toArray (NoPanic Q) S (Q .normal) t a w.drew) : (Code.region id l.toArray true).wp P Q a w := by
  unfold planT at hB
  simp only [Bool.and_eq_true] at hB
  obtain ⟨⟨hn, hB⟩, hr⟩ := hB
  have hempty : Region.ready .any l.toArray (Array.replicate l.toArray.size true) = [] := by simpa using hr
  refine wp_region_noPanic (wp_region_any hm ?_)
  have H := wpPh_of_wpT (md := .any) (Q := NoPanic Q) hn (fun c a w h => h) (fin := Array.replicate l.toArray.size true) (fun j hj => by rw [hempty] at hj; cases hj) t _ _ a w.drew hB hS h
  have := wpAny_of_wpPh (md := .any) (Q := NoPanic Q) (g := 0) (fun listed' a' w' hc => by
    obtain ⟨rfl, hc⟩ := hc
    exact ⟨hempty, hc⟩) _ _ _ _ H
  exact this

section
variable {r q : Tr} {a : Act} {w : World} {o : Oper} {v : Value} {i j : Nat}
theorem wpT_nil (h : C a w) : wpT P ops Q S C .nil a w := h
theorem wpT_yield (hi : ops[i]? = some o) (hg : o.guard = none) (hy : ∀ w, S w → (execOp a.eval o).run P w = .ok (.value v) w) (h : wpT P ops Q S C r (a.put o.dst v) w) : wpT P ops Q S C (.still i r) a w :=
  ⟨o, v, hi, .inl ⟨by simp [Region.wanted, hg], hy⟩, h⟩
theorem wpT_eff (hi : ops[i]? = some o) (hg : o.guard = none) (h : o.wp P a w (fun a' w' => S w' ∧ wpT P ops Q S C r a' w') Q) : wpT P ops Q S C (.eff i r) a w :=
  ⟨o, hi, by simp [Region.wanted, hg], h⟩
theorem wpT_both (h1 : wpT P ops Q S C (.eff i r) a w) (h2 : wpT P ops Q S C (.eff j q) a w) : wpT P ops Q S C (.both i r j q) a w := ⟨h1, h2⟩
end

theorem wp_alloc_z {a : Act} {w : World} {o : Oper} {K : Act → World → Prop} {t : TypeId} {z : Value} (hop : o.op = .alloc t) (hz : (zeroValue t).run P w = .ok z w)
    (hK : K (a.put o.dst (.pointer (some ⟨w.heap.size, 0, none⟩))) (w.alloc (.cells z.cells t))) : o.wp P a w K Q := by
  unfold Oper.wp
  simp [execOp, hop, Instr.alloc, newVar, newRow, newObj, hz, Result.andThen, Sem.run]
  exact hK
theorem wp_store_obj {R : Assn} {a : Act} {w : World} {o : Oper} {K : Act → World → Prop} {t t' : TypeId} {x y : Operand} {b : Nat} {c cs : Array Value} (h : Bears w (Assn.obj b (.cells c t' (0, 0)) * R)) (hop : o.op = .store t x y) (hx : a.eval x = .pointer (some ⟨b, 0, none⟩)) (hy : a.eval y = .agg cs)
    (hs : cs.size = c.size) (hi : (P.info? t).map (·.size) = some c.size) (h1 : ∀ v ∈ cs.toList, v.oneCell' = true)
    (hK : ∀ w', Bears w' (Assn.obj b (.cells cs t' (0, 0)) * R) → K (a.put o.dst undef) w') : o.wp P a w K Q := by
  have hb := h.obj
  refine wp_store_mid t x y hop b 0 cs hx hy (fun j hj => ⟨?_, frozen_of_obj hb _⟩) (by rw [hi, hs]) (Array.all_eq_true_iff_forall_mem.2 (fun v hv => h1 v (Array.mem_toList_iff.2 hv))) (hK _ ?_)
  · rw [cell_of_obj hb]; simp; omega
  · have := h.setCells 0 cs.toList
    rwa [setList_all _ _ (by simpa using hs)] at this
end

end Go.Proofs.YtcggloceabjjdaaGreat

/- Walks of the document's space, part 3: a state's clone; no condition. -/
namespace Go.Proofs.YtcggloceabjjdaaGreat
open Go.RowKit Go.MapKept

theorem oneCell_fst {Y : Assn} {len : Nat} {bs is : List (Value × Sec)} {G : Nat → Sec} (h : StOk Y len bs is G) : (∀ u ∈ bs.map Prod.fst, u.oneCell' = true) ∧ (∀ u ∈ is.map Prod.fst, u.oneCell' = true) := by
  constructor
  · intro u hu
    obtain ⟨r, hr, rfl⟩ := List.mem_map.1 hu
    obtain ⟨k, hk, rfl⟩ := List.mem_iff_getElem.1 hr
    have e : bs.getD k default = bs[k] := by rw [List.getD_eq_getElem?_getD, List.getElem?_eq_getElem hk]; rfl
    rcases h.blk k hk with ⟨_, h2⟩ | ⟨_, _, _, a, c, h2⟩
    · rw [e] at h2; rw [h2]; rfl
    · rw [e] at h2; rw [h2]; rfl
  · intro u hu
    obtain ⟨r, hr, rfl⟩ := List.mem_map.1 hu
    obtain ⟨k, hk, rfl⟩ := List.mem_iff_getElem.1 hr
    have e : is.getD k default = is[k] := by rw [List.getD_eq_getElem?_getD, List.getElem?_eq_getElem hk]; rfl
    obtain ⟨a, c, h2⟩ := h.iform k (by rw [← h.ilen]; exact hk)
    rw [e] at h2
    rw [h2]
    rfl

/-- 'append([]T{}, s...)', at an operation of a region. -/
theorem wp_append_vals {w : World} {K : Act → World → Prop} {o : Oper} {a : Act} {Q : Exit → Act → World → Prop} {s x : Operand} {e t : TypeId} {i0 : TypeInfo} {z : Value} {size bytes : Nat} {R : Assn} {b0 : Addr}
    (h : Bears w (rowA e size (.slice (some b0) 0 0) 0 [] * R)) (ho : o.op = .call { callee := .builtin .append, args := #[s, x], argTypes := #[t, t] }) (ht : Tryz.prog.underlying t = some (.slice e))
    (hi : Tryz.prog.info? e = some i0) (hz0 : i0.zero = some z) (hz1 : i0.size = size) (hz2 : i0.bytes = bytes) (hzc : z.cells.size = size) (hpos : 0 < size) (hs : a.eval s = .slice (some b0) 0 0) {ad : Option Addr} {n c : Nat} {xs : List Value} (hx : a.eval x = .slice ad n c)
    (hb : ValsIn size w (.slice ad n c) xs) (h1 : ∀ u ∈ xs, u.oneCell' = true) (hl : n * bytes ≤ 140737488355328)
    (hK : ∀ a' c' w', Bears w' (rowA e size (.slice a' n c') n xs * R) → K (a.put o.dst (.slice a' n c')) w') : o.wp Tryz.prog a w K Q := by
  obtain ⟨_, n', _, hv, hxl, hmax, hr⟩ := hb
  simp only [Value.slice.injEq] at hv
  obtain ⟨rfl, rfl, -⟩ := hv
  by_cases h0 : xs = []
  · subst h0
    obtain rfl : n = 0 := by
      rcases Nat.eq_zero_or_pos n with h | h
      · exact h
      · have := Nat.mul_pos h hpos
        simp at hxl
        omega
    have hr : (Builtin.append_ #[t, t] o.type #[.slice (some b0) 0 0, .slice ad 0 c]).run Tryz.prog w = .ok (.slice (some b0) 0 0) w := by
      cases ad <;> simp [Builtin.append_, run_underlying ht, sizeOf, typeInfo, hi, storeCells, Builtin.lenOf, Builtin.firstCells, loadCells, loadCellsFrom]
    unfold Oper.wp execOp
    simp only [ho, resolve, invoke, builtin, Sem.run_bind, Sem.run_pure, Result.andThen_ok, List.map_toArray, List.map_cons, List.map_nil, hs, hx, hr]
    exact hK _ _ _ h
  · obtain ⟨b, ob, rfl, hr2⟩ := hr h0
    refine wp_append_bears h ho ht hi hz0 hz1 hz2 hzc hpos hs (ad := ⟨b, ob, none⟩) (m := n) (c := c) (news := xs) hx hxl (addr_cells hr2) h1 (by omega) (by rw [Nat.zero_add]; exact hl) ?_
    intro a' c' w' h'
    rw [Nat.zero_add] at h' ⊢
    exact hK a' c' w' h'

set_option maxRecDepth 100000 in
set_option maxHeartbeats 800000 in
theorem rsclone_any {q len : Nat} {Y R : Assn} {G : Nat → Sec} {w : World} (h : Bears w (rstA q Y len G * R)) (hlen : len ≤ 8192) :
    Calls Tryz.prog 36 #[.pointer (some ⟨q, 0, none⟩)] w fun e w' => ∃ q', e = .returned (.pointer (some ⟨q', 0, none⟩)) ∧ Bears w' (rstA q' Y len G * (rstA q Y len G * R)) := by
  obtain ⟨bs, is, bv, iv, hok, h1⟩ := Bears.rst.1 h
  obtain ⟨ba, bc, rfl, _⟩ := h1.pull2.rowForm
  obtain ⟨ia, ic, rfl, _⟩ := h1.pull3.rowForm
  have hone := oneCell_fst hok
  have hbl : bs.length ≤ 8192 := by have := hok.blen; omega
  have hil : is.length ≤ 8192 := by have := hok.ilen; omega
  obtain ⟨i0, hi0, hz0, hz1, hz2⟩ := info_parts i_row
  have Hok := Lib.hid hok
  clear hok h
  go_enter Tryz.func36, Tryz.ntmps36
  go_wp2_with fail
  refine wp_region_T (fun w' => ∃ Q, Bears w' (stObj q (.slice ba bs.length bc) (.slice ia is.length ic) * Q))
    (.still 1 (.still 2 (.still 3 (.still 4 (.still 7 (.still 8 (.still 9 (.still 10 (.both 0 (.both 5 (.eff 6 (.eff 11 (.still 12 (.eff 13 (.still 14 .nil))))) 6 (.eff 5 (.eff 11 (.still 12 (.eff 13 (.still 14 .nil)))))) 6 (.eff 0 (.eff 5 (.eff 11 (.still 12 (.eff 13 (.still 14 .nil)))))))))))))))
    (by kernel_rfl) (by kernel_rfl) ⟨_, h1.drew⟩ ?_
  have hB := h1.drew
  clear h1
  generalize w.drew = wd at hB ⊢
  have hfin : ∀ (w' : World) (b : Nat) (pa qa : Option Addr) (pc qc : Nat), Bears w' (Assn.obj b (.cells #[.slice pa bs.length pc, .slice qa is.length qc] 68 (0, 0)) * (rowA 34 1 (.slice qa is.length qc) is.length (is.map Prod.fst) * (rowA 34 1 (.slice pa bs.length pc) bs.length (bs.map Prod.fst) * (stObj q (.slice ba bs.length bc) (.slice ia is.length ic) * (rowA 34 1 (.slice ba bs.length bc) bs.length (bs.map Prod.fst) * (rowA 34 1 (.slice ia is.length ic) is.length (is.map Prod.fst) * R)))))) →
      Bears w' (rstA b Y len G * (rstA q Y len G * R)) := by
    intro w' b pa qa pc qc hF
    refine Bears.rst.2 ⟨bs, is, .slice pa bs.length pc, .slice qa is.length qc, Hok.out, ?_⟩
    have h3 : Bears w' (rstA q Y len G * (Assn.obj b (.cells #[.slice pa bs.length pc, .slice qa is.length qc] 68 (0, 0)) * (rowA 34 1 (.slice qa is.length qc) is.length (is.map Prod.fst) * (rowA 34 1 (.slice pa bs.length pc) bs.length (bs.map Prod.fst) * R)))) := Bears.rst.2 ⟨bs, is, _, _, Hok.out, hF.cast (by ac_rfl)⟩
    exact h3.cast (by ac_rfl)
  iterate 8
    refine wpT_yield (v := ?_) rfl rfl (fun w' hS => ?_) ?_
    rotate_left
    · (obtain ⟨_, hS⟩ := hS; obtain ⟨s0, s1, _⟩ := hS.stCells; go_simp; try with_reducible rfl)
    simp only [Act.put, List.setIfInBounds_toArray, List.set_cons_zero, List.set_cons_succ]
  refine wpT_both ?_ ?_
  · have hC := hB.zeroRow (e := 34) (size := 1)
    refine wpT_eff rfl rfl ?_
    go_simp
    refine ⟨⟨_, hC.pull2⟩, ?_⟩
    try simp only [Act.put, List.setIfInBounds_toArray, List.set_cons_zero, List.set_cons_succ]
    refine wpT_both ?_ ?_
    · refine wpT_eff rfl rfl (wp_append_vals hC rfl u_rows hi0 hz0 hz1 hz2 (by simp [Value.cells]) (by decide) rfl rfl (rowA_vals _ hC.pull3) hone.1 (by omega) ?_)
      intro pa pc w5 h5
      refine ⟨⟨_, h5.pull2⟩, ?_⟩
      try simp only [Act.put, List.setIfInBounds_toArray, List.set_cons_zero, List.set_cons_succ]
      have hD := h5.zeroRow (e := 34) (size := 1)
      refine wpT_eff rfl rfl ?_
      go_simp
      refine ⟨⟨_, hD.pull3⟩, ?_⟩
      try simp only [Act.put, List.setIfInBounds_toArray, List.set_cons_zero, List.set_cons_succ]
      refine wpT_eff rfl rfl (wp_append_vals hD rfl u_rows hi0 hz0 hz1 hz2 (by simp [Value.cells]) (by decide) rfl rfl (rowA_vals _ hD.pull5) hone.2 (by omega) ?_)
      intro qa qc w11 h11
      refine ⟨⟨_, h11.pull3⟩, ?_⟩
      try simp only [Act.put, List.setIfInBounds_toArray, List.set_cons_zero, List.set_cons_succ]
      refine wpT_yield (v := ?_) rfl rfl (fun w' hS => ?_) ?_
      rotate_left
      · (go_simp; try with_reducible rfl)
      try simp only [Act.put, List.setIfInBounds_toArray, List.set_cons_zero, List.set_cons_succ]
      have hF := h11.alloc (.cells #[.slice pa bs.length pc, .slice qa is.length qc] 68)
      refine wpT_eff rfl rfl ?_
      go_simp
      refine ⟨⟨_, hF.pull4⟩, ?_⟩
      try simp only [Act.put, List.setIfInBounds_toArray, List.set_cons_zero, List.set_cons_succ]
      refine wpT_yield (v := ?_) rfl rfl (fun w' hS => ?_) ?_
      rotate_left
      · (go_simp; try with_reducible rfl)
      try simp only [Act.put, List.setIfInBounds_toArray, List.set_cons_zero, List.set_cons_succ]
      refine wpT_nil ?_
      go_simp
      try go_wp2_with fail
      go_ret
      refine ⟨w11.heap.size, ?_, hfin _ _ _ _ _ _ hF⟩
      first | rfl | (simp; done) | trace_state

    · have hD := hC.zeroRow (e := 34) (size := 1)
      rw [show (wd.alloc (.cells #[] 34)).heap.size = wd.heap.size + 1 from Array.size_push _] at hD
      refine wpT_eff rfl rfl ?_
      go_simp
      refine ⟨⟨_, hD.pull3⟩, ?_⟩
      try simp only [Act.put, List.setIfInBounds_toArray, List.set_cons_zero, List.set_cons_succ]
      refine wpT_eff rfl rfl (wp_append_vals hD.pull2 rfl u_rows hi0 hz0 hz1 hz2 (by simp [Value.cells]) (by decide) rfl rfl (rowA_vals _ hD.pull4) hone.1 (by omega) ?_)
      intro pa pc w5 h5
      refine ⟨⟨_, h5.pull3⟩, ?_⟩
      try simp only [Act.put, List.setIfInBounds_toArray, List.set_cons_zero, List.set_cons_succ]
      refine wpT_eff rfl rfl (wp_append_vals h5.pull2 rfl u_rows hi0 hz0 hz1 hz2 (by simp [Value.cells]) (by decide) rfl rfl (rowA_vals _ h5.pull5) hone.2 (by omega) ?_)
      intro qa qc w11 h11
      refine ⟨⟨_, h11.pull3⟩, ?_⟩
      try simp only [Act.put, List.setIfInBounds_toArray, List.set_cons_zero, List.set_cons_succ]
      refine wpT_yield (v := ?_) rfl rfl (fun w' hS => ?_) ?_
      rotate_left
      · (go_simp; try with_reducible rfl)
      try simp only [Act.put, List.setIfInBounds_toArray, List.set_cons_zero, List.set_cons_succ]
      have hF := h11.alloc (.cells #[.slice pa bs.length pc, .slice qa is.length qc] 68)
      refine wpT_eff rfl rfl ?_
      go_simp
      refine ⟨⟨_, hF.pull4⟩, ?_⟩
      try simp only [Act.put, List.setIfInBounds_toArray, List.set_cons_zero, List.set_cons_succ]
      refine wpT_yield (v := ?_) rfl rfl (fun w' hS => ?_) ?_
      rotate_left
      · (go_simp; try with_reducible rfl)
      try simp only [Act.put, List.setIfInBounds_toArray, List.set_cons_zero, List.set_cons_succ]
      refine wpT_nil ?_
      go_simp
      try go_wp2_with fail
      go_ret
      refine ⟨w11.heap.size, ?_, hfin _ _ _ _ _ _ hF⟩
      first | rfl | (simp; done) | trace_state

  · have hC := hB.zeroRow (e := 34) (size := 1)
    refine wpT_eff rfl rfl ?_
    go_simp
    refine ⟨⟨_, hC.pull2⟩, ?_⟩
    try simp only [Act.put, List.setIfInBounds_toArray, List.set_cons_zero, List.set_cons_succ]
    have hD := hC.zeroRow (e := 34) (size := 1)
    rw [show (wd.alloc (.cells #[] 34)).heap.size = wd.heap.size + 1 from Array.size_push _] at hD
    refine wpT_eff rfl rfl ?_
    go_simp
    refine ⟨⟨_, hD.pull3⟩, ?_⟩
    try simp only [Act.put, List.setIfInBounds_toArray, List.set_cons_zero, List.set_cons_succ]
    refine wpT_eff rfl rfl (wp_append_vals hD rfl u_rows hi0 hz0 hz1 hz2 (by simp [Value.cells]) (by decide) rfl rfl (rowA_vals _ hD.pull4) hone.1 (by omega) ?_)
    intro pa pc w5 h5
    refine ⟨⟨_, h5.pull3⟩, ?_⟩
    try simp only [Act.put, List.setIfInBounds_toArray, List.set_cons_zero, List.set_cons_succ]
    refine wpT_eff rfl rfl (wp_append_vals h5.pull2 rfl u_rows hi0 hz0 hz1 hz2 (by simp [Value.cells]) (by decide) rfl rfl (rowA_vals _ h5.pull5) hone.2 (by omega) ?_)
    intro qa qc w11 h11
    refine ⟨⟨_, h11.pull3⟩, ?_⟩
    try simp only [Act.put, List.setIfInBounds_toArray, List.set_cons_zero, List.set_cons_succ]
    refine wpT_yield (v := ?_) rfl rfl (fun w' hS => ?_) ?_
    rotate_left
    · (go_simp; try with_reducible rfl)
    try simp only [Act.put, List.setIfInBounds_toArray, List.set_cons_zero, List.set_cons_succ]
    have hF := h11.alloc (.cells #[.slice pa bs.length pc, .slice qa is.length qc] 68)
    refine wpT_eff rfl rfl ?_
    go_simp
    refine ⟨⟨_, hF.pull4⟩, ?_⟩
    try simp only [Act.put, List.setIfInBounds_toArray, List.set_cons_zero, List.set_cons_succ]
    refine wpT_yield (v := ?_) rfl rfl (fun w' hS => ?_) ?_
    rotate_left
    · (go_simp; try with_reducible rfl)
    try simp only [Act.put, List.setIfInBounds_toArray, List.set_cons_zero, List.set_cons_succ]
    refine wpT_nil ?_
    go_simp
    try go_wp2_with fail
    go_ret
    refine ⟨w11.heap.size, ?_, hfin _ _ _ _ _ _ hF⟩
    first | rfl | (simp; done) | trace_state


end Go.Proofs.YtcggloceabjjdaaGreat

/- Walks of the document's space, part 4: end, Commit, Abort; no condition. -/
namespace Go.Proofs.YtcggloceabjjdaaGreat
open Go.RowKit Go.MapKept

theorem i_bool1 : (Tryz.prog.info? 4).map (fun i => (i.zero, i.size, i.bytes)) = some (some (.bool false), 1, 1) := by kernel_rfl
theorem u_bools1 : Tryz.prog.underlying 40 = some (.slice 4) := by kernel_rfl
theorem made_bools (n : Nat) : madeCells #[Value.bool false] n = ((List.replicate n false).map Value.bool).toArray := by
  unfold madeCells
  apply Array.ext
  · simp
  · intro i h1 h2
    simp [Nat.mod_one]
theorem run_make_bools (w : World) (n : Nat) (hn : n ≤ 8192) : (Instr.makeSlice 40 (.int .i64 (n : Int)) (.int .i64 (n : Int))).run Tryz.prog w = .ok (.slice (some ⟨w.heap.size, 0, none⟩) n n) (w.alloc (.cells ((List.replicate n false).map Value.bool).toArray 4)) := by
  obtain ⟨i0, hi0, hz0, hz1, hz2⟩ := info_parts i_bool1
  have h := run_makeSlice (P := Tryz.prog) (w := w) 40 4 i0 _ u_bools1 hi0 hz0 .i64 .i64 (n : Int) (n : Int) (by omega) (Int.le_refl _) (by rw [hz1, Int.toNat_natCast]; omega) (by rw [hz2]; omega) (by omega)
  rw [hz1, Int.toNat_natCast, Nat.mul_one, show (Value.bool false).cells = #[Value.bool false] by simp [Value.cells], made_bools] at h
  exact h

section
variable {y len : Nat} {Y R : Assn} {S S' : SpM} {w : World}

set_option maxRecDepth 100000 in
set_option maxHeartbeats 800000 in
theorem rsend_any {was now n tc : Nat} {first g : Int} {op : Bool} {ta : Option Addr} (h : Bears w (spcObj y was now first op (.slice ta n tc) g * R)) (hn : n ≤ 8192) :
    Calls Tryz.prog 42 #[.pointer (some ⟨y, 0, none⟩)] w fun e w' => e = .returned (.tuple #[]) ∧ ∃ b, Bears w' (spcObj y was now first false (.slice (some ⟨b, 0, none⟩) n n) g * (rowA 4 1 (.slice (some ⟨b, 0, none⟩) n n) n ((List.replicate n false).map Value.bool) * R)) := by
  obtain ⟨_, _, _, c3, c4, _, hf⟩ := h.spcCells
  have f3 := hf 3
  have hmk := fun w => run_make_bools w n hn
  have h2 : Bears _ (spcObj y was now first false (.slice ta n tc) g * R) := (h.setCell (i := 3) (.bool false)).cast (by simp)
  have h3 := newRow (n := n) (e := 4) (xs := (List.replicate n false).map Value.bool) h2 (by simp) (by unfold maxLen; omega)
  have hsz : (w.setCell ⟨y, 3, none⟩ (.bool false)).heap.size = w.heap.size := by simp [World.setCell]
  have hmk1 := hmk (w.setCell ⟨y, 3, none⟩ (.bool false))
  rw [hsz] at h3 hmk1
  generalize (List.replicate n false).map Value.bool = fs at *
  obtain ⟨_, _, _, _, d4, _, df⟩ := h2.spcCells
  obtain ⟨_, _, _, _, e4, _, ef⟩ := h3.pull2.spcCells
  have g4 := ef 4
  clear hf df ef
  go_enter Tryz.func42, Tryz.ntmps42
  go_wp2_with (first | (refine wpList_op rfl (exec_make rfl rfl rfl hmk1) ?_) | (refine wpList_op rfl (exec_make rfl rfl rfl (hmk _)) ?_))
  go_end0
  exact ⟨rfl, w.heap.size, (h3.pull2.setCell (i := 4) (.slice (some ⟨w.heap.size, 0, none⟩) n n)).cast (by simp)⟩

set_option maxRecDepth 100000 in
set_option maxHeartbeats 800000 in
theorem rscommit_any {t : Told} (h : Bears w (spcA y Y len S * R)) (hlen : len ≤ 8192) (hg : S.g < 4611686018427387904) (hs : S.commit = (t, S')) :
    Calls Tryz.prog 22 #[.pointer (some ⟨y, 0, none⟩)] w fun e w' => e = .returned (.int .i64 t.e) ∧ Bears w' (spcA y Y len S' * R) := by
  obtain ⟨was, now, tv, ts, hts, h1⟩ := Bears.spc.1 h
  obtain ⟨ta, tc, rfl, _⟩ := h1.pull2.rowForm
  obtain ⟨_, _, c2, c3, _, _, _⟩ := h1.spcCells
  have Hts := Lib.hid hts
  clear hts
  obtain ⟨g, op, F, G⟩ := S
  simp only at h1 c3 hg
  unfold SpM.commit at hs
  cases op with
  | false =>
    simp at hs
    obtain ⟨rfl, rfl⟩ := hs
    go_enter Tryz.func22, Tryz.ntmps22
    go_wp2_with fail
    go_ret
    exact ⟨rfl, h⟩
  | true =>
    simp at hs
    obtain ⟨rfl, rfl⟩ := hs
    clear h
    have hwr : IntKind.i64.wrap ((g : Int) + 1) = (g : Int) + 1 := IntWalk.i64_in _ (by omega)
    go_enter Tryz.func22, Tryz.ntmps22
    go_wp2_with fail
    refine (rsclone_any h1.pull4 hlen).mono ?_
    rintro e w2 ⟨q2, rfl, h2⟩
    have h3 : Bears w2 (spcObj y was now (firstB len : Int) true (.slice ta len tc) (g : Int) * (rstA q2 Y len G * (rstA now Y len G * (rowA 4 1 (.slice ta len tc) len (ts.map Value.bool) * (rstA was Y len F * R))))) := h2.cast (by ac_rfl)
    obtain ⟨_, d1, _, _, _, _, df⟩ := h3.spcCells
    have f1 := df 1
    have h4 : Bears _ (spcObj y q2 now (firstB len : Int) true (.slice ta len tc) (g : Int) * (rstA q2 Y len G * (rstA now Y len G * (rowA 4 1 (.slice ta len tc) len (ts.map Value.bool) * (rstA was Y len F * R))))) := (h3.setCell (i := 1) (.pointer (some ⟨q2, 0, none⟩))).cast (by simp)
    have hend := rsend_any h4 hlen
    have Hend := Lib.hid hend
    clear hend h4 h3 h2 h1 df
    go_wp2_with fail
    refine Hend.out.mono ?_
    rintro e w5 ⟨rfl, b, h5⟩
    obtain ⟨_, _, _, _, _, e5, ef⟩ := h5.spcCells
    have f5 := ef 5
    have h6 : Bears _ (spcObj y q2 now (firstB len : Int) false (.slice (some ⟨b, 0, none⟩) len len) ((g : Int) + 1) * (rowA 4 1 (.slice (some ⟨b, 0, none⟩) len len) len ((List.replicate len false).map Value.bool) * (rstA q2 Y len G * (rstA now Y len G * (rowA 4 1 (.slice ta len tc) len (ts.map Value.bool) * (rstA was Y len F * R)))))) := (h5.setCell (i := 5) (.int .i64 ((g : Int) + 1))).cast (by simp)
    clear ef h5
    go_wp2_with fail
    go_ret
    refine ⟨rfl, Bears.spc.2 ⟨q2, now, .slice (some ⟨b, 0, none⟩) len len, List.replicate len false, by simp, ?_⟩⟩
    have h7 := h6.pull5.right.pull5.right
    have e : ((g + 1 : Nat) : Int) = (g : Int) + 1 := by omega
    simp only [e]
    exact h7

set_option maxRecDepth 100000 in
set_option maxHeartbeats 800000 in
theorem rsabort_any {t : Told} (h : Bears w (spcA y Y len S * R)) (hlen : len ≤ 8192) (hs : S.abort = (t, S')) :
    Calls Tryz.prog 11 #[.pointer (some ⟨y, 0, none⟩)] w fun e w' => e = .returned (.int .i64 t.e) ∧ Bears w' (spcA y Y len S' * R) := by
  obtain ⟨was, now, tv, ts, hts, h1⟩ := Bears.spc.1 h
  obtain ⟨ta, tc, rfl, _⟩ := h1.pull2.rowForm
  obtain ⟨_, c1, _, c3, _, _, _⟩ := h1.spcCells
  have Hts := Lib.hid hts
  clear hts
  obtain ⟨g, op, F, G⟩ := S
  simp only at h1 c3
  unfold SpM.abort at hs
  cases op with
  | false =>
    simp at hs
    obtain ⟨rfl, rfl⟩ := hs
    go_enter Tryz.func11, Tryz.ntmps11
    go_wp2_with fail
    go_ret
    exact ⟨rfl, h⟩
  | true =>
    simp at hs
    obtain ⟨rfl, rfl⟩ := hs
    clear h
    go_enter Tryz.func11, Tryz.ntmps11
    go_wp2_with fail
    refine (rsclone_any h1.pull3 hlen).mono ?_
    rintro e w2 ⟨q2, rfl, h2⟩
    have h3 : Bears w2 (spcObj y was now (firstB len : Int) true (.slice ta len tc) (g : Int) * (rstA q2 Y len F * (rstA was Y len F * (rowA 4 1 (.slice ta len tc) len (ts.map Value.bool) * (rstA now Y len G * R))))) := h2.cast (by ac_rfl)
    obtain ⟨_, _, d2, _, _, _, df⟩ := h3.spcCells
    have f2 := df 2
    have h4 : Bears _ (spcObj y was q2 (firstB len : Int) true (.slice ta len tc) (g : Int) * (rstA q2 Y len F * (rstA was Y len F * (rowA 4 1 (.slice ta len tc) len (ts.map Value.bool) * (rstA now Y len G * R))))) := (h3.setCell (i := 2) (.pointer (some ⟨q2, 0, none⟩))).cast (by simp)
    have hend := rsend_any h4 hlen
    have Hend := Lib.hid hend
    clear hend h4 h3 h2 h1 df
    go_wp2_with fail
    refine Hend.out.mono ?_
    rintro e w5 ⟨rfl, b, h5⟩
    go_wp2_with fail
    go_ret
    refine ⟨rfl, Bears.spc.2 ⟨was, q2, .slice (some ⟨b, 0, none⟩) len len, List.replicate len false, by simp, ?_⟩⟩
    have h7 := h5.pull5.right.pull5.right
    exact (h7.cast (by ac_rfl) : Bears w5 (spcObj y was q2 (firstB len : Int) false (.slice (some ⟨b, 0, none⟩) len len) (g : Int) * (rowA 4 1 (.slice (some ⟨b, 0, none⟩) len len) len ((List.replicate len false).map Value.bool) * (rstA was Y len F * (rstA q2 Y len F * R)))))

end

end Go.Proofs.YtcggloceabjjdaaGreat

/- Files of blocks, plain: numbers of two bytes, nodes, layouts; no program in sight. -/
namespace Go.Proofs.YtcggloceabjjdaaGreat
open Go.RowKit Go.MapKept

/-- A number of two bytes at a place. -/
def two (b : List UInt8) (i : Nat) : Nat := (b.getD i 0).toNat * 256 + (b.getD (i + 1) 0).toNat
def lay2 (b : List UInt8) (i n : Nat) : List UInt8 := (b.set i (UInt8.ofNat (n / 256))).set (i + 1) (UInt8.ofNat n)
theorem two_lt (b : List UInt8) (i : Nat) : two b i < 65536 := by
  have h1 := (b.getD i 0).toNat_lt
  have h2 := (b.getD (i + 1) 0).toNat_lt
  unfold two
  omega
theorem lay2_length (b : List UInt8) (i n : Nat) : (lay2 b i n).length = b.length := by simp [lay2]
theorem getD_set8 (b : List UInt8) (i j : Nat) (c : UInt8) (hi : i < b.length) : (b.set i c).getD j 0 = if j = i then c else b.getD j 0 := by
  by_cases e : j = i
  · subst e; rw [if_pos rfl, List.getD_eq_getElem?_getD, List.getElem?_set_self hi]; rfl
  · rw [if_neg e, List.getD_eq_getElem?_getD, List.getElem?_set_ne (Ne.symm e), ← List.getD_eq_getElem?_getD]
theorem lay2_getD (b : List UInt8) (i n j : Nat) (hi : i + 1 < b.length) : (lay2 b i n).getD j 0 = if j = i + 1 then UInt8.ofNat n else if j = i then UInt8.ofNat (n / 256) else b.getD j 0 := by
  unfold lay2
  rw [getD_set8 _ _ _ _ (by simpa using hi), getD_set8 _ _ _ _ (by omega)]
theorem lay2_getD_lt (b : List UInt8) (i n j : Nat) (hi : i + 1 < b.length) (h : j < i) : (lay2 b i n).getD j 0 = b.getD j 0 := by
  rw [lay2_getD _ _ _ _ hi, if_neg (by omega), if_neg (by omega)]
theorem two_lay2 (b : List UInt8) (i n : Nat) (hi : i + 1 < b.length) (hn : n < 65536) : two (lay2 b i n) i = n := by
  unfold two
  rw [lay2_getD _ _ _ _ hi, lay2_getD _ _ _ _ hi, if_neg (by omega), if_pos rfl, if_pos rfl, UInt8.toNat_ofNat_of_lt' (by show n / 256 < 256; omega), UInt8.toNat_ofNat']
  show n / 256 * 256 + n % 256 = n
  omega
theorem two_lay2_other (b : List UInt8) (i j n : Nat) (hi : i + 1 < b.length) (h : j + 1 < i ∨ i + 1 < j) : two (lay2 b i n) j = two b j := by
  unfold two
  rw [lay2_getD _ _ _ _ hi, lay2_getD _ _ _ _ hi, if_neg (by omega), if_neg (by omega), if_neg (by omega), if_neg (by omega)]

/-- An inode. -/
structure NodeM where
  kind : Nat
  links : Nat
  size : Nat
  d0 : Nat
  d1 : Nat
  d2 : Nat
  d3 : Nat
  near : Nat
  wide : Nat
def NodeM.zero : NodeM := ⟨0, 0, 0, 0, 0, 0, 0, 0, 0⟩
def NodeM.dir (x : NodeM) : Nat → Nat
  | 0 => x.d0
  | 1 => x.d1
  | 2 => x.d2
  | _ => x.d3
def NodeM.setDir (x : NodeM) (k n : Nat) : NodeM := match k with
  | 0 => { x with d0 := n }
  | 1 => { x with d1 := n }
  | 2 => { x with d2 := n }
  | _ => { x with d3 := n }
theorem NodeM.dir_set {x : NodeM} {k n j : Nat} (hk : k < 4) (hj : j < 4) : (x.setDir k n).dir j = if j = k then n else x.dir j := by
  match k, hk, j, hj with
  | 0, _, 0, _ | 0, _, 1, _ | 0, _, 2, _ | 0, _, 3, _ | 1, _, 0, _ | 1, _, 1, _ | 1, _, 2, _ | 1, _, 3, _ | 2, _, 0, _ | 2, _, 1, _ | 2, _, 2, _ | 2, _, 3, _ | 3, _, 0, _ | 3, _, 1, _ | 3, _, 2, _ | 3, _, 3, _ => rfl
/-- What fits into an inode. -/
structure NodeM.Fits (x : NodeM) : Prop where
  kind : x.kind < 256
  links : x.links < 65536
  size : x.size < 4294967296
  d0 : x.d0 < 65536
  d1 : x.d1 < 65536
  d2 : x.d2 < 65536
  d3 : x.d3 < 65536
  near : x.near < 65536
  wide : x.wide < 65536
theorem NodeM.Fits.setNear {x : NodeM} (h : x.Fits) {q : Nat} (hq : q < 65536) : ({ x with near := q } : NodeM).Fits := ⟨h.kind, h.links, h.size, h.d0, h.d1, h.d2, h.d3, hq, h.wide⟩
theorem NodeM.Fits.setWide {x : NodeM} (h : x.Fits) {q : Nat} (hq : q < 65536) : ({ x with wide := q } : NodeM).Fits := ⟨h.kind, h.links, h.size, h.d0, h.d1, h.d2, h.d3, h.near, hq⟩
theorem NodeM.Fits.setDir {x : NodeM} (h : x.Fits) {k q : Nat} (hq : q < 65536) : (x.setDir k q).Fits := by
  match k with
  | 0 => exact ⟨h.kind, h.links, h.size, hq, h.d1, h.d2, h.d3, h.near, h.wide⟩
  | 1 => exact ⟨h.kind, h.links, h.size, h.d0, hq, h.d2, h.d3, h.near, h.wide⟩
  | 2 => exact ⟨h.kind, h.links, h.size, h.d0, h.d1, hq, h.d3, h.near, h.wide⟩
  | k + 3 => exact ⟨h.kind, h.links, h.size, h.d0, h.d1, h.d2, hq, h.near, h.wide⟩
def dec (b : List UInt8) : NodeM := ⟨(b.getD 0 0).toNat, two b 1, two b 3 * 65536 + two b 5, two b 7, two b 9, two b 11, two b 13, two b 15, two b 17⟩
theorem dec_fits (b : List UInt8) : (dec b).Fits := by
  have h0 := (b.getD 0 0).toNat_lt
  have h3 := two_lt b 3
  have h5 := two_lt b 5
  exact ⟨h0, two_lt _ _, by unfold dec; simp only; omega, two_lt _ _, two_lt _ _, two_lt _ _, two_lt _ _, two_lt _ _, two_lt _ _⟩
def encB (x : NodeM) : List UInt8 :=
  lay2 (lay2 (lay2 (lay2 (lay2 (lay2 (lay2 (lay2 (lay2 ((List.replicate 32 0).set 0 (UInt8.ofNat x.kind)) 1 x.links) 3 (x.size / 65536)) 5 x.size) 7 x.d0) 9 x.d1) 11 x.d2) 13 x.d3) 15 x.near) 17 x.wide
theorem encB_length (x : NodeM) : (encB x).length = 32 := by unfold encB; simp [lay2_length]
theorem two_lay2_low (b : List UInt8) (i n : Nat) (hi : i + 1 < b.length) : two (lay2 b i n) i = n % 65536 := by
  unfold two
  rw [lay2_getD _ _ _ _ hi, lay2_getD _ _ _ _ hi, if_neg (by omega), if_pos rfl, if_pos rfl, UInt8.toNat_ofNat', UInt8.toNat_ofNat']
  show n / 256 % 256 * 256 + n % 256 = n % 65536
  omega
set_option maxRecDepth 10000 in
theorem dec_enc {x : NodeM} (h : x.Fits) : dec (encB x) = x := by
  obtain ⟨kind, links, size, d0, d1, d2, d3, near, wide⟩ := x
  obtain ⟨h1, h2, h3, h4, h5, h6, h7, h8, h9⟩ := h
  simp only at h1 h2 h3 h4 h5 h6 h7 h8 h9
  have hl : (List.replicate 32 (0 : UInt8)).length = 32 := by simp
  unfold dec encB
  generalize List.replicate 32 (0 : UInt8) = z at hl ⊢
  simp only [NodeM.mk.injEq]
  refine ⟨?_, ?_, ?_, ?_, ?_, ?_, ?_, ?_, ?_⟩
  · repeat rw [lay2_getD_lt _ _ _ _ (by simp [lay2_length, hl]) (by omega)]
    rw [getD_set8 z 0 0 _ (by omega), if_pos rfl, UInt8.toNat_ofNat_of_lt' (by show kind < 256; omega)]
  · repeat rw [two_lay2_other _ _ _ _ (by simp [lay2_length, hl]) (by omega)]
    rw [two_lay2_low _ _ _ (by simp [lay2_length, hl])]; omega
  · repeat rw [two_lay2_other _ 17 _ _ (by simp [lay2_length, hl]) (by omega)]
    repeat rw [two_lay2_other _ 15 _ _ (by simp [lay2_length, hl]) (by omega)]
    repeat rw [two_lay2_other _ 13 _ _ (by simp [lay2_length, hl]) (by omega)]
    repeat rw [two_lay2_other _ 11 _ _ (by simp [lay2_length, hl]) (by omega)]
    repeat rw [two_lay2_other _ 9 _ _ (by simp [lay2_length, hl]) (by omega)]
    repeat rw [two_lay2_other _ 7 _ _ (by simp [lay2_length, hl]) (by omega)]
    rw [two_lay2_other _ 5 3 _ (by simp [lay2_length, hl]) (by omega), two_lay2_low _ _ _ (by simp [lay2_length, hl]), two_lay2_low _ _ _ (by simp [lay2_length, hl])]
    omega
  all_goals
    repeat rw [two_lay2_other _ _ _ _ (by simp [lay2_length, hl]) (by omega)]
    rw [two_lay2_low _ _ _ (by simp [lay2_length, hl])]; omega

end Go.Proofs.YtcggloceabjjdaaGreat

/- Files of blocks, plain: where a file's blocks lie, whose they are; no program in sight. -/
namespace Go.Proofs.YtcggloceabjjdaaGreat
open Go.RowKit Go.MapKept

def updF {α : Type} (f : Nat → α) (n : Nat) (v : α) : Nat → α := fun m => if m = n then v else f m
@[simp] theorem updF_self {α : Type} (f : Nat → α) (n : Nat) (v : α) : updF f n v n = v := if_pos rfl
theorem updF_ne {α : Type} {f : Nat → α} {n m : Nat} {v : α} (h : m ≠ n) : updF f n v m = f m := if_neg h
theorem updF_id {α : Type} (f : Nat → α) (n : Nat) : updF f n (f n) = f := by
  funext m
  unfold updF
  split
  · rename_i h; rw [h]
  · rfl
theorem updF_updF {α : Type} (f : Nat → α) (n : Nat) (v u : α) : updF (updF f n v) n u = updF f n u := by
  funext m
  unfold updF
  split <;> rfl

/-- Where a file's blocks lie. -/
structure LayM where
  blk : List Nat
  near : Nat
  wide : Nat
  inner : List Nat
def LayM.own (L : LayM) : List Nat := L.blk ++ ((if 4 < L.blk.length then [L.near] else []) ++ (if 36 < L.blk.length then L.wide :: L.inner else []))
def nIn (nb : Nat) : Nat := (nb - 36 + 31) / 32
/-- How many blocks so many blocks of bytes cost. -/
def costN (nb : Nat) : Nat := nb + ((if 4 < nb then 1 else 0) + (if 36 < nb then 1 + nIn nb else 0))
theorem LayM.mem_blk {L : LayM} {k : Nat} (h : k < L.blk.length) : L.blk.getD k 0 ∈ L.own := by
  unfold LayM.own
  refine List.mem_append_left _ ?_
  rw [List.getD_eq_getElem?_getD, List.getElem?_eq_getElem h]
  exact List.getElem_mem _
theorem LayM.mem_near {L : LayM} (h : 4 < L.blk.length) : L.near ∈ L.own := by
  unfold LayM.own
  rw [if_pos h]
  simp
theorem LayM.mem_wide {L : LayM} (h : 36 < L.blk.length) : L.wide ∈ L.own := by
  unfold LayM.own
  rw [if_pos h]
  simp
theorem LayM.mem_inner {L : LayM} (h : 36 < L.blk.length) {j : Nat} (hj : j < L.inner.length) : L.inner.getD j 0 ∈ L.own := by
  unfold LayM.own
  rw [if_pos h]
  refine List.mem_append_right _ (List.mem_append_right _ (List.mem_cons_of_mem _ ?_))
  rw [List.getD_eq_getElem?_getD, List.getElem?_eq_getElem hj]
  exact List.getElem_mem _

structure LayOn (G : Nat → Sec) (x : NodeM) (L : LayM) : Prop where
  max : L.blk.length ≤ 256
  dir : ∀ k, k < 4 → k < L.blk.length → x.dir k = L.blk.getD k 0
  near : 4 < L.blk.length → x.near = L.near
  nearN : ∀ k, 4 ≤ k → k < 36 → k < L.blk.length → two (G L.near) (2 * (k - 4)) = L.blk.getD k 0
  near0 : L.blk.length ≤ 4 → x.near = 0
  wide : 36 < L.blk.length → x.wide = L.wide
  wide0 : L.blk.length ≤ 36 → x.wide = 0
  inn : L.inner.length = nIn L.blk.length
  wideN : ∀ j, j < L.inner.length → two (G L.wide) (2 * j) = L.inner.getD j 0
  innN : ∀ k, 36 ≤ k → k < L.blk.length → two (G (L.inner.getD ((k - 36) / 32) 0)) (2 * ((k - 36) % 32)) = L.blk.getD k 0
theorem LayOn.cost {G : Nat → Sec} {x : NodeM} {L : LayM} (h : LayOn G x L) : L.own.length = costN L.blk.length := by
  unfold LayM.own costN
  have := h.inn
  simp only [List.length_append]
  split <;> split <;> simp <;> omega
theorem LayOn.innLt {G : Nat → Sec} {x : NodeM} {L : LayM} (h : LayOn G x L) {k : Nat} (h1 : 36 ≤ k) (h2 : k < L.blk.length) : (k - 36) / 32 < L.inner.length := by
  rw [h.inn]; unfold nIn; omega
theorem LayOn.innPos {G : Nat → Sec} {x : NodeM} {L : LayM} (h : LayOn G x L) {j : Nat} (hj : j < L.inner.length) : 36 < L.blk.length := by
  have := h.inn; unfold nIn at this; omega
theorem LayOn.congr {G G' : Nat → Sec} {x : NodeM} {L : LayM} (h : LayOn G x L) (hG : ∀ i ∈ L.own, G' i = G i) : LayOn G' x L := by
  refine ⟨h.max, h.dir, h.near, fun k h1 h2 h3 => ?_, h.near0, h.wide, h.wide0, h.inn, fun j hj => ?_, fun k h1 h2 => ?_⟩
  · rw [hG _ (LayM.mem_near (by omega))]; exact h.nearN k h1 h2 h3
  · rw [hG _ (LayM.mem_wide (h.innPos hj))]; exact h.wideN j hj
  · rw [hG _ (LayM.mem_inner (by omega) (h.innLt h1 h2))]; exact h.innN k h1 h2

/-- The k-th 64 bytes. -/
def chunkB (B : Nat → UInt8) (k : Nat) : List UInt8 := (List.range 64).map fun i => B (64 * k + i)
theorem chunkB_length (B : Nat → UInt8) (k : Nat) : (chunkB B k).length = 64 := by simp [chunkB]
theorem chunkB_getD (B : Nat → UInt8) (k : Nat) {i : Nat} (hi : i < 64) : (chunkB B k).getD i 0 = B (64 * k + i) := by
  simp [chunkB, hi]
theorem chunk_ext {a b : List UInt8} (ha : a.length = 64) (hb : b.length = 64) (h : ∀ i, i < 64 → a.getD i 0 = b.getD i 0) : a = b := by
  apply List.ext_getElem (by rw [ha, hb])
  intro i h1 h2
  have := h i (by omega)
  simpa [List.getD_eq_getElem?_getD, h1, h2] using this
structure DataOn (G : Nat → Sec) (L : LayM) (B : Nat → UInt8) : Prop where
  at' : ∀ k, k < L.blk.length → G (L.blk.getD k 0) = chunkB B k
  tail : ∀ j, 64 * L.blk.length ≤ j → B j = 0
theorem DataOn.congr {G G' : Nat → Sec} {L : LayM} {B : Nat → UInt8} (h : DataOn G L B) (hG : ∀ i ∈ L.own, G' i = G i) : DataOn G' L B :=
  ⟨fun k hk => by rw [hG _ (LayM.mem_blk hk)]; exact h.at' k hk, h.tail⟩

/-- All files: nodes X, bytes B, layouts Ls; E: blocks that are taken and nobody's. -/
structure Core (len : Nat) (G : Nat → Sec) (X : Nat → NodeM) (B : Nat → Nat → UInt8) (Ls : Nat → LayM) (E : List Nat) : Prop where
  g64 : ∀ i, (G i).length = 64
  lay : ∀ m, m < 256 → LayOn G (X m) (Ls m)
  data : ∀ m, m < 256 → DataOn G (Ls m) (B m)
  rng : ∀ m, m < 256 → ∀ i ∈ (Ls m).own, firstB len ≤ i ∧ i < len
  nodup : ∀ m, m < 256 → (Ls m).own.Nodup
  disj : ∀ m m', m < 256 → m' < 256 → m ≠ m' → ∀ i ∈ (Ls m).own, i ∉ (Ls m').own
  eR : ∀ i ∈ E, firstB len ≤ i ∧ i < len
  eN : E.Nodup
  eD : ∀ m, m < 256 → ∀ i ∈ E, i ∉ (Ls m).own
  bits : ∀ i, firstB len ≤ i → i < len → (bitN G i = true ↔ (∃ m, m < 256 ∧ i ∈ (Ls m).own) ∨ i ∈ E)
  out : ∀ i, i < 512 * mapsN len → (i < firstB len ∨ len ≤ i) → bitN G i = false

theorem bitN_alloc' {G : Nat → Sec} {len n : Nat} (h64 : ∀ i, (G i).length = 64) (hn : firstB len ≤ n) (m : Nat) (hm : m < 512 * mapsN len) : bitN (allocG G n) m = if m = n then true else bitN G m := by
  unfold allocG
  rw [bitN_other (by unfold firstB at hn; omega), bitN_set h64]
theorem blk_alloc' {G : Nat → Sec} {len n : Nat} (h64 : ∀ i, (G i).length = 64) (hn : firstB len ≤ n) (h2 : n < len) (hb : bitN G n = false) : blkN len (allocG G n) = blkN len G - 1 := by
  have hl : n < 512 * mapsN len := by unfold mapsN; omega
  have h := cntB_put (f := bitN G) (g := bitN (allocG G n)) (m := n) (512 * mapsN len) hl (fun i hi hne => by rw [bitN_alloc' h64 hn i hi, if_neg hne])
  rw [hb, bitN_alloc' h64 hn n hl, if_pos rfl, ← usedTo_cnt, ← usedTo_cnt] at h
  unfold blkN
  simp at h
  omega
theorem blk_same {G G' : Nat → Sec} {len : Nat} (h : ∀ i, 621 + i / 512 < firstB len → G' (621 + i / 512) = G (621 + i / 512)) : blkN len G' = blkN len G := by
  unfold blkN
  have : usedTo G' (mapsN len) = usedTo G (mapsN len) := by
    rw [usedTo_cnt, usedTo_cnt]
    refine cntB_congr _ (fun i hi => ?_)
    unfold bitN
    rw [h i (by unfold firstB; omega)]
  rw [this]
theorem cntB_full {f : Nat → Bool} {a : Nat} : ∀ b, a ≤ b → (∀ i, a ≤ i → i < b → f i = true) → cntB f b = cntB f a + (b - a)
  | 0, h, _ => by obtain rfl : a = 0 := by omega
                  rfl
  | b + 1, h, hf => by
    by_cases e : a = b + 1
    · subst e; omega
    · simp only [cntB]
      rw [cntB_full b (by omega) (fun i h1 h2 => hf i h1 (by omega)), hf b (by omega) (by omega)]
      simp
      omega
/-- A block can be taken. -/
def CanTake (len : Nat) (G : Nat → Sec) : Prop := ∃ q, firstB len ≤ q ∧ q < len ∧ bitN G q = false
theorem cntB_none {f : Nat → Bool} : ∀ n, (∀ i, i < n → f i = false) → cntB f n = 0
  | 0, _ => rfl
  | n + 1, h => by simp only [cntB]; rw [cntB_none n (fun i hi => h i (by omega)), h n (by omega)]; rfl
theorem canTake_of {len : Nat} {G : Nat → Sec} (hlen : firstB len ≤ len) (hout : ∀ i, i < 512 * mapsN len → (i < firstB len ∨ len ≤ i) → bitN G i = false) (hb : 0 < blkN len G) : CanTake len G := by
  by_cases h : CanTake len G
  · exact h
  · exfalso
    have hl : len ≤ 512 * mapsN len := by unfold mapsN; omega
    have h1 : cntB (bitN G) (firstB len) = 0 := cntB_none _ (fun i hi => hout i (by omega) (.inl hi))
    have h2 := cntB_full (f := bitN G) len hlen (fun i h3 h4 => by
      cases hq : bitN G i with
      | true => rfl
      | false => exact absurd ⟨i, h3, h4, hq⟩ h)
    have h3 : cntB (bitN G) (512 * mapsN len) = cntB (bitN G) len + cntB (fun i => bitN G (len + i)) (512 * mapsN len - len) := by
      rw [← cntB_add, Nat.add_sub_cancel' hl]
    have h4 : cntB (fun i => bitN G (len + i)) (512 * mapsN len - len) = 0 := cntB_none _ (fun i hi => hout (len + i) (by omega) (.inr (by omega)))
    have h5 := usedTo_cnt G (mapsN len)
    unfold blkN at hb
    omega

section
variable {len : Nat} {G : Nat → Sec} {X : Nat → NodeM} {B : Nat → Nat → UInt8} {Ls : Nat → LayM} {E : List Nat}

/-- One file's part changes, within its own blocks and those that are nobody's. -/
theorem Core.relink (h : Core len G X B Ls E) {n : Nat} (hn : n < 256) {G' : Nat → Sec} {x : NodeM} {b : Nat → UInt8} {L : LayM} {E' : List Nat}
    (hG : ∀ i, i ∉ (Ls n).own → i ∉ E → G' i = G i) (hb : ∀ i, 621 + i / 512 < firstB len → G' (621 + i / 512) = G (621 + i / 512)) (h64 : ∀ i, (G' i).length = 64)
    (hL : LayOn G' x L) (hD : DataOn G' L b) (hN : L.own.Nodup) (hN' : E'.Nodup) (hd : ∀ i ∈ E', i ∉ L.own) (hs : ∀ i, (i ∈ L.own ∨ i ∈ E') ↔ (i ∈ (Ls n).own ∨ i ∈ E)) :
    Core len G' (updF X n x) (updF B n b) (updF Ls n L) E' := by
  have hfar : ∀ m, m < 256 → m ≠ n → ∀ i ∈ (Ls m).own, i ∉ (Ls n).own ∧ i ∉ E := fun m hm hne i hi => ⟨h.disj m n hm hn hne i hi, fun he => h.eD m hm i he hi⟩
  have hr : ∀ i, (i ∈ L.own ∨ i ∈ E') → firstB len ≤ i ∧ i < len := fun i hi => by
    rcases (hs i).1 hi with hi | hi
    · exact h.rng n hn i hi
    · exact h.eR i hi
  refine ⟨h64, fun m hm => ?_, fun m hm => ?_, fun m hm i hi => ?_, fun m hm => ?_, fun m m' hm hm' hne i hi hi' => ?_, fun i hi => hr i (.inr hi), hN', fun m hm i hi hi' => ?_, fun i h1 h2 => ?_, fun i h1 h2 => ?_⟩
  · by_cases e : m = n
    · subst e; simpa using hL
    · rw [updF_ne e, updF_ne e]
      exact (h.lay m hm).congr fun i hi => hG i (hfar m hm e i hi).1 (hfar m hm e i hi).2
  · by_cases e : m = n
    · subst e; simpa using hD
    · rw [updF_ne e, updF_ne e]
      exact (h.data m hm).congr fun i hi => hG i (hfar m hm e i hi).1 (hfar m hm e i hi).2
  · by_cases e : m = n
    · subst e; rw [updF_self] at hi; exact hr i (.inl hi)
    · rw [updF_ne e] at hi; exact h.rng m hm i hi
  · by_cases e : m = n
    · subst e; rw [updF_self]; exact hN
    · rw [updF_ne e]; exact h.nodup m hm
  · by_cases e : m = n
    · subst e
      rw [updF_self] at hi
      rw [updF_ne (Ne.symm hne)] at hi'
      have h3 := hfar m' hm' (Ne.symm hne) i hi'
      rcases (hs i).1 (.inl hi) with h4 | h4
      · exact h3.1 h4
      · exact h3.2 h4
    · rw [updF_ne e] at hi
      by_cases e' : m' = n
      · subst e'
        rw [updF_self] at hi'
        have h3 := hfar m hm e i hi
        rcases (hs i).1 (.inl hi') with h4 | h4
        · exact h3.1 h4
        · exact h3.2 h4
      · rw [updF_ne e'] at hi'
        exact h.disj m m' hm hm' hne i hi hi'
  · by_cases e : m = n
    · subst e; rw [updF_self] at hi'; exact hd i hi hi'
    · rw [updF_ne e] at hi'
      have h3 := hfar m hm e i hi'
      rcases (hs i).1 (.inr hi) with h4 | h4
      · exact h3.1 h4
      · exact h3.2 h4
  · have hbit : bitN G' i = bitN G i := by
      unfold bitN
      rw [hb i (by unfold firstB mapsN; omega)]
    rw [hbit, h.bits i h1 h2]
    constructor
    · rintro (⟨m, hm, hi⟩ | hi)
      · by_cases e : m = n
        · subst e
          rcases (hs i).2 (.inl hi) with h4 | h4
          · exact .inl ⟨m, hm, by rw [updF_self]; exact h4⟩
          · exact .inr h4
        · exact .inl ⟨m, hm, by rw [updF_ne e]; exact hi⟩
      · rcases (hs i).2 (.inr hi) with h4 | h4
        · exact .inl ⟨n, hn, by rw [updF_self]; exact h4⟩
        · exact .inr h4
    · rintro (⟨m, hm, hi⟩ | hi)
      · by_cases e : m = n
        · subst e
          rw [updF_self] at hi
          rcases (hs i).1 (.inl hi) with h4 | h4
          · exact .inl ⟨m, hm, h4⟩
          · exact .inr h4
        · rw [updF_ne e] at hi; exact .inl ⟨m, hm, hi⟩
      · rcases (hs i).1 (.inr hi) with h4 | h4
        · exact .inl ⟨n, hn, h4⟩
        · exact .inr h4
  · have hbit : bitN G' i = bitN G i := by
      unfold bitN
      rw [hb i (by unfold firstB; omega)]
    rw [hbit]
    exact h.out i h1 h2

theorem Core.free_not (h : Core len G X B Ls E) {q : Nat} (h1 : firstB len ≤ q) (h2 : q < len) (hq : bitN G q = false) : q ∉ E ∧ ∀ m, m < 256 → q ∉ (Ls m).own := by
  have := h.bits q h1 h2
  rw [hq] at this
  exact ⟨(fun he => by have := this.2 (.inr he); cases this), fun m hm he => by have := this.2 (.inl ⟨m, hm, he⟩); cases this⟩
theorem allocG_at {G : Nat → Sec} {n i : Nat} (h : i ≠ 621 + n / 512) (h2 : i ≠ n) : allocG G n i = G i := by
  unfold allocG updS
  rw [if_neg h2, if_neg h]
theorem allocG_self {G : Nat → Sec} (n : Nat) : allocG G n n = zeroSec := by unfold allocG updS; rw [if_pos rfl]
theorem freeG_at {G : Nat → Sec} {n i : Nat} (h : i ≠ 621 + n / 512) : freeG G n i = G i := by unfold freeG updS; rw [if_neg h]
/-- A block is taken. -/
theorem Core.alloc (h : Core len G X B Ls E) {q : Nat} (h1 : firstB len ≤ q) (h2 : q < len) (hq : bitN G q = false) : Core len (allocG G q) X B Ls (q :: E) := by
  obtain ⟨f1, f2⟩ := h.free_not h1 h2 hq
  have hsec : ∀ i, firstB len ≤ i → i < len → i ≠ 621 + q / 512 := fun i h3 h4 => by unfold firstB mapsN at h3; omega
  have hG : ∀ m, m < 256 → ∀ i ∈ (Ls m).own, allocG G q i = G i := fun m hm i hi => by
    have := h.rng m hm i hi
    exact allocG_at (hsec i this.1 this.2) (fun e => f2 m hm (e ▸ hi))
  refine ⟨alloc64 h.g64 q, fun m hm => (h.lay m hm).congr (hG m hm), fun m hm => (h.data m hm).congr (hG m hm), h.rng, h.nodup, h.disj, fun i hi => ?_, List.nodup_cons.2 ⟨f1, h.eN⟩, fun m hm i hi => ?_, fun i h3 h4 => ?_, fun i h3 h4 => by rw [bitN_alloc' h.g64 h1 i h3, if_neg (by omega)]; exact h.out i h3 h4⟩
  · rcases List.mem_cons.1 hi with rfl | hi
    · exact ⟨h1, h2⟩
    · exact h.eR i hi
  · rcases List.mem_cons.1 hi with rfl | hi
    · exact f2 m hm
    · exact h.eD m hm i hi
  · rw [bitN_alloc h.g64 h1 i h4]
    by_cases e : i = q
    · subst e; simp
    · rw [if_neg e, h.bits i h3 h4, List.mem_cons]
      simp [e]
/-- A block that is nobody's is given back. -/
theorem Core.free (h : Core len G X B Ls E) {q : Nat} (hq : q ∈ E) : Core len (freeG G q) X B Ls (E.erase q) := by
  have hr := h.eR q hq
  have hG : ∀ m, m < 256 → ∀ i ∈ (Ls m).own, freeG G q i = G i := fun m hm i hi => by
    have := h.rng m hm i hi
    exact freeG_at (by have := this.1; unfold firstB mapsN at this; omega)
  have hout : ∀ i, i < 512 * mapsN len → (i < firstB len ∨ len ≤ i) → bitN (freeG G q) i = false := fun i h3 h4 => by
    rw [bitN_free h.g64 i]
    by_cases e : i = q
    · rw [if_pos e]
    · rw [if_neg e]; exact h.out i h3 h4
  refine ⟨free64 h.g64 q, fun m hm => (h.lay m hm).congr (hG m hm), fun m hm => (h.data m hm).congr (hG m hm), h.rng, h.nodup, h.disj, fun i hi => h.eR i (List.mem_of_mem_erase hi), h.eN.erase _, fun m hm i hi => h.eD m hm i (List.mem_of_mem_erase hi), fun i h3 h4 => ?_, hout⟩
  rw [bitN_free h.g64 i]
  by_cases e : i = q
  · subst e
    rw [if_pos rfl]
    constructor
    · intro h; cases h
    · rintro (⟨m, hm, hi⟩ | hi)
      · exact absurd hi (h.eD m hm i hq)
      · exact absurd hi (by rw [h.eN.mem_erase_iff]; simp)
  · rw [if_neg e, h.bits i h3 h4, h.eN.mem_erase_iff]
    simp [e]
theorem Core.canTake (h : Core len G X B Ls E) (hlen : firstB len ≤ len) (hb : 0 < blkN len G) : CanTake len G := canTake_of hlen h.out hb
/-- The bytes of a block of one's own change. -/
theorem bits_upd {len i : Nat} {G : Nat → Sec} {b : Sec} (hi : firstB len ≤ i) : ∀ j, 621 + j / 512 < firstB len → updS G i b (621 + j / 512) = G (621 + j / 512) := fun j hj => by
  unfold updS
  rw [if_neg (by omega)]
end

end Go.Proofs.YtcggloceabjjdaaGreat

/- The document's space: what its calls do to the rows; no program in sight. -/
namespace Go.Proofs.YtcggloceabjjdaaGreat
open Go.RowKit Go.MapKept

section
variable {Y : Assn} {len : Nat} {bs is : List (Value × Sec)} {G G' : Nat → Sec}
theorem getD_set_self {α : Type} [Inhabited α] {xs : List α} {i : Nat} (h : i < xs.length) (v : α) : (xs.set i v).getD i default = v := by
  rw [List.getD_eq_getElem?_getD, List.getElem?_set_self h]; rfl
theorem getD_set_ne {α : Type} [Inhabited α] {xs : List α} {i j : Nat} (h : j ≠ i) (v : α) : (xs.set i v).getD j default = xs.getD j default := by
  rw [List.getD_eq_getElem?_getD, List.getElem?_set_ne (Ne.symm h), ← List.getD_eq_getElem?_getD]
theorem StOk.setB (h : StOk Y len bs is G) {i : Nat} (hi : i < bs.length) {r : Value × Sec}
    (hr : (bitN G' (firstB len + i) = false ∧ r.1 = .slice none 0 0) ∨ (bitN G' (firstB len + i) = true ∧ r.2 = G' (firstB len + i) ∧ r.2.length = 64 ∧ ∃ a c, r.1 = .slice (some a) 64 c))
    (hoth : ∀ j, j < bs.length → j ≠ i → bitN G' (firstB len + j) = bitN G (firstB len + j) ∧ G' (firstB len + j) = G (firstB len + j)) (hino : ∀ n, n < 256 → inodeB len G' n = inodeB len G n)
    (hout : ∀ m, m < 512 * mapsN len → (m < firstB len ∨ len ≤ m) → bitN G' m = false) (ht : Y.Tells (fun w => r.1 = .slice none 0 0 ∨ BytesIn w r.1 r.2)) : StOk Y len (bs.set i r) is G' := by
  refine ⟨by rw [List.length_set]; exact h.blen, h.ilen, fun j hj => ?_, fun n hn => ?_, h.iform, fun q hq => ?_, h.itell, hout⟩
  · have hj : j < bs.length := by simpa using hj
    by_cases e : j = i
    · subst e
      rw [getD_set_self hi]
      exact hr
    · rw [getD_set_ne e]
      obtain ⟨h1, h2⟩ := hoth j hj e
      rw [h1, h2]
      exact h.blk j hj
  · rw [hino n hn]; exact h.ino n hn
  · rcases List.mem_or_eq_of_mem_set hq with hq | rfl
    · exact h.btell q hq
    · exact ht
theorem StOk.len_le (h : StOk Y len bs is G) : bs.length = len - firstB len := h.blen

theorem StOk.alloc (h : StOk Y len bs is G) (hlo : 1024 ≤ len) (hhi : len ≤ 8192) (h64 : ∀ i, (G i).length = 64) {i : Nat} (hi : i < bs.length) {a : Addr} {c : Nat} (ht : Y.Tells (fun w => BytesIn w (.slice (some a) 64 c) zeroSec)) : StOk Y len (bs.set i (.slice (some a) 64 c, zeroSec)) is (allocG G (firstB len + i)) := by
  have hb := h.blen
  have hm : 621 + mapsN len + 128 = firstB len := rfl
  have hmm : len ≤ 512 * mapsN len := by unfold mapsN; omega
  have hsec : 621 + (firstB len + i) / 512 < 621 + mapsN len := map_lt (by omega)
  refine h.setB hi (.inr ⟨?_, ?_, rfl, a, c, rfl⟩) (fun j hj hne => ⟨?_, ?_⟩) (fun n hn => ?_) (fun m hm hmo => ?_) (ht.mono fun w h => .inr h)
  · rw [bitN_alloc' (len := len) h64 (by omega) (firstB len + i) (by omega), if_pos rfl]
  · simp only; unfold allocG updS; rw [if_pos rfl]
  · rw [bitN_alloc' (len := len) h64 (by omega) (firstB len + j) (by omega), if_neg (by omega)]
  · unfold allocG updS
    rw [if_neg (by omega), if_neg (by omega)]
  · have hs := iSec_lt hlo hhi hn
    have h1 : 621 + mapsN len ≤ iSec len n := by unfold iSec; omega
    unfold allocG
    rw [inodeB_other (by omega), inodeB_other (by omega)]
  · rw [bitN_alloc' (len := len) h64 (by omega) m hm, if_neg (by omega)]
    exact h.out m hm hmo
theorem StOk.free (h : StOk Y len bs is G) (hlo : 1024 ≤ len) (hhi : len ≤ 8192) (h64 : ∀ i, (G i).length = 64) {i : Nat} (hi : i < bs.length) (s : Sec) : StOk Y len (bs.set i (.slice none 0 0, s)) is (freeG G (firstB len + i)) := by
  have hb := h.blen
  have hm : 621 + mapsN len + 128 = firstB len := rfl
  have hsec : 621 + (firstB len + i) / 512 < 621 + mapsN len := map_lt (by omega)
  refine h.setB hi (.inl ⟨?_, rfl⟩) (fun j hj hne => ⟨?_, ?_⟩) (fun n hn => ?_) (fun m hm hmo => ?_) (fun _ _ => .inl rfl)
  · rw [bitN_free h64, if_pos rfl]
  · rw [bitN_free h64, if_neg (by omega)]
  · unfold freeG updS
    rw [if_neg (by omega)]
  · have hs := iSec_lt hlo hhi hn
    have h1 : 621 + mapsN len ≤ iSec len n := by unfold iSec; omega
    unfold freeG
    rw [inodeB_other (by omega)]
  · rw [bitN_free h64, if_neg (by omega)]
    exact h.out m hm hmo
theorem StOk.write (h : StOk Y len bs is G) (hlo : 1024 ≤ len) (hhi : len ≤ 8192) {i : Nat} (hi : i < bs.length) (hbit : bitN G (firstB len + i) = true) {b : Sec} (h64 : b.length = 64) {a : Addr} {c : Nat} (ht : Y.Tells (fun w => BytesIn w (.slice (some a) 64 c) b)) : StOk Y len (bs.set i (.slice (some a) 64 c, b)) is (updS G (firstB len + i) b) := by
  have hb := h.blen
  have hm : 621 + mapsN len + 128 = firstB len := rfl
  have hbo : ∀ m, m < 512 * mapsN len → bitN (updS G (firstB len + i) b) m = bitN G m := fun m hm' => bitN_other (by
    have : 621 + m / 512 < 621 + mapsN len := by omega
    omega)
  have hmm : len ≤ 512 * mapsN len := by unfold mapsN; omega
  refine h.setB hi (.inr ⟨?_, ?_, h64, a, c, rfl⟩) (fun j hj hne => ⟨?_, ?_⟩) (fun n hn => ?_) (fun m hm hmo => ?_) (ht.mono fun w h => .inr h)
  · rw [hbo _ (by omega)]; exact hbit
  · simp only; unfold updS; rw [if_pos rfl]
  · exact hbo _ (by omega)
  · unfold updS; rw [if_neg (by omega)]
  · have hs := iSec_lt hlo hhi hn
    rw [inodeB_other (by omega)]
  · rw [hbo _ hm]; exact h.out m hm hmo
theorem StOk.setI (h : StOk Y len bs is G) (hlo : 1024 ≤ len) (hhi : len ≤ 8192) (h64 : ∀ i, (G i).length = 64) {m : Nat} (hm : m < 256) {b : Sec} (hb : b.length = 32) {a : Option Addr} {c : Nat} (ht : Y.Tells (fun w => BytesIn w (.slice a b.length c) b)) : StOk Y len bs (is.set m (.slice a b.length c, b)) (updS G (iSec len m) (putAt (G (iSec len m)) (iAt m) b)) := by
  have hs := iSec_lt hlo hhi hm
  have h1 : 621 + mapsN len ≤ iSec len m := by unfold iSec; omega
  have hbl := h.blen
  have hil := h.ilen
  have hmi : m < is.length := by omega
  have hbo : ∀ j, j < 512 * mapsN len → bitN (updS G (iSec len m) (putAt (G (iSec len m)) (iAt m) b)) j = bitN G j := fun j hj => bitN_other (by
    have : 621 + j / 512 < 621 + mapsN len := by omega
    omega)
  have hmm : len ≤ 512 * mapsN len := by unfold mapsN; omega
  refine ⟨hbl, by rw [List.length_set]; exact hil, fun j hj => ?_, fun n hn => ?_, fun n hn => ?_, h.btell, fun q hq => ?_, fun j hj hjo => ?_⟩
  · rw [hbo _ (by omega)]
    have : updS G (iSec len m) (putAt (G (iSec len m)) (iAt m) b) (firstB len + j) = G (firstB len + j) := by unfold updS; rw [if_neg (by omega)]
    rw [this]
    exact h.blk j hj
  · rw [inodeB_set h64 hb]
    by_cases e : n = m
    · subst e
      rw [if_pos rfl, getD_set_self hmi]
      refine ⟨?_, .inr hb⟩
      unfold padI
      rw [if_neg (by simp only; intro e; rw [e] at hb; simp at hb)]
    · rw [if_neg e, getD_set_ne e]
      exact h.ino n hn
  · by_cases e : n = m
    · subst e
      rw [getD_set_self hmi]
      exact ⟨a, c, rfl⟩
    · rw [getD_set_ne e]
      exact h.iform n hn
  · rcases List.mem_or_eq_of_mem_set hq with hq | rfl
    · exact h.itell q hq
    · exact ht
  · rw [hbo _ hj]; exact h.out j hj hjo
end

end Go.Proofs.YtcggloceabjjdaaGreat
