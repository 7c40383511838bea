/- Texts of this claim, put together: RSW10, ADoes, RSW11, NextI, RSW12, APlaysM, RowB, Ops; no condition. -/
import Derived.Test.YtcggloceabjjdaaGreatM07294bfb30
import Derived.Test.YtcggloceabjjdaaGreatChecked
import Derived.Deep.Slices
import Derived.Deep.Fields

set_option linter.unusedSimpArgs false
set_option linter.unusedVariables false

/- Walks of the document's space, part 10: New; no condition. -/
namespace Go.Proofs.YtcggloceabjjdaaGreat
open Go.RowKit Go.MapKept

theorem StOk.fresh : StOk Assn.emp 1024 (List.replicate 273 (.slice none 0 0, [])) (List.replicate 256 (.slice none 0 0, [])) (freshF 1024) := by
  have hb := bitN_fresh 1024
  have hd : ∀ (n : Nat) k, k < n → (List.replicate n ((Value.slice none 0 0, []) : Value × Sec)).getD k default = (.slice none 0 0, []) := fun n k hk => by
    rw [List.getD_eq_getElem?_getD, List.getElem?_replicate, if_pos hk]; rfl
  refine ⟨by rw [List.length_replicate, firstB1024], List.length_replicate, fun i hi => .inl ⟨hb _, ?_⟩, fun n hn => ?_, fun n hn => ?_, fun r hr => ?_, fun r hr => ?_, fun i _ _ => hb i⟩
  · rw [hd _ _ (by rw [List.length_replicate] at hi; exact hi)]
  · rw [hd _ _ hn]
    refine ⟨?_, .inl rfl⟩
    have h1 : 621 + mapsN 1024 ≤ iSec 1024 n := by unfold iSec; omega
    unfold inodeB freshF updS
    rw [if_neg (by omega)]
    have h2 : iAt n = 0 ∨ iAt n = 32 := by unfold iAt; omega
    rcases h2 with h2 | h2 <;> rw [h2] <;> rfl
  · rw [hd _ _ hn]
    exact ⟨none, 0, rfl⟩
  · rw [List.eq_of_mem_replicate hr]
    exact fun _ _ => .inl rfl
  · rw [List.eq_of_mem_replicate hr]
    exact fun _ _ => ⟨none, 0, rfl, fun h => absurd rfl h⟩

set_option maxRecDepth 100000 in
set_option maxHeartbeats 1600000 in
theorem rsnew_any {R : Assn} {w : World} (h : Bears w R) :
    Calls Tryz.prog 7 #[.int .i64 1024] w fun e w' => ∃ y, e = .returned (.tuple #[.pointer (some ⟨y, 0, none⟩), .int .i64 0]) ∧ Bears w' (spcA y Assn.emp 1024 ⟨0, false, freshF 1024, freshF 1024⟩ * (Assn.emp * R)) := by
  have hmb : ∀ w, (Instr.makeSlice 66 (.int .i64 273) (.int .i64 273)).run Tryz.prog w = .ok (.slice (some ⟨w.heap.size, 0, none⟩) 273 273) (w.alloc (.cells ((List.replicate 273 ((Value.slice none 0 0, []) : Value × Sec)).map Prod.fst).toArray 34)) := fun w => by
    rw [List.map_replicate]
    exact run_make_rows w 273 (by omega)
  have hmi : ∀ w, (Instr.makeSlice 66 (.int .i64 256) (.int .i64 256)).run Tryz.prog w = .ok (.slice (some ⟨w.heap.size, 0, none⟩) 256 256) (w.alloc (.cells ((List.replicate 256 ((Value.slice none 0 0, []) : Value × Sec)).map Prod.fst).toArray 34)) := fun w => by
    rw [List.map_replicate]
    exact run_make_rows w 256 (by omega)
  have hmt : ∀ w, (Instr.makeSlice 40 (.int .i64 1024) (.int .i64 1024)).run Tryz.prog w = .ok (.slice (some ⟨w.heap.size, 0, none⟩) 1024 1024) (w.alloc (.cells ((List.replicate 1024 false).map Value.bool).toArray 4)) := fun w => run_make_bools w 1024 (by omega)
  have hfr := StOk.fresh
  have hbl : (List.replicate 273 ((Value.slice none 0 0, []) : Value × Sec)).length = 273 := List.length_replicate
  have hil : (List.replicate 256 ((Value.slice none 0 0, []) : Value × Sec)).length = 256 := List.length_replicate
  have htl : (List.replicate 1024 false).length = 1024 := List.length_replicate
  generalize List.replicate 273 ((Value.slice none 0 0, []) : Value × Sec) = bs at hmb hfr hbl
  generalize List.replicate 256 ((Value.slice none 0 0, []) : Value × Sec) = is at hmi hfr hil
  generalize List.replicate 1024 false = ts at hmt htl
  have Hmb := Lib.hid hmb
  have Hmi := Lib.hid hmi
  have Hmt := Lib.hid hmt
  have Hfr := Lib.hid hfr
  have Hbl := Lib.hid hbl
  have Hil := Lib.hid hil
  have Htl := Lib.hid htl
  have hfst := fun w => rfirst_any 1024 w (by omega)
  rw [first1024] at hfst
  have Hfst := Lib.hid hfst
  clear hmb hmi hmt hfr hbl hil htl hfst
  have hm1 : 273 ≤ maxLen := by unfold maxLen; omega
  have hm2 : 256 ≤ maxLen := by unfold maxLen; omega
  have hm3 : 1024 ≤ maxLen := by unfold maxLen; omega
  go_enter Tryz.func7, Tryz.ntmps7
  go_wp2_with fail
  refine (Hfst.out _).mono ?_
  rintro e w1 ⟨rfl, rfl⟩
  go_wp2_with fail
  go_cut [5] (fun v wr => ∃ q, v = .pointer (some ⟨q, 0, none⟩) ∧ Bears wr (rstA q Assn.emp 1024 (freshF 1024) * R))
  case first =>
    refine wp_region_T (fun w' => ∃ Q, Bears w' Q) (.still 0 (.still 1 (.still 2 (.both 3 (.eff 4 (.still 5 (.eff 6 (.still 7 .nil)))) 4 (.eff 3 (.still 5 (.eff 6 (.still 7 .nil)))))))) (by kernel_rfl) (by kernel_rfl) ⟨_, h.drew⟩ ?_
    have h2 := h.drew
    generalize w.drew = w2 at h2 ⊢
    have key : ∀ (a b : Nat) (w5 : World), Bears w5 (rowA 34 1 (.slice (some ⟨a, 0, none⟩) 273 273) 273 (bs.map Prod.fst) * (rowA 34 1 (.slice (some ⟨b, 0, none⟩) 256 256) 256 (is.map Prod.fst) * R)) →
        Bears (w5.alloc (.cells #[.slice (some ⟨a, 0, none⟩) 273 273, .slice (some ⟨b, 0, none⟩) 256 256] 68)) (rstA w5.heap.size Assn.emp 1024 (freshF 1024) * R) := fun a b w5 h5 => by
      have h6 := h5.alloc (.cells #[.slice (some ⟨a, 0, none⟩) 273 273, .slice (some ⟨b, 0, none⟩) 256 256] 68)
      exact Bears.rst.2 ⟨bs, is, _, _, Hfr.out, by rw [Hbl.out, Hil.out]; exact h6⟩
    refine wpT_yield (v := ?_) rfl rfl (fun w' hS => ?_) ?_
    rotate_left
    · (go_simp; try with_reducible rfl)
    try simp only [Act.put, List.setIfInBounds_toArray, List.set_cons_zero, List.set_cons_succ]
    refine wpT_yield (v := ?_) rfl rfl (fun w' hS => ?_) ?_
    rotate_left
    · (go_simp; try with_reducible rfl)
    try simp only [Act.put, List.setIfInBounds_toArray, List.set_cons_zero, List.set_cons_succ]
    refine wpT_yield (v := ?_) rfl rfl (fun w' hS => ?_) ?_
    rotate_left
    · (go_simp; try with_reducible rfl)
    try simp only [Act.put, List.setIfInBounds_toArray, List.set_cons_zero, List.set_cons_succ]
    refine wpT_both ?_ ?_
    · have h3 := newRow (e := 34) (n := 273) (xs := bs.map Prod.fst) h2 (by rw [List.length_map]; exact Hbl.out) hm1
      refine wpT_eff rfl rfl (wp_make rfl rfl rfl (Hmb.out _) ?_)
      generalize w2.alloc (.cells (bs.map Prod.fst).toArray 34) = w3 at h3 ⊢
      refine ⟨⟨_, h3⟩, ?_⟩
      try simp only [Act.put, List.setIfInBounds_toArray, List.set_cons_zero, List.set_cons_succ]
      have h4 := newRow (e := 34) (n := 256) (xs := is.map Prod.fst) h3 (by rw [List.length_map]; exact Hil.out) hm2
      refine wpT_eff rfl rfl (wp_make rfl rfl rfl (Hmi.out _) ?_)
      generalize w3.alloc (.cells (is.map Prod.fst).toArray 34) = w4 at h4 ⊢
      refine ⟨⟨_, h4⟩, ?_⟩
      try simp only [Act.put, List.setIfInBounds_toArray, List.set_cons_zero, List.set_cons_succ]
      have h5 := key _ _ _ h4.pull2
      refine wpT_yield (v := ?_) rfl rfl (fun w' hS => ?_) ?_
      rotate_left
      · (go_simp; try with_reducible rfl)
      try simp only [Act.put, List.setIfInBounds_toArray, List.set_cons_zero, List.set_cons_succ]
      refine wpT_eff rfl rfl ?_
      go_simp
      refine ⟨⟨_, h5⟩, ?_⟩
      try simp only [Act.put, List.setIfInBounds_toArray, List.set_cons_zero, List.set_cons_succ]
      refine wpT_yield (v := ?_) rfl rfl (fun w' hS => ?_) ?_
      rotate_left
      · (go_simp; try with_reducible rfl)
      try simp only [Act.put, List.setIfInBounds_toArray, List.set_cons_zero, List.set_cons_succ]
      refine wpT_nil ?_
      go_simp
      try go_wp2_with fail
      go_meet
      case rel => exact ⟨_, rfl, h5⟩
    · have h3 := newRow (e := 34) (n := 256) (xs := is.map Prod.fst) h2 (by rw [List.length_map]; exact Hil.out) hm2
      refine wpT_eff rfl rfl (wp_make rfl rfl rfl (Hmi.out _) ?_)
      generalize w2.alloc (.cells (is.map Prod.fst).toArray 34) = w3 at h3 ⊢
      refine ⟨⟨_, h3⟩, ?_⟩
      try simp only [Act.put, List.setIfInBounds_toArray, List.set_cons_zero, List.set_cons_succ]
      have h4 := newRow (e := 34) (n := 273) (xs := bs.map Prod.fst) h3 (by rw [List.length_map]; exact Hbl.out) hm1
      refine wpT_eff rfl rfl (wp_make rfl rfl rfl (Hmb.out _) ?_)
      generalize w3.alloc (.cells (bs.map Prod.fst).toArray 34) = w4 at h4 ⊢
      refine ⟨⟨_, h4⟩, ?_⟩
      try simp only [Act.put, List.setIfInBounds_toArray, List.set_cons_zero, List.set_cons_succ]
      have h5 := key _ _ _ h4
      refine wpT_yield (v := ?_) rfl rfl (fun w' hS => ?_) ?_
      rotate_left
      · (go_simp; try with_reducible rfl)
      try simp only [Act.put, List.setIfInBounds_toArray, List.set_cons_zero, List.set_cons_succ]
      refine wpT_eff rfl rfl ?_
      go_simp
      refine ⟨⟨_, h5⟩, ?_⟩
      try simp only [Act.put, List.setIfInBounds_toArray, List.set_cons_zero, List.set_cons_succ]
      refine wpT_yield (v := ?_) rfl rfl (fun w' hS => ?_) ?_
      rotate_left
      · (go_simp; try with_reducible rfl)
      try simp only [Act.put, List.setIfInBounds_toArray, List.set_cons_zero, List.set_cons_succ]
      refine wpT_nil ?_
      go_simp
      try go_wp2_with fail
      go_meet
      case rel => exact ⟨_, rfl, h5⟩
  case rest =>
    obtain ⟨q, rfl, h5⟩ := hcut
    clear h
    go_wp2_with fail
    refine wp_region_T (fun w' => ∃ Q, Bears w' Q) (.still 0 (.still 1 (.still 2 (.still 4 (.both 3 (.eff 5 (.still 6 (.eff 7 (.still 8 (.still 9 .nil))))) 5 (.eff 3 (.still 6 (.eff 7 (.still 8 (.still 9 .nil)))))))))) (by kernel_rfl) (by kernel_rfl) ⟨_, h5.drew⟩ ?_
    have h6 := h5.drew
    generalize wc.drew = w6 at h6 ⊢
    refine wpT_yield (v := ?_) rfl rfl (fun w' hS => ?_) ?_
    rotate_left
    · (go_simp; try with_reducible rfl)
    try simp only [Act.put, List.setIfInBounds_toArray, List.set_cons_zero, List.set_cons_succ]
    refine wpT_yield (v := ?_) rfl rfl (fun w' hS => ?_) ?_
    rotate_left
    · (go_simp; try with_reducible rfl)
    try simp only [Act.put, List.setIfInBounds_toArray, List.set_cons_zero, List.set_cons_succ]
    refine wpT_yield (v := ?_) rfl rfl (fun w' hS => ?_) ?_
    rotate_left
    · (go_simp; try with_reducible rfl)
    try simp only [Act.put, List.setIfInBounds_toArray, List.set_cons_zero, List.set_cons_succ]
    refine wpT_yield (v := ?_) rfl rfl (fun w' hS => ?_) ?_
    rotate_left
    · (go_simp; try with_reducible rfl)
    try simp only [Act.put, List.setIfInBounds_toArray, List.set_cons_zero, List.set_cons_succ]
    refine wpT_both ?_ ?_
    · refine wpT_eff rfl rfl ?_
      go_simp
      refine (rsclone_any h6 (by omega)).mono ?_
      rintro e w7 ⟨q', rfl, h7⟩
      refine ⟨⟨_, h7⟩, ?_⟩
      try simp only [Act.put, List.setIfInBounds_toArray, List.set_cons_zero, List.set_cons_succ]
      have h8 := newRow (e := 4) (n := 1024) (xs := ts.map Value.bool) h7 (by rw [List.length_map]; exact Htl.out) hm3
      refine wpT_eff rfl rfl (wp_make rfl rfl rfl (Hmt.out _) ?_)
      generalize w7.alloc (.cells (ts.map Value.bool).toArray 4) = w8 at h8 ⊢
      refine ⟨⟨_, h8⟩, ?_⟩
      try simp only [Act.put, List.setIfInBounds_toArray, List.set_cons_zero, List.set_cons_succ]
      refine wpT_yield (v := ?_) rfl rfl (fun w' hS => ?_) ?_
      rotate_left
      · (go_simp; try with_reducible rfl)
      try simp only [Act.put, List.setIfInBounds_toArray, List.set_cons_zero, List.set_cons_succ]
      have h9 := h8.alloc (.cells #[.int .i64 751, .pointer (some ⟨q, 0, none⟩), .pointer (some ⟨q', 0, none⟩), .bool false, .slice (some ⟨w7.heap.size, 0, none⟩) 1024 1024, .int .i64 0] 42)
      refine wpT_eff rfl rfl ?_
      go_simp
      refine ⟨⟨_, h9⟩, ?_⟩
      try simp only [Act.put, List.setIfInBounds_toArray, List.set_cons_zero, List.set_cons_succ]
      refine wpT_yield (v := ?_) rfl rfl (fun w' hS => ?_) ?_
      rotate_left
      · (go_simp; try with_reducible rfl)
      try simp only [Act.put, List.setIfInBounds_toArray, List.set_cons_zero, List.set_cons_succ]
      refine wpT_yield (v := ?_) rfl rfl (fun w' hS => ?_) ?_
      rotate_left
      · (go_simp; try with_reducible rfl)
      try simp only [Act.put, List.setIfInBounds_toArray, List.set_cons_zero, List.set_cons_succ]
      refine wpT_nil ?_
      go_simp
      try go_wp2_with fail
      go_ret2
      refine ⟨_, rfl, Bears.spc.2 ⟨q, q', .slice (some ⟨w7.heap.size, 0, none⟩) 1024 1024, ts, Htl.out, ?_⟩⟩
      rw [firstB1024, Assn.emp_mul]
      exact h9.c34
    · have h7 := newRow (e := 4) (n := 1024) (xs := ts.map Value.bool) h6 (by rw [List.length_map]; exact Htl.out) hm3
      refine wpT_eff rfl rfl (wp_make rfl rfl rfl (Hmt.out _) ?_)
      generalize w6.alloc (.cells (ts.map Value.bool).toArray 4) = w7 at h7 ⊢
      refine ⟨⟨_, h7⟩, ?_⟩
      try simp only [Act.put, List.setIfInBounds_toArray, List.set_cons_zero, List.set_cons_succ]
      refine wpT_eff rfl rfl ?_
      go_simp
      refine (rsclone_any h7.pull2 (by omega)).mono ?_
      rintro e w8 ⟨q', rfl, h8⟩
      refine ⟨⟨_, h8⟩, ?_⟩
      try simp only [Act.put, List.setIfInBounds_toArray, List.set_cons_zero, List.set_cons_succ]
      refine wpT_yield (v := ?_) rfl rfl (fun w' hS => ?_) ?_
      rotate_left
      · (go_simp; try with_reducible rfl)
      try simp only [Act.put, List.setIfInBounds_toArray, List.set_cons_zero, List.set_cons_succ]
      have h9 := h8.alloc (.cells #[.int .i64 751, .pointer (some ⟨q, 0, none⟩), .pointer (some ⟨q', 0, none⟩), .bool false, .slice (some ⟨w6.heap.size, 0, none⟩) 1024 1024, .int .i64 0] 42)
      refine wpT_eff rfl rfl ?_
      go_simp
      refine ⟨⟨_, h9⟩, ?_⟩
      try simp only [Act.put, List.setIfInBounds_toArray, List.set_cons_zero, List.set_cons_succ]
      refine wpT_yield (v := ?_) rfl rfl (fun w' hS => ?_) ?_
      rotate_left
      · (go_simp; try with_reducible rfl)
      try simp only [Act.put, List.setIfInBounds_toArray, List.set_cons_zero, List.set_cons_succ]
      refine wpT_yield (v := ?_) rfl rfl (fun w' hS => ?_) ?_
      rotate_left
      · (go_simp; try with_reducible rfl)
      try simp only [Act.put, List.setIfInBounds_toArray, List.set_cons_zero, List.set_cons_succ]
      refine wpT_nil ?_
      go_simp
      try go_wp2_with fail
      go_ret2
      refine ⟨_, rfl, Bears.spc.2 ⟨q, q', .slice (some ⟨w6.heap.size, 0, none⟩) 1024 1024, ts, Htl.out, ?_⟩⟩
      rw [firstB1024, Assn.emp_mul]
      exact h9.pull4.pull2.c34

end Go.Proofs.YtcggloceabjjdaaGreat

/- The space's statements: a call of the program; no condition. -/
namespace Go.Proofs.YtcggloceabjjdaaGreat
open Go.RowKit Go.MapKept

/-- What a call answers, as a value. -/
abbrev toldV (t : Told) : Value := .agg #[.int .i64 t.n, strV t.b, .int .i64 t.e]
def blockN (n : Int) : Int := if 0 ≤ n ∧ n < 400 then 751 + n else n
set_option maxHeartbeats 400000 in
theorem block4_any (n : Int) (w : World) (hn : -9223372036854775808 ≤ n ∧ n ≤ 9223372036854775807) :
    Calls Tryz.prog 43 #[.int .i64 n] w fun e w' => e = .returned (.int .i64 (blockN n)) ∧ w = w' := by
  unfold blockN
  by_cases h1 : 0 ≤ n
  · by_cases h2 : n < 400
    · rw [if_pos ⟨h1, h2⟩]
      have d1 : decide (n ≥ 0) = true := decide_eq_true h1
      have d2 : decide (n < 400) = true := decide_eq_true h2
      go_enter Tryz.func43, Tryz.ntmps43
      go_wp2
      go_ret
      exact ⟨rfl, rfl⟩
    · rw [if_neg (fun h => h2 h.2)]
      have d1 : decide (n ≥ 0) = true := decide_eq_true h1
      have d2 : decide (n < 400) = false := decide_eq_false h2
      go_enter Tryz.func43, Tryz.ntmps43
      go_wp2
      go_ret
      exact ⟨rfl, rfl⟩
  · rw [if_neg (fun h => h1 h.1)]
    have d1 : decide (n ≥ 0) = false := decide_eq_false h1
    go_enter Tryz.func43, Tryz.ntmps43
    go_wp2
    go_ret
    exact ⟨rfl, rfl⟩

def SpM.does (len : Nat) (S : SpM) (kk : Nat) (n : Int) (b : List UInt8) : Told × SpM := match kk with
  | 0 | 1 => S.alloc len
  | 2 => S.free len (blockN n)
  | 3 => S.write len (blockN n) b
  | 4 => (S.read len (blockN n), S)
  | 5 | 6 => S.setInode len n b
  | 7 => (S.inode len n, S)
  | 8 => S.begins
  | 9 => S.commit
  | 10 => S.abort
  | _ => (⟨0, [], 0⟩, S)

section
variable {len : Nat} {S S' : SpM} {t : Told} {n : Int} {b : List UInt8}
theorem alloc_told (h : S.alloc len = (t, S')) : t.b = [] := by
  unfold SpM.alloc at h
  split at h
  · split at h <;> simp only [Prod.mk.injEq] at h <;> rw [← h.1]
  · simp only [Prod.mk.injEq] at h; rw [← h.1]
theorem free_told (h : S.free len n = (t, S')) : t.b = [] ∧ t.n = 0 := by
  unfold SpM.free at h
  split at h
  · split at h <;> simp only [Prod.mk.injEq] at h <;> rw [← h.1] <;> exact ⟨rfl, rfl⟩
  · simp only [Prod.mk.injEq] at h; rw [← h.1]; exact ⟨rfl, rfl⟩
theorem write_told (h : S.write len n b = (t, S')) : t.b = [] ∧ t.n = 0 := by
  unfold SpM.write at h
  split at h
  · split at h <;> simp only [Prod.mk.injEq] at h <;> rw [← h.1] <;> exact ⟨rfl, rfl⟩
  · simp only [Prod.mk.injEq] at h; rw [← h.1]; exact ⟨rfl, rfl⟩
theorem setInode_told (h : S.setInode len n b = (t, S')) : t.b = [] ∧ t.n = 0 := by
  unfold SpM.setInode at h
  split at h
  · split at h <;> simp only [Prod.mk.injEq] at h <;> rw [← h.1] <;> exact ⟨rfl, rfl⟩
  · simp only [Prod.mk.injEq] at h; rw [← h.1]; exact ⟨rfl, rfl⟩
theorem read_told : (S.read len n).n = 0 := by unfold SpM.read; split <;> rfl
theorem inode_told : (S.inode len n).n = 0 := by unfold SpM.inode; split <;> rfl
theorem begins_told (h : S.begins = (t, S')) : t.b = [] ∧ t.n = 0 := by
  unfold SpM.begins at h
  split at h <;> simp only [Prod.mk.injEq] at h <;> rw [← h.1] <;> exact ⟨rfl, rfl⟩
theorem commit_told (h : S.commit = (t, S')) : t.b = [] ∧ t.n = 0 := by
  unfold SpM.commit at h
  split at h <;> simp only [Prod.mk.injEq] at h <;> rw [← h.1] <;> exact ⟨rfl, rfl⟩
theorem abort_told (h : S.abort = (t, S')) : t.b = [] ∧ t.n = 0 := by
  unfold SpM.abort at h
  split at h <;> simp only [Prod.mk.injEq] at h <;> rw [← h.1] <;> exact ⟨rfl, rfl⟩
end

set_option maxRecDepth 100000 in
set_option maxHeartbeats 4000000 in
theorem does4_any {s p : Nat} {d : DiskM} {k : List Nat} {S : SpM} {R : Assn} {w : World} (h : Bears w (stA s p d 1024 k S * R)) (hf : d.fuse = -1) (hg : S.g < 4611686018427387904) (kd n : Int)
    (hkd : -9223372036854775808 ≤ kd ∧ kd ≤ 9223372036854775807) (hn : -9223372036854775808 ≤ n ∧ n ≤ 9223372036854775807) {b : List UInt8} {ad : Option Addr} {bn cap : Nat} (hb : R.Tells (fun w => BytesIn w (.slice ad bn cap) b)) (hbl : b.length ≤ 140737488355328)
    {kk : Nat} (hkk : kk < 12) (hkv : (if kd < 0 then (-(kd + 1)) % 12 else kd % 12) = (kk : Int)) {t : Told} {S' : SpM} (hs : S.does 1024 kk n b = (t, S')) :
    Calls Tryz.prog 12 #[.pointer (some ⟨s, 0, none⟩), .agg #[.int .i64 kd, .int .i64 n, .slice ad bn cap]] w fun e w' => ∃ d', e = .returned (toldV t) ∧ d'.fuse = -1 ∧ Bears w' (stA s p d' 1024 (outL 1024) S' * R) := by
  have h1 := h.alloc (.cells #[.int .i64 kd, .int .i64 n, .slice ad bn cap] 36)
  have h2 := h1.alloc (.cells #[.int .i64 0, .string ⟨#[]⟩, .int .i64 0] 45)
  have h3 := h2.alloc (.cells #[] 5)
  have Hkv := Lib.hid hkv
  clear hkv
  have hsz : ∀ (w : World) o, (w.alloc o).heap.size = w.heap.size + 1 := fun w o => Array.size_push _
  have Hsz := Lib.hid hsz
  clear hsz
  go_enter Tryz.func12, Tryz.ntmps12
  go_wp2_with (at_builtin; go_loud (refine wpList_append_fresh h3 rfl rfl rfl rfl (hb _ h3.right.right.right.right) hbl ?_); intro oa oc w4 h4; simp only [Hsz.out] at h4; have h5 := h4.alloc (.cells #[.int .i64 0, .string ⟨#[]⟩, .int .i64 0] 45); have q0 := cell_of_obj h5.pull5.obj 0; have q1 := cell_of_obj h5.pull5.obj 1; have q2 := cell_of_obj h5.pull5.obj 2; simp only [List.getElem?_toArray, List.getElem?_cons_zero, List.getElem?_cons_succ] at q0 q1 q2)
  refine (kind4_any kd 12 _ hkd (by omega)).mono ?_
  rintro e w5 ⟨rfl, rfl⟩
  rw [Hkv.out]
  have h6 := h5.pull3.right.pull4.right.pull4
  obtain ⟨RR, hRR⟩ : ∃ RR, Assn.obj (w.heap.size + 1) (.cells #[.int .i64 0, .string ⟨#[]⟩, .int .i64 0] 45 (0, 0)) * R = RR := ⟨_, rfl⟩
  rw [hRR] at h6
  have HRR := Lib.hid hRR
  have tb : (Assn.obj w4.heap.size (.cells #[.int .i64 0, .string ⟨#[]⟩, .int .i64 0] 45 (0, 0)) * (bufA (.slice oa bn oc) b * RR)).Tells (fun w => BytesIn w (.slice oa bn oc) b) := buf_tells.right
  clear hRR h h1 h2 h3 h4 h5
  go_upto_block 0 with (fail)
  go_cut [7] (fun v wr => ∃ d' ad' l' c', v = .slice ad' l' c' ∧ d'.fuse = -1 ∧ Bears wr (bufA (.slice ad' l' c') t.b * (stA s p d' 1024 (outL 1024) S' * (Assn.obj w4.heap.size (.cells #[.int .i64 t.n, .string ⟨#[]⟩, .int .i64 t.e] 45 (0, 0)) * (bufA (.slice oa bn oc) b * RR)))))
  case first =>
    match kk, hkk, hs with
    | 0, _, hs | 1, _, hs =>
      have ht := alloc_told hs
      have Hs := Lib.hid hs
      have Ht := Lib.hid ht
      clear hs ht
      go_wp2_with fail
      refine (alloc_st h6 Hs.out).mono ?_
      rintro e w7 ⟨rfl, h8⟩
      have c0 := cell_of_obj h8.pull2.obj 0
      have f0 := frozen_of_obj h8.pull2.obj 0
      have c2 := cell_of_obj h8.pull2.obj 2
      have f2 := frozen_of_obj h8.pull2.obj 2
      simp only [List.getElem?_toArray, List.getElem?_cons_zero, List.getElem?_cons_succ] at c0 c2
      have h9 := (h8.pull2.setCell (i := 0) (.int .i64 t.n)).setCell (i := 2) (.int .i64 t.e)
      go_wp2_with fail
      go_meet
      case rel => exact ⟨d, none, 0, 0, rfl, hf, by rw [Ht.out]; exact h9.pull2.bufNil⟩
    | 2, _, hs =>
      have ht := free_told hs
      have Hs := Lib.hid hs
      have Ht := Lib.hid ht
      clear hs ht
      go_wp2_with fail
      refine (block4_any n _ hn).mono ?_
      rintro e w' ⟨rfl, rfl⟩
      go_wp2_with fail
      refine (free_st h6 _ Hs.out).mono ?_
      rintro e w7 ⟨rfl, h8⟩
      have c2 := cell_of_obj h8.pull2.obj 2
      have f2 := frozen_of_obj h8.pull2.obj 2
      simp only [List.getElem?_toArray, List.getElem?_cons_zero, List.getElem?_cons_succ] at c2
      have h9 := h8.pull2.setCell (i := 2) (.int .i64 t.e)
      go_wp2_with fail
      go_meet
      case rel => exact ⟨d, none, 0, 0, rfl, hf, by rw [Ht.out.1, Ht.out.2]; exact h9.pull2.bufNil⟩
    | 3, _, hs =>
      have ht := write_told hs
      have Hs := Lib.hid hs
      have Ht := Lib.hid ht
      clear hs ht
      go_wp2_with fail
      refine (block4_any n _ hn).mono ?_
      rintro e w' ⟨rfl, rfl⟩
      go_wp2_with fail
      refine (write_st h6 _ tb Hs.out).mono ?_
      rintro e w7 ⟨rfl, h8⟩
      have c2 := cell_of_obj h8.pull2.obj 2
      have f2 := frozen_of_obj h8.pull2.obj 2
      simp only [List.getElem?_toArray, List.getElem?_cons_zero, List.getElem?_cons_succ] at c2
      have h9 := h8.pull2.setCell (i := 2) (.int .i64 t.e)
      go_wp2_with fail
      go_meet
      case rel => exact ⟨d, none, 0, 0, rfl, hf, by rw [Ht.out.1, Ht.out.2]; exact h9.pull2.bufNil⟩
    | 4, _, hs =>
      obtain ⟨rfl, rfl⟩ : _ = t ∧ S = S' := by simpa [SpM.does] using hs
      have Ht := Lib.hid (read_told (len := 1024) (S := S) (n := blockN n))
      clear hs
      go_wp2_with fail
      refine (block4_any n _ hn).mono ?_
      rintro e w' ⟨rfl, rfl⟩
      go_wp2_with fail
      refine (read_st h6 _ rfl).mono ?_
      rintro e w7 ⟨ad', l', c', rfl, h8⟩
      have c2 := cell_of_obj h8.pull3.obj 2
      have f2 := frozen_of_obj h8.pull3.obj 2
      simp only [List.getElem?_toArray, List.getElem?_cons_zero, List.getElem?_cons_succ] at c2
      have h9 := h8.pull3.setCell (i := 2) (.int .i64 (S.read 1024 (blockN n)).e)
      go_wp2_with fail
      go_meet
      case rel => exact ⟨d, _, _, _, rfl, hf, by rw [Ht.out]; exact h9.push3⟩
    | 5, _, hs | 6, _, hs =>
      have ht := setInode_told hs
      have Hs := Lib.hid hs
      have Ht := Lib.hid ht
      clear hs ht
      go_wp2_with fail
      refine (setinode_st h6 _ tb Hs.out).mono ?_
      rintro e w7 ⟨rfl, h8⟩
      have c2 := cell_of_obj h8.pull2.obj 2
      have f2 := frozen_of_obj h8.pull2.obj 2
      simp only [List.getElem?_toArray, List.getElem?_cons_zero, List.getElem?_cons_succ] at c2
      have h9 := h8.pull2.setCell (i := 2) (.int .i64 t.e)
      go_wp2_with fail
      go_meet
      case rel => exact ⟨d, none, 0, 0, rfl, hf, by rw [Ht.out.1, Ht.out.2]; exact h9.pull2.bufNil⟩
    | 7, _, hs =>
      obtain ⟨rfl, rfl⟩ : _ = t ∧ S = S' := by simpa [SpM.does] using hs
      have Ht := Lib.hid (inode_told (len := 1024) (S := S) (n := n))
      clear hs
      go_wp2_with fail
      refine (inode_st h6 _ rfl).mono ?_
      rintro e w7 ⟨ad', l', c', rfl, h8⟩
      have c2 := cell_of_obj h8.pull3.obj 2
      have f2 := frozen_of_obj h8.pull3.obj 2
      simp only [List.getElem?_toArray, List.getElem?_cons_zero, List.getElem?_cons_succ] at c2
      have h9 := h8.pull3.setCell (i := 2) (.int .i64 (S.inode 1024 n).e)
      go_wp2_with fail
      go_meet
      case rel => exact ⟨d, _, _, _, rfl, hf, by rw [Ht.out]; exact h9.push3⟩
    | 8, _, hs =>
      have ht := begins_told hs
      have Hs := Lib.hid hs
      have Ht := Lib.hid ht
      clear hs ht
      go_wp2_with fail
      refine (begin_st h6 Hs.out).mono ?_
      rintro e w7 ⟨rfl, h8⟩
      have c2 := cell_of_obj h8.pull2.obj 2
      have f2 := frozen_of_obj h8.pull2.obj 2
      simp only [List.getElem?_toArray, List.getElem?_cons_zero, List.getElem?_cons_succ] at c2
      have h9 := h8.pull2.setCell (i := 2) (.int .i64 t.e)
      go_wp2_with fail
      go_meet
      case rel => exact ⟨d, none, 0, 0, rfl, hf, by rw [Ht.out.1, Ht.out.2]; exact h9.pull2.bufNil⟩
    | 9, _, hs =>
      have ht := commit_told hs
      have Hs := Lib.hid hs
      have Ht := Lib.hid ht
      clear hs ht
      go_wp2_with fail
      refine (commit_st h6 (by omega) hf hg Hs.out).mono ?_
      rintro e w7 ⟨d', rfl, hf', h8⟩
      have c2 := cell_of_obj h8.pull2.obj 2
      have f2 := frozen_of_obj h8.pull2.obj 2
      simp only [List.getElem?_toArray, List.getElem?_cons_zero, List.getElem?_cons_succ] at c2
      have h9 := h8.pull2.setCell (i := 2) (.int .i64 t.e)
      go_wp2_with fail
      go_meet
      case rel => exact ⟨d', none, 0, 0, rfl, hf', by rw [Ht.out.1, Ht.out.2]; exact h9.pull2.bufNil⟩
    | 10, _, hs =>
      have ht := abort_told hs
      have Hs := Lib.hid hs
      have Ht := Lib.hid ht
      clear hs ht
      go_wp2_with fail
      refine (abort_st h6 Hs.out).mono ?_
      rintro e w7 ⟨rfl, h8⟩
      have c2 := cell_of_obj h8.pull2.obj 2
      have f2 := frozen_of_obj h8.pull2.obj 2
      simp only [List.getElem?_toArray, List.getElem?_cons_zero, List.getElem?_cons_succ] at c2
      have h9 := h8.pull2.setCell (i := 2) (.int .i64 t.e)
      go_wp2_with fail
      go_meet
      case rel => exact ⟨d, none, 0, 0, rfl, hf, by rw [Ht.out.1, Ht.out.2]; exact h9.pull2.bufNil⟩
    | 11, _, hs =>
      obtain ⟨rfl, rfl⟩ : (⟨0, [], 0⟩ : Told) = t ∧ S = S' := by simpa [SpM.does] using hs
      clear hs
      go_wp2_with fail
      go_meet
      case rel => exact ⟨d, none, 0, 0, rfl, hf, h6.stLeast.bufNil⟩
    | n + 12, h, _ => exact absurd h (by omega)
  case rest =>
    obtain ⟨d', ad', l', c', rfl, hf', h7⟩ := hcut
    have hbn : bn ≤ 140737488355328 := by rw [h7.pull4.bufLen]; exact hbl
    clear h6
    go_upto_block 1 with (fail)
    go_cut [8] (fun _ wr => ∃ lo, Bears wr (bufA (.slice oa bn oc) lo * (bufA (.slice ad' l' c') t.b * (stA s p d' 1024 (outL 1024) S' * (Assn.obj w4.heap.size (.cells #[.int .i64 t.n, .string ⟨#[]⟩, .int .i64 t.e] 45 (0, 0)) * RR)))))
    case first =>
      go_wp2_with fail
      go_loopw [8] (fun i wr => ∃ j : Nat, j ≤ bn ∧ i = .int .i64 j ∧ ∃ lo : List UInt8, lo.length = bn ∧ Bears wr (bufA (.slice oa bn oc) lo * (bufA (.slice ad' l' c') t.b * (stA s p d' 1024 (outL 1024) S' * (Assn.obj w4.heap.size (.cells #[.int .i64 t.n, .string ⟨#[]⟩, .int .i64 t.e] 45 (0, 0)) * RR))))) (fun i _ => bn - (intOf i).toNat)
      case atStart => exact ⟨0, by omega, rfl, b, h7.pull4.bufLen.symm, h7.pull4⟩
      case round =>
        clear h7
        obtain ⟨j, hj, rfl, lo, hlo, h8⟩ := hrel
        by_cases hlt : j < bn
        · obtain ⟨g, o, rfl, hc, hfz, hset⟩ := h8.bufAt (j := j) (by omega)
          have h9 : Bears (wr.setCell ⟨g, o + j, none⟩ (.int .u8 99)) _ := hset 99
          have hl2 : (lo.set j 99).length = bn := by simpa using hlo
          generalize lo.getD j 0 = old at hc
          generalize lo.set j 99 = lo2 at h9 hl2
          have Hl2 := Lib.hid hl2
          unfold byteV at hc
          clear hset h8 hl2 hlo
          go_wp2_with fail
          go_roundw
          case rel => exact ⟨j + 1, hlt, by go_num, lo2, Hl2.out, h9⟩
          case measure => simp [intOf]; omega
        · go_wp2_with fail
          go_meet
          case rel => exact ⟨lo, h8⟩
    case rest =>
      obtain ⟨lo, h8⟩ := hcut
      have hb8 := buf_tells _ h8.right
      have hl8 : l' = t.b.length := h8.right.bufLen
      have c1 := cell_of_obj h8.pull4.obj 1
      have f1 := frozen_of_obj h8.pull4.obj 1
      simp only [List.getElem?_toArray, List.getElem?_cons_zero, List.getElem?_cons_succ] at c1
      have h9 : Bears (wc.setCell ⟨w4.heap.size, 1, none⟩ (strV t.b)) (Assn.obj w4.heap.size (.cells #[.int .i64 t.n, strV t.b, .int .i64 t.e] 45 (0, 0)) * _) := h8.pull4.setCell (i := 1) (strV t.b)
      have hbig : t.b.length ≤ 9223372036854775807 := by have := h8.right.bufMax; unfold maxLen at this; omega
      have Hl8 := Lib.hid hl8
      clear hl8 h7
      go_wp2_with (refine wpList_op rfl (exec_convert rfl rfl (run_convert_in hb8)) ?_)
      go_loopw [9] (fun i wr => ∃ j : Nat, j ≤ l' ∧ i = .int .i64 j ∧ ∃ lb : List UInt8, lb.length = l' ∧ Bears wr (bufA (.slice ad' l' c') lb * (Assn.obj w4.heap.size (.cells #[.int .i64 t.n, strV t.b, .int .i64 t.e] 45 (0, 0)) * (stA s p d' 1024 (outL 1024) S' * RR)))) (fun i _ => l' - (intOf i).toNat)
      case atStart => exact ⟨0, by omega, rfl, t.b, Hl8.out.symm, h9.pull2.right.pull2⟩
      case round =>
        obtain ⟨j, hj, rfl, lb, hlb, h10⟩ := hrel
        by_cases hlt : j < l'
        · obtain ⟨g, o, rfl, hc, hfz, hset⟩ := h10.bufAt (j := j) (by omega)
          have h11 : Bears (wr.setCell ⟨g, o + j, none⟩ (.int .u8 98)) _ := hset 98
          have hl2 : (lb.set j 98).length = l' := by simpa using hlb
          have hl' : l' ≤ 9223372036854775807 := by rw [Hl8.out]; exact hbig
          generalize lb.getD j 0 = old at hc
          generalize lb.set j 98 = lb2 at h11 hl2
          have Hl2 := Lib.hid hl2
          unfold byteV at hc
          clear hset h10 hl2 hlb h8 h9 hb8 c1 f1
          go_wp2_with fail
          go_roundw
          case rel => exact ⟨j + 1, hlt, by go_num, lb2, Hl2.out, h11⟩
          case measure => simp [intOf]; omega
        · have d0 := cell_of_obj h10.pull2.obj 0
          have d1 := cell_of_obj h10.pull2.obj 1
          have d2 := cell_of_obj h10.pull2.obj 2
          simp only [List.getElem?_toArray, List.getElem?_cons_zero, List.getElem?_cons_succ] at d0 d1 d2
          have h12 := h10.pull2.right.right
          rw [← HRR.out] at h12
          have h13 := h12.pull2
          clear h8 h9 hb8 c1 f1 h10
          go_wp2_with (refine wpList_store_obj h13 rfl rfl rfl rfl rfl (by kernel_rfl) (by intro v hv; simp at hv; rcases hv with rfl | rfl | rfl <;> rfl) ?_; intro w14 h14)
          have hr := rangeAt_of_obj h14.obj
          refine bodyPost_ret (results_cell rfl _ rfl (run_loadVar_mid w14 (w.heap.size + 1) 0 45 [.int .i64 t.n, strV t.b, .int .i64 t.e] _ hr Tryz.underlying45 rfl (by kernel_rfl))) rfl ?_
          exact ⟨d', rfl, hf', h14.right⟩

end Go.Proofs.YtcggloceabjjdaaGreat

/- The document's space: a call of it; no condition. -/
namespace Go.Proofs.YtcggloceabjjdaaGreat
open Go.RowKit Go.MapKept

section
variable {y len : Nat} {Y R : Assn} {S S' : SpM} {w : World}
theorem Bears.spcNone (h : Bears w (spcA y Y len S * (Y * R))) : ∃ Z, Bears w (spcA y (Z * Y) len S * ((Z * Y) * R)) := ⟨Assn.emp, by rw [Assn.emp_mul]; exact h⟩

set_option maxRecDepth 100000 in
set_option maxHeartbeats 4000000 in
theorem plays4_any (h : Bears w (spcA y Y 1024 S * (Y * R))) (h64 : ∀ i, (S.G i).length = 64) (hg : S.g < 4611686018427387904) (kd n : Int)
    (hkd : -9223372036854775808 ≤ kd ∧ kd ≤ 9223372036854775807) (hn : -9223372036854775808 ≤ n ∧ n ≤ 9223372036854775807) {b : List UInt8} {ad : Option Addr} {bn cap : Nat} (hb : (Y * R).Tells (fun w => BytesIn w (.slice ad bn cap) b))
    {kk : Nat} (hkk : kk < 12) (hkv : (if kd < 0 then (-(kd + 1)) % 12 else kd % 12) = (kk : Int)) {t : Told} (hs : S.does 1024 kk n b = (t, S')) :
    Calls Tryz.prog 13 #[.pointer (some ⟨y, 0, none⟩), .agg #[.int .i64 kd, .int .i64 n, .slice ad bn cap]] w fun e w' => e = .returned (toldV t) ∧ ∃ Z, Bears w' (spcA y (Z * Y) 1024 S' * ((Z * Y) * R)) := by
  have hbk : -9223372036854775808 ≤ blockN n ∧ blockN n ≤ 9223372036854775807 := by unfold blockN; split <;> omega
  have h1 := h.alloc (.cells #[.int .i64 kd, .int .i64 n, .slice ad bn cap] 36)
  have h2 := h1.alloc (.cells #[.int .i64 0, .string ⟨#[]⟩, .int .i64 0] 45)
  have h3 := h2.alloc (.cells #[.int .i64 0, .string ⟨#[]⟩, .int .i64 0] 45)
  have hsz : ∀ (w : World) o, (w.alloc o).heap.size = w.heap.size + 1 := fun w o => Array.size_push _
  simp only [hsz] at h2 h3
  have Hkv := Lib.hid hkv
  have Hbk := Lib.hid hbk
  have H64 := Lib.hid h64
  clear hkv hsz hbk h64
  have h6 := h3.push4
  have h6 := (h6.cast (by ac_rfl) : Bears _ (spcA y Y 1024 S * (Y * (Assn.obj (w.heap.size + 1 + 1) (.cells #[.int .i64 0, .string ⟨#[]⟩, .int .i64 0] 45 (0, 0)) * (Assn.obj (w.heap.size + 1) (.cells #[.int .i64 0, .string ⟨#[]⟩, .int .i64 0] 45 (0, 0)) * (Assn.obj w.heap.size (.cells #[.int .i64 kd, .int .i64 n, .slice ad bn cap] 36 (0, 0)) * R))))))
  obtain ⟨RR, hRR⟩ : ∃ RR, Assn.obj (w.heap.size + 1) (.cells #[.int .i64 0, .string ⟨#[]⟩, .int .i64 0] 45 (0, 0)) * (Assn.obj w.heap.size (.cells #[.int .i64 kd, .int .i64 n, .slice ad bn cap] 36 (0, 0)) * R) = RR := ⟨_, rfl⟩
  rw [hRR] at h6
  have hb6 : (Y * (Assn.obj (w.heap.size + 1 + 1) (.cells #[.int .i64 0, .string ⟨#[]⟩, .int .i64 0] 45 (0, 0)) * RR)).Tells (fun w => BytesIn w (.slice ad bn cap) b) := fun w hw => by
    rw [← hRR] at hw
    exact hb w hw.pull4.right.pull2.right.pull2.right
  have HRR := Lib.hid hRR
  clear h h1 h2 h3 hb hRR
  go_enter Tryz.func13, Tryz.ntmps13
  go_wp2_with fail
  refine (kind4_any kd 12 _ hkd (by omega)).mono ?_
  rintro e w5 ⟨rfl, rfl⟩
  rw [Hkv.out]
  have b1 := Hbk.out
  go_upto_block 0 with (fail)
  go_cut [6] (fun v wr => ∃ Z ad' l' c', v = .slice ad' l' c' ∧ Bears wr (bufA (.slice ad' l' c') t.b * (spcA y (Z * Y) 1024 S' * ((Z * Y) * (Assn.obj (w.heap.size + 1 + 1) (.cells #[.int .i64 t.n, .string ⟨#[]⟩, .int .i64 t.e] 45 (0, 0)) * RR)))))
  case first =>
    match kk, hkk, hs with
    | 0, _, hs | 1, _, hs =>
      have ht := alloc_told hs
      have Hs := Lib.hid hs
      have Ht := Lib.hid ht
      clear hs ht
      go_wp2_with fail
      refine (rsalloc_any h6 (by omega) (by omega) H64.out Hs.out).mono ?_
      rintro e w7 ⟨rfl, Z, h8⟩
      have c0 := cell_of_obj h8.pull3.obj 0
      have f0 := frozen_of_obj h8.pull3.obj 0
      have c2 := cell_of_obj h8.pull3.obj 2
      have f2 := frozen_of_obj h8.pull3.obj 2
      simp only [List.getElem?_toArray, List.getElem?_cons_zero, List.getElem?_cons_succ] at c0 c2
      have h9 := (h8.pull3.setCell (i := 0) (.int .i64 t.n)).setCell (i := 2) (.int .i64 t.e)
      go_wp2_with fail
      go_meet
      case rel => exact ⟨Z, none, 0, 0, rfl, by rw [Ht.out]; exact h9.push3.bufNil⟩
    | 2, _, hs =>
      have ht := free_told hs
      have Hs := Lib.hid hs
      have Ht := Lib.hid ht
      clear hs ht
      go_wp2_with fail
      refine (block4_any n _ hn).mono ?_
      rintro e w' ⟨rfl, rfl⟩
      go_wp2_with fail
      refine (rsfreeb_any h6 (by omega) (by omega) _ b1 H64.out Hs.out).mono ?_
      rintro e w7 ⟨rfl, h8⟩
      have c2 := cell_of_obj h8.pull3.obj 2
      have f2 := frozen_of_obj h8.pull3.obj 2
      simp only [List.getElem?_toArray, List.getElem?_cons_zero, List.getElem?_cons_succ] at c2
      have h9 := h8.pull3.setCell (i := 2) (.int .i64 t.e)
      go_wp2_with fail
      go_meet
      case rel => exact ⟨Assn.emp, none, 0, 0, rfl, by rw [Ht.out.1, Ht.out.2, Assn.emp_mul]; exact h9.push3.bufNil⟩
    | 3, _, hs =>
      have ht := write_told hs
      have Hs := Lib.hid hs
      have Ht := Lib.hid ht
      clear hs ht
      go_wp2_with fail
      have h6d := h6.drew
      refine wp_region_L (fun w' => ∃ Q, Bears w' (Assn.obj w.heap.size (.cells #[.int .i64 kd, .int .i64 n, .slice ad bn cap] 36 (0, 0)) * Q)) 7 [(true, 0), (true, 1), (true, 2), (true, 4), (true, 5), (false, 3), (false, 6)] [(true, 7), (false, 8)] (by kernel_rfl) (by kernel_rfl) ⟨_, by rw [← HRR.out] at h6d; exact h6d.pull5⟩ ?_
      simp only [pick, List.getElem?_cons_zero, List.getElem?_cons_succ]
      refine wpL_yield (v := ?_) rfl (fun w' hS => ?_) ?_
      rotate_left
      · (obtain ⟨_, hS⟩ := hS; have k1 := cell_of_obj hS.obj 1; have k2 := cell_of_obj hS.obj 2; simp only [List.getElem?_toArray, List.getElem?_cons_zero, List.getElem?_cons_succ] at k1 k2; go_simp; try with_reducible rfl)
      simp only [Act.put, List.setIfInBounds_toArray, List.set_cons_zero, List.set_cons_succ]
      refine wpL_yield (v := ?_) rfl (fun w' hS => ?_) ?_
      rotate_left
      · (obtain ⟨_, hS⟩ := hS; have k1 := cell_of_obj hS.obj 1; have k2 := cell_of_obj hS.obj 2; simp only [List.getElem?_toArray, List.getElem?_cons_zero, List.getElem?_cons_succ] at k1 k2; go_simp; try with_reducible rfl)
      simp only [Act.put, List.setIfInBounds_toArray, List.set_cons_zero, List.set_cons_succ]
      refine wpL_yield (v := ?_) rfl (fun w' hS => ?_) ?_
      rotate_left
      · (obtain ⟨_, hS⟩ := hS; have k1 := cell_of_obj hS.obj 1; have k2 := cell_of_obj hS.obj 2; simp only [List.getElem?_toArray, List.getElem?_cons_zero, List.getElem?_cons_succ] at k1 k2; go_simp; try with_reducible rfl)
      simp only [Act.put, List.setIfInBounds_toArray, List.set_cons_zero, List.set_cons_succ]
      refine wpL_yield (v := ?_) rfl (fun w' hS => ?_) ?_
      rotate_left
      · (obtain ⟨_, hS⟩ := hS; have k1 := cell_of_obj hS.obj 1; have k2 := cell_of_obj hS.obj 2; simp only [List.getElem?_toArray, List.getElem?_cons_zero, List.getElem?_cons_succ] at k1 k2; go_simp; try with_reducible rfl)
      simp only [Act.put, List.setIfInBounds_toArray, List.set_cons_zero, List.set_cons_succ]
      refine wpL_yield (v := ?_) rfl (fun w' hS => ?_) ?_
      rotate_left
      · (obtain ⟨_, hS⟩ := hS; have k1 := cell_of_obj hS.obj 1; have k2 := cell_of_obj hS.obj 2; simp only [List.getElem?_toArray, List.getElem?_cons_zero, List.getElem?_cons_succ] at k1 k2; go_simp; try with_reducible rfl)
      simp only [Act.put, List.setIfInBounds_toArray, List.set_cons_zero, List.set_cons_succ]
      refine wpL_eff rfl ?_
      go_simp
      refine (block4_any n _ hn).mono ?_
      rintro e w' ⟨rfl, rfl⟩
      refine ⟨⟨_, by rw [← HRR.out] at h6d; exact h6d.pull5⟩, ?_⟩
      try simp only [Act.put, List.setIfInBounds_toArray, List.set_cons_zero, List.set_cons_succ]
      refine wpL_eff rfl ?_
      go_simp
      refine (rswrite_any h6d (by omega) (by omega) _ b1 hb6 Hs.out).mono ?_
      rintro e w7 ⟨rfl, Z, h8⟩
      refine ⟨⟨_, by rw [← HRR.out] at h8; exact h8.pull5⟩, ?_⟩
      try simp only [Act.put, List.setIfInBounds_toArray, List.set_cons_zero, List.set_cons_succ]
      have c2 := cell_of_obj h8.pull3.obj 2
      have f2 := frozen_of_obj h8.pull3.obj 2
      simp only [List.getElem?_toArray, List.getElem?_cons_zero, List.getElem?_cons_succ] at c2
      have h9 := h8.pull3.setCell (i := 2) (.int .i64 t.e)
      refine wpL_nil ?_
      refine wpL_yield (v := ?_) rfl (fun w' hS => ?_) ?_
      rotate_left
      · (go_simp; try with_reducible rfl)
      simp only [Act.put, List.setIfInBounds_toArray, List.set_cons_zero, List.set_cons_succ]
      refine wpL_eff rfl ?_
      go_simp
      rename_i hmeet _ _
      refine hmeet _ _ ?_
      go_meet
      case rel => exact ⟨Z, none, 0, 0, rfl, by rw [Ht.out.1, Ht.out.2]; exact h9.push3.bufNil⟩
    | 4, _, hs =>
      obtain ⟨rfl, rfl⟩ : _ = t ∧ S = S' := by simpa [SpM.does] using hs
      have Ht := Lib.hid (read_told (len := 1024) (S := S) (n := blockN n))
      clear hs
      go_wp2_with fail
      refine (block4_any n _ hn).mono ?_
      rintro e w' ⟨rfl, rfl⟩
      go_wp2_with fail
      refine (rsread_any h6 (by omega) (by omega) _ b1 rfl).mono ?_
      rintro e w7 ⟨ad', l', c', rfl, h8⟩
      have c2 := cell_of_obj h8.pull4.obj 2
      have f2 := frozen_of_obj h8.pull4.obj 2
      simp only [List.getElem?_toArray, List.getElem?_cons_zero, List.getElem?_cons_succ] at c2
      have h9 := h8.pull4.setCell (i := 2) (.int .i64 (S.read 1024 (blockN n)).e)
      go_wp2_with fail
      go_meet
      case rel => exact ⟨Assn.emp, _, _, _, rfl, by rw [Ht.out, Assn.emp_mul]; exact h9.push4⟩
    | 5, _, hs | 6, _, hs =>
      have ht := setInode_told hs
      have Hs := Lib.hid hs
      have Ht := Lib.hid ht
      clear hs ht
      go_wp2_with fail
      refine (rssetinode_any h6 (by omega) (by omega) H64.out _ hb6 Hs.out).mono ?_
      rintro e w7 ⟨rfl, Z, h8⟩
      have c2 := cell_of_obj h8.pull3.obj 2
      have f2 := frozen_of_obj h8.pull3.obj 2
      simp only [List.getElem?_toArray, List.getElem?_cons_zero, List.getElem?_cons_succ] at c2
      have h9 := h8.pull3.setCell (i := 2) (.int .i64 t.e)
      go_wp2_with fail
      go_meet
      case rel => exact ⟨Z, none, 0, 0, rfl, by rw [Ht.out.1, Ht.out.2]; exact h9.push3.bufNil⟩
    | 7, _, hs =>
      obtain ⟨rfl, rfl⟩ : _ = t ∧ S = S' := by simpa [SpM.does] using hs
      have Ht := Lib.hid (inode_told (len := 1024) (S := S) (n := n))
      clear hs
      go_wp2_with fail
      refine (rsinode_any h6 _ rfl).mono ?_
      rintro e w7 ⟨ad', l', c', rfl, h8⟩
      have c2 := cell_of_obj h8.pull4.obj 2
      have f2 := frozen_of_obj h8.pull4.obj 2
      simp only [List.getElem?_toArray, List.getElem?_cons_zero, List.getElem?_cons_succ] at c2
      have h9 := h8.pull4.setCell (i := 2) (.int .i64 (S.inode 1024 n).e)
      go_wp2_with fail
      go_meet
      case rel => exact ⟨Assn.emp, _, _, _, rfl, by rw [Ht.out, Assn.emp_mul]; exact h9.push4⟩
    | 8, _, hs =>
      have ht := begins_told hs
      have Hs := Lib.hid hs
      have Ht := Lib.hid ht
      clear hs ht
      go_wp2_with fail
      refine (rsbegin_any h6 Hs.out).mono ?_
      rintro e w7 ⟨rfl, h8⟩
      have c2 := cell_of_obj h8.pull3.obj 2
      have f2 := frozen_of_obj h8.pull3.obj 2
      simp only [List.getElem?_toArray, List.getElem?_cons_zero, List.getElem?_cons_succ] at c2
      have h9 := h8.pull3.setCell (i := 2) (.int .i64 t.e)
      go_wp2_with fail
      go_meet
      case rel => exact ⟨Assn.emp, none, 0, 0, rfl, by rw [Ht.out.1, Ht.out.2, Assn.emp_mul]; exact h9.push3.bufNil⟩
    | 9, _, hs =>
      have ht := commit_told hs
      have Hs := Lib.hid hs
      have Ht := Lib.hid ht
      clear hs ht
      go_wp2_with fail
      refine (rscommit_any h6 (by omega) hg Hs.out).mono ?_
      rintro e w7 ⟨rfl, h8⟩
      have c2 := cell_of_obj h8.pull3.obj 2
      have f2 := frozen_of_obj h8.pull3.obj 2
      simp only [List.getElem?_toArray, List.getElem?_cons_zero, List.getElem?_cons_succ] at c2
      have h9 := h8.pull3.setCell (i := 2) (.int .i64 t.e)
      go_wp2_with fail
      go_meet
      case rel => exact ⟨Assn.emp, none, 0, 0, rfl, by rw [Ht.out.1, Ht.out.2, Assn.emp_mul]; exact h9.push3.bufNil⟩
    | 10, _, hs =>
      have ht := abort_told hs
      have Hs := Lib.hid hs
      have Ht := Lib.hid ht
      clear hs ht
      go_wp2_with fail
      refine (rsabort_any h6 (by omega) Hs.out).mono ?_
      rintro e w7 ⟨rfl, h8⟩
      have c2 := cell_of_obj h8.pull3.obj 2
      have f2 := frozen_of_obj h8.pull3.obj 2
      simp only [List.getElem?_toArray, List.getElem?_cons_zero, List.getElem?_cons_succ] at c2
      have h9 := h8.pull3.setCell (i := 2) (.int .i64 t.e)
      go_wp2_with fail
      go_meet
      case rel => exact ⟨Assn.emp, none, 0, 0, rfl, by rw [Ht.out.1, Ht.out.2, Assn.emp_mul]; exact h9.push3.bufNil⟩
    | 11, _, hs =>
      obtain ⟨rfl, rfl⟩ : (⟨0, [], 0⟩ : Told) = t ∧ S = S' := by simpa [SpM.does] using hs
      clear hs
      go_wp2_with fail
      go_meet
      case rel => exact ⟨Assn.emp, none, 0, 0, rfl, by rw [Assn.emp_mul]; exact h6.bufNil⟩
    | n + 12, h, _ => exact absurd h (by omega)
  case rest =>
    obtain ⟨Z, ad', l', c', rfl, h8⟩ := hcut
    have hb8 := buf_tells _ h8
    have c1 := cell_of_obj h8.pull4.obj 1
    have f1 := frozen_of_obj h8.pull4.obj 1
    simp only [List.getElem?_toArray, List.getElem?_cons_zero, List.getElem?_cons_succ] at c1
    have h9 : Bears (wc.setCell ⟨w.heap.size + 1 + 1, 1, none⟩ (strV t.b)) (Assn.obj (w.heap.size + 1 + 1) (.cells #[.int .i64 t.n, strV t.b, .int .i64 t.e] 45 (0, 0)) * _) := h8.pull4.setCell (i := 1) (strV t.b)
    have d0 := cell_of_obj h9.obj 0
    have d1 := cell_of_obj h9.obj 1
    have d2 := cell_of_obj h9.obj 2
    simp only [List.getElem?_toArray, List.getElem?_cons_zero, List.getElem?_cons_succ] at d0 d1 d2
    have h10 := h9.right.right.push2
    have h13 := (h9.right.right.cast (by rw [← HRR.out]; ac_rfl) : Bears _ (Assn.obj (w.heap.size + 1) (.cells #[.int .i64 0, .string ⟨#[]⟩, .int .i64 0] 45 (0, 0)) * (Assn.obj w.heap.size (.cells #[.int .i64 kd, .int .i64 n, .slice ad bn cap] 36 (0, 0)) * (spcA y (Z * Y) 1024 S' * ((Z * Y) * R)))))
    clear h6 h10
    go_wp2_with (first | (refine wpList_op rfl (exec_convert rfl rfl (run_convert_in hb8)) ?_) | (refine wpList_store_obj h13 rfl rfl rfl rfl rfl (by kernel_rfl) (by intro v hv; simp at hv; rcases hv with rfl | rfl | rfl <;> rfl) ?_; intro w14 h14))
    have hr := rangeAt_of_obj h14.obj
    refine bodyPost_ret (results_cell rfl _ rfl (run_loadVar_mid w14 (w.heap.size + 1) 0 45 [.int .i64 t.n, strV t.b, .int .i64 t.e] _ hr Tryz.underlying45 rfl (by kernel_rfl))) rfl ?_
    exact ⟨rfl, Z, h14.right.right⟩
end

end Go.Proofs.YtcggloceabjjdaaGreat

/- The least free inode; no condition. -/
namespace Go.Proofs.YtcggloceabjjdaaGreat
open Go.RowKit Go.MapKept

section
variable {s p len g : Nat} {k : List Nat} {d : DiskM} {op : Bool} {F G : Nat → Sec} {R : Assn} {w : World}

set_option maxRecDepth 100000 in
set_option maxHeartbeats 1000000 in
theorem nextIno_any (h : Bears w (spA s p d len g k op F G * R)) :
    Calls Tryz.prog 51 #[.pointer (some ⟨s, 0, none⟩)] w fun e w' => ((∃ n, n < 256 ∧ (∀ m, m < n → ifreeB len G m = false) ∧ ifreeB len G n = true ∧ e = .returned (.tuple #[.int .i64 n, .int .i64 0])) ∨ ((∀ m, m < 256 → ifreeB len G m = false) ∧ e = .returned (.tuple #[.int .i64 0, .int .i64 42]))) ∧ Bears w' (spA s p d len g k op F G * R) := by
  go_enter Tryz.func51, Tryz.ntmps51
  go_wp2_with fail
  go_loopw [5] (fun i wr => ∃ j : Nat, j ≤ 256 ∧ i = .int .i64 j ∧ (∀ m, m < j → ifreeB len G m = false) ∧ Bears wr (spA s p d len g k op F G * R)) (fun i _ => 256 - (intOf i).toNat)
  case atStart => exact ⟨0, by omega, rfl, fun m hm => by omega, h⟩
  case round =>
    clear h
    obtain ⟨j, hj, rfl, hm, h1⟩ := hrel
    by_cases hlt : j < 256
    · have hf := ifree_any h1 j hlt
      obtain ⟨b, hb⟩ : ∃ b, ifreeB len G j = b := ⟨_, rfl⟩
      rw [hb] at hf
      have Hb := Lib.hid hb
      have Hm := Lib.hid hm
      clear hb hm
      cases b with
      | true =>
        go_wp2_with fail
        refine hf.mono ?_
        rintro e w2 ⟨rfl, h2⟩
        go_wp2_with fail
        go_ret2
        exact ⟨.inl ⟨j, hlt, Hm.out, Hb.out, rfl⟩, h2⟩
      | false =>
        go_wp2_with fail
        refine hf.mono ?_
        rintro e w2 ⟨rfl, h2⟩
        go_wp2_with fail
        go_roundw
        case rel =>
          refine ⟨j + 1, hlt, by go_num, fun m h => ?_, h2⟩
          rcases Nat.lt_succ_iff_lt_or_eq.1 h with h | rfl
          · exact Hm.out m h
          · exact Hb.out
        case measure => simp [intOf]; omega
    · obtain rfl : j = 256 := by omega
      go_wp2_with fail
      go_ret2
      exact ⟨.inr ⟨hm, rfl⟩, h1⟩

end

end Go.Proofs.YtcggloceabjjdaaGreat

/- A space is as the document's; no condition. -/
namespace Go.Proofs.YtcggloceabjjdaaGreat
open Go.RowKit Go.MapKept

set_option maxRecDepth 100000 in
set_option maxHeartbeats 4000000 in
theorem alike4_any {s p y : Nat} {d : DiskM} {k : List Nat} {S : SpM} {Y R : Assn} {w : World} (h : Bears w (stA s p d 1024 k S * (spcA y Y 1024 S * (Y * R)))) :
    Calls Tryz.prog 14 #[.pointer (some ⟨s, 0, none⟩), .pointer (some ⟨y, 0, none⟩)] w fun e w' => e = .returned (.bool true) ∧ Bears w' (stA s p d 1024 k S * (spcA y Y 1024 S * (Y * R))) := by
  obtain ⟨nb, hnb⟩ : ∃ nb, blkN 1024 S.G = nb := ⟨_, rfl⟩
  obtain ⟨ni, hni⟩ : ∃ ni, ifreeTo 1024 S.G 256 = ni := ⟨_, rfl⟩
  obtain ⟨g, hg⟩ : ∃ g, S.g = g := ⟨_, rfl⟩
  have k1 : ∀ w, Bears w (stA s p d 1024 k S * (spcA y Y 1024 S * (Y * R))) → Calls Tryz.prog 51 #[.pointer (some ⟨s, 0, none⟩)] w fun e w' => ((∃ n, n < 256 ∧ (∀ m, m < n → ifreeB 1024 S.G m = false) ∧ ifreeB 1024 S.G n = true ∧ e = .returned (.tuple #[.int .i64 n, .int .i64 0])) ∨ ((∀ m, m < 256 → ifreeB 1024 S.G m = false) ∧ e = .returned (.tuple #[.int .i64 0, .int .i64 42]))) ∧ Bears w' (stA s p d 1024 k S * (spcA y Y 1024 S * (Y * R))) := fun w h => nextIno_any h
  have k2 : ∀ w, Bears w (stA s p d 1024 k S * (spcA y Y 1024 S * (Y * R))) → Calls Tryz.prog 52 #[.pointer (some ⟨y, 0, none⟩)] w fun e w' => ((∃ n : Nat, n < 256 ∧ (∀ m, m < n → ifreeB 1024 S.G m = false) ∧ ifreeB 1024 S.G n = true ∧ e = .returned (.tuple #[.int .i64 n, .int .i64 0])) ∨
      ((∀ m, m < 256 → ifreeB 1024 S.G m = false) ∧ e = .returned (.tuple #[.int .i64 0, .int .i64 42]))) ∧ w = w' := fun w h => rsnext_any (h.pull2.cast (by ac_rfl) : Bears w (spcA y Y 1024 S * (Y * (stA s p d 1024 k S * R))))
  have k3 : ∀ w, Bears w (stA s p d 1024 k S * (spcA y Y 1024 S * (Y * R))) → Calls Tryz.prog 28 #[.pointer (some ⟨s, 0, none⟩)] w fun e w' => e = .returned (.int .i64 nb) ∧ Bears w' (stA s p d 1024 k S * (spcA y Y 1024 S * (Y * R))) := fun w h => (sblocks_any h).mono fun e w' ⟨h1, h2⟩ => ⟨by rw [h1, hnb], h2⟩
  have k4 : ∀ w, Bears w (stA s p d 1024 k S * (spcA y Y 1024 S * (Y * R))) → Calls Tryz.prog 53 #[.pointer (some ⟨y, 0, none⟩)] w fun e w' => e = .returned (.int .i64 nb) ∧ w = w' := fun w h => by
    have := rsblocks_any h.pull2 (by rw [firstB1024]; decide) (by decide)
    rwa [hnb] at this
  have k5 : ∀ w, Bears w (stA s p d 1024 k S * (spcA y Y 1024 S * (Y * R))) → Calls Tryz.prog 29 #[.pointer (some ⟨s, 0, none⟩)] w fun e w' => e = .returned (.int .i64 ni) ∧ Bears w' (stA s p d 1024 k S * (spcA y Y 1024 S * (Y * R))) := fun w h => (sinodes_any h).mono fun e w' ⟨h1, h2⟩ => ⟨by rw [h1, hni], h2⟩
  have k6 : ∀ w, Bears w (stA s p d 1024 k S * (spcA y Y 1024 S * (Y * R))) → Calls Tryz.prog 54 #[.pointer (some ⟨y, 0, none⟩)] w fun e w' => e = .returned (.int .i64 ni) ∧ w = w' := fun w h => by
    have := rsinodes_any (h.pull2.cast (by ac_rfl) : Bears w (spcA y Y 1024 S * (Y * (stA s p d 1024 k S * R))))
    rwa [hni] at this
  have k7 : ∀ w, Bears w (stA s p d 1024 k S * (spcA y Y 1024 S * (Y * R))) → Calls Tryz.prog 24 #[.pointer (some ⟨s, 0, none⟩)] w fun e w' => e = .returned (.int .i64 g) ∧ Bears w' (stA s p d 1024 k S * (spcA y Y 1024 S * (Y * R))) := fun w h => (sgroups_any h).mono fun e w' ⟨h1, h2⟩ => ⟨by rw [h1, hg], h2⟩
  have k8 : ∀ w, Bears w (stA s p d 1024 k S * (spcA y Y 1024 S * (Y * R))) → w.cell? ⟨y, 5, none⟩ = some (.int .i64 (g : Int)) := fun w h => by
    obtain ⟨was, now, tv, ts, _, h1⟩ := Bears.spc.1 h.pull2
    obtain ⟨_, _, _, _, _, c5, _⟩ := h1.spcCells
    rw [← hg]
    exact c5
  generalize stA s p d 1024 k S * (spcA y Y 1024 S * (Y * R)) = A at *
  clear hnb hni hg
  have e1 : (42 == (0 : Int)) = false := rfl
  go_enter Tryz.func14, Tryz.ntmps14
  go_wp2_with fail
  refine (k1 _ h).mono ?_
  rintro e w1 ⟨hx, h1⟩
  have hk2 := k2 _ h1
  have Hk2 := Lib.hid hk2
  clear hk2 k1 k2
  rcases hx with ⟨n, hn, hm, ht, rfl⟩ | ⟨hm, rfl⟩
  · have Hm := Lib.hid hm
    have Ht := Lib.hid ht
    clear hm ht
    go_wp2_with fail
    refine Hk2.out.mono ?_
    rintro e w2 ⟨hx, rfl⟩
    rcases hx with ⟨n', hn', hm', ht', rfl⟩ | ⟨hm', rfl⟩
    · obtain rfl : n = n' := by
        rcases Nat.lt_trichotomy n n' with h | h | h
        · rw [hm' n h] at Ht; cases Ht.out
        · exact h
        · rw [Hm.out n' h] at ht'; cases ht'
      clear hm' ht' hn'
      go_wp2_with fail
      have h2 := h1.drew
      refine wp_region_L (fun w' => Bears w' A) 31 [(true, 0), (true, 1), (true, 2), (true, 3), (true, 4), (true, 5), (true, 6), (true, 7), (true, 8), (true, 9), (true, 11), (false, 10), (false, 12), (true, 13), (true, 14), (true, 15), (true, 16), (true, 18), (false, 17), (false, 19), (true, 20), (true, 21), (true, 22), (true, 23), (true, 25), (true, 26), (true, 27), (true, 28), (false, 24), (true, 29), (true, 30)] [(true, 31)] (by kernel_rfl) (by kernel_rfl) h2 ?_
      simp only [pick, List.getElem?_cons_zero, List.getElem?_cons_succ]
      refine wpL_yield (v := ?_) rfl (fun w' hS => ?_) ?_
      rotate_left
      · (go_simp; try with_reducible rfl)
      simp only [Act.put, List.setIfInBounds_toArray, List.set_cons_zero, List.set_cons_succ]
      refine wpL_yield (v := ?_) rfl (fun w' hS => ?_) ?_
      rotate_left
      · (go_simp; try with_reducible rfl)
      simp only [Act.put, List.setIfInBounds_toArray, List.set_cons_zero, List.set_cons_succ]
      refine wpL_yield (v := ?_) rfl (fun w' hS => ?_) ?_
      rotate_left
      · (go_simp; try with_reducible rfl)
      simp only [Act.put, List.setIfInBounds_toArray, List.set_cons_zero, List.set_cons_succ]
      refine wpL_yield (v := ?_) rfl (fun w' hS => ?_) ?_
      rotate_left
      · (go_simp; try with_reducible rfl)
      simp only [Act.put, List.setIfInBounds_toArray, List.set_cons_zero, List.set_cons_succ]
      refine wpL_guarded (v := ?_) rfl (fun w' hS => ?_) ?_
      rotate_left
      · (go_simp; try with_reducible rfl)
      simp only [Act.put, List.setIfInBounds_toArray, List.set_cons_zero, List.set_cons_succ]
      refine wpL_guarded (v := ?_) rfl (fun w' hS => ?_) ?_
      rotate_left
      · (go_simp; try with_reducible rfl)
      simp only [Act.put, List.setIfInBounds_toArray, List.set_cons_zero, List.set_cons_succ]
      refine wpL_guarded (v := ?_) rfl (fun w' hS => ?_) ?_
      rotate_left
      · (go_simp; try with_reducible rfl)
      simp only [Act.put, List.setIfInBounds_toArray, List.set_cons_zero, List.set_cons_succ]
      refine wpL_yield (v := ?_) rfl (fun w' hS => ?_) ?_
      rotate_left
      · (go_simp; try with_reducible rfl)
      simp only [Act.put, List.setIfInBounds_toArray, List.set_cons_zero, List.set_cons_succ]
      refine wpL_yield (v := ?_) rfl (fun w' hS => ?_) ?_
      rotate_left
      · (go_simp; try with_reducible rfl)
      simp only [Act.put, List.setIfInBounds_toArray, List.set_cons_zero, List.set_cons_succ]
      refine wpL_guarded (v := ?_) rfl (fun w' hS => ?_) ?_
      rotate_left
      · (go_simp; try with_reducible rfl)
      simp only [Act.put, List.setIfInBounds_toArray, List.set_cons_zero, List.set_cons_succ]
      refine wpL_guarded (v := ?_) rfl (fun w' hS => ?_) ?_
      rotate_left
      · (go_simp; try with_reducible rfl)
      simp only [Act.put, List.setIfInBounds_toArray, List.set_cons_zero, List.set_cons_succ]
      refine wpL_effG rfl ?_
      go_simp
      refine (k3 _ h2).mono ?_
      rintro e w' ⟨rfl, h3⟩
      refine ⟨h3, ?_⟩
      refine wpL_effG rfl ?_
      go_simp
      refine (k4 _ h3).mono ?_
      rintro e w' ⟨rfl, rfl⟩
      refine ⟨h3, ?_⟩
      refine wpL_guarded (v := ?_) rfl (fun w' hS => ?_) ?_
      rotate_left
      · (go_simp; try with_reducible rfl)
      simp only [Act.put, List.setIfInBounds_toArray, List.set_cons_zero, List.set_cons_succ]
      refine wpL_yield (v := ?_) rfl (fun w' hS => ?_) ?_
      rotate_left
      · (go_simp; try with_reducible rfl)
      simp only [Act.put, List.setIfInBounds_toArray, List.set_cons_zero, List.set_cons_succ]
      refine wpL_yield (v := ?_) rfl (fun w' hS => ?_) ?_
      rotate_left
      · (go_simp; try with_reducible rfl)
      simp only [Act.put, List.setIfInBounds_toArray, List.set_cons_zero, List.set_cons_succ]
      refine wpL_guarded (v := ?_) rfl (fun w' hS => ?_) ?_
      rotate_left
      · (go_simp; try with_reducible rfl)
      simp only [Act.put, List.setIfInBounds_toArray, List.set_cons_zero, List.set_cons_succ]
      refine wpL_guarded (v := ?_) rfl (fun w' hS => ?_) ?_
      rotate_left
      · (go_simp; try with_reducible rfl)
      simp only [Act.put, List.setIfInBounds_toArray, List.set_cons_zero, List.set_cons_succ]
      refine wpL_effG rfl ?_
      go_simp
      refine (k5 _ h3).mono ?_
      rintro e w' ⟨rfl, h5⟩
      refine ⟨h5, ?_⟩
      refine wpL_effG rfl ?_
      go_simp
      refine (k6 _ h5).mono ?_
      rintro e w' ⟨rfl, rfl⟩
      refine ⟨h5, ?_⟩
      refine wpL_guarded (v := ?_) rfl (fun w' hS => ?_) ?_
      rotate_left
      · (go_simp; try with_reducible rfl)
      simp only [Act.put, List.setIfInBounds_toArray, List.set_cons_zero, List.set_cons_succ]
      refine wpL_yield (v := ?_) rfl (fun w' hS => ?_) ?_
      rotate_left
      · (go_simp; try with_reducible rfl)
      simp only [Act.put, List.setIfInBounds_toArray, List.set_cons_zero, List.set_cons_succ]
      refine wpL_yield (v := ?_) rfl (fun w' hS => ?_) ?_
      rotate_left
      · (go_simp; try with_reducible rfl)
      simp only [Act.put, List.setIfInBounds_toArray, List.set_cons_zero, List.set_cons_succ]
      refine wpL_guarded (v := ?_) rfl (fun w' hS => ?_) ?_
      rotate_left
      · (have c5 := k8 _ hS; go_simp; try with_reducible rfl)
      simp only [Act.put, List.setIfInBounds_toArray, List.set_cons_zero, List.set_cons_succ]
      refine wpL_guarded (v := ?_) rfl (fun w' hS => ?_) ?_
      rotate_left
      · (have c5 := k8 _ hS; go_simp; try with_reducible rfl)
      simp only [Act.put, List.setIfInBounds_toArray, List.set_cons_zero, List.set_cons_succ]
      refine wpL_guarded (v := ?_) rfl (fun w' hS => ?_) ?_
      rotate_left
      · (have c5 := k8 _ hS; go_simp; try with_reducible rfl)
      simp only [Act.put, List.setIfInBounds_toArray, List.set_cons_zero, List.set_cons_succ]
      refine wpL_guarded (v := ?_) rfl (fun w' hS => ?_) ?_
      rotate_left
      · (have c5 := k8 _ hS; go_simp; try with_reducible rfl)
      simp only [Act.put, List.setIfInBounds_toArray, List.set_cons_zero, List.set_cons_succ]
      refine wpL_guarded (v := ?_) rfl (fun w' hS => ?_) ?_
      rotate_left
      · (have c5 := k8 _ hS; go_simp; try with_reducible rfl)
      simp only [Act.put, List.setIfInBounds_toArray, List.set_cons_zero, List.set_cons_succ]
      refine wpL_effG rfl ?_
      go_simp
      refine (k7 _ h5).mono ?_
      rintro e w' ⟨rfl, h7⟩
      refine ⟨h7, ?_⟩
      refine wpL_guarded (v := ?_) rfl (fun w' hS => ?_) ?_
      rotate_left
      · (go_simp; try with_reducible rfl)
      simp only [Act.put, List.setIfInBounds_toArray, List.set_cons_zero, List.set_cons_succ]
      refine wpL_yield (v := ?_) rfl (fun w' hS => ?_) ?_
      rotate_left
      · (go_simp; try with_reducible rfl)
      simp only [Act.put, List.setIfInBounds_toArray, List.set_cons_zero, List.set_cons_succ]
      refine wpL_nil ?_
      refine wpL_yield (v := ?_) rfl (fun w' hS => ?_) ?_
      rotate_left
      · (go_simp; try with_reducible rfl)
      simp only [Act.put, List.setIfInBounds_toArray, List.set_cons_zero, List.set_cons_succ]
      refine wpL_nil ?_
      go_wp2_with fail
      go_ret
      exact ⟨rfl, h7⟩
    · rw [hm' n hn] at Ht; cases Ht.out
  · have Hm := Lib.hid hm
    clear hm
    go_wp2_with fail
    refine Hk2.out.mono ?_
    rintro e w2 ⟨hx, rfl⟩
    rcases hx with ⟨n', hn', hm', ht', rfl⟩ | ⟨hm', rfl⟩
    · rw [Hm.out n' hn'] at ht'; cases ht'
    · clear hm'
      go_wp2_with fail
      have h2 := h1.drew
      refine wp_region_L (fun w' => Bears w' A) 31 [(true, 0), (true, 1), (true, 2), (true, 3), (true, 4), (true, 5), (true, 6), (true, 7), (true, 8), (true, 9), (true, 11), (false, 10), (false, 12), (true, 13), (true, 14), (true, 15), (true, 16), (true, 18), (false, 17), (false, 19), (true, 20), (true, 21), (true, 22), (true, 23), (true, 25), (true, 26), (true, 27), (true, 28), (false, 24), (true, 29), (true, 30)] [(true, 31)] (by kernel_rfl) (by kernel_rfl) h2 ?_
      simp only [pick, List.getElem?_cons_zero, List.getElem?_cons_succ]
      refine wpL_yield (v := ?_) rfl (fun w' hS => ?_) ?_
      rotate_left
      · (go_simp; try with_reducible rfl)
      simp only [Act.put, List.setIfInBounds_toArray, List.set_cons_zero, List.set_cons_succ]
      refine wpL_yield (v := ?_) rfl (fun w' hS => ?_) ?_
      rotate_left
      · (go_simp; try with_reducible rfl)
      simp only [Act.put, List.setIfInBounds_toArray, List.set_cons_zero, List.set_cons_succ]
      refine wpL_yield (v := ?_) rfl (fun w' hS => ?_) ?_
      rotate_left
      · (go_simp; try with_reducible rfl)
      simp only [Act.put, List.setIfInBounds_toArray, List.set_cons_zero, List.set_cons_succ]
      refine wpL_yield (v := ?_) rfl (fun w' hS => ?_) ?_
      rotate_left
      · (go_simp; try with_reducible rfl)
      simp only [Act.put, List.setIfInBounds_toArray, List.set_cons_zero, List.set_cons_succ]
      refine wpL_guarded (v := ?_) rfl (fun w' hS => ?_) ?_
      rotate_left
      · (go_simp; try with_reducible rfl)
      simp only [Act.put, List.setIfInBounds_toArray, List.set_cons_zero, List.set_cons_succ]
      refine wpL_guarded (v := ?_) rfl (fun w' hS => ?_) ?_
      rotate_left
      · (go_simp; try with_reducible rfl)
      simp only [Act.put, List.setIfInBounds_toArray, List.set_cons_zero, List.set_cons_succ]
      refine wpL_guarded (v := ?_) rfl (fun w' hS => ?_) ?_
      rotate_left
      · (go_simp; try with_reducible rfl)
      simp only [Act.put, List.setIfInBounds_toArray, List.set_cons_zero, List.set_cons_succ]
      refine wpL_yield (v := ?_) rfl (fun w' hS => ?_) ?_
      rotate_left
      · (go_simp; try with_reducible rfl)
      simp only [Act.put, List.setIfInBounds_toArray, List.set_cons_zero, List.set_cons_succ]
      refine wpL_yield (v := ?_) rfl (fun w' hS => ?_) ?_
      rotate_left
      · (go_simp; try with_reducible rfl)
      simp only [Act.put, List.setIfInBounds_toArray, List.set_cons_zero, List.set_cons_succ]
      refine wpL_guarded (v := ?_) rfl (fun w' hS => ?_) ?_
      rotate_left
      · (go_simp; try with_reducible rfl)
      simp only [Act.put, List.setIfInBounds_toArray, List.set_cons_zero, List.set_cons_succ]
      refine wpL_guarded (v := ?_) rfl (fun w' hS => ?_) ?_
      rotate_left
      · (go_simp; try with_reducible rfl)
      simp only [Act.put, List.setIfInBounds_toArray, List.set_cons_zero, List.set_cons_succ]
      refine wpL_effG rfl ?_
      go_simp
      refine (k3 _ h2).mono ?_
      rintro e w' ⟨rfl, h3⟩
      refine ⟨h3, ?_⟩
      refine wpL_effG rfl ?_
      go_simp
      refine (k4 _ h3).mono ?_
      rintro e w' ⟨rfl, rfl⟩
      refine ⟨h3, ?_⟩
      refine wpL_guarded (v := ?_) rfl (fun w' hS => ?_) ?_
      rotate_left
      · (go_simp; try with_reducible rfl)
      simp only [Act.put, List.setIfInBounds_toArray, List.set_cons_zero, List.set_cons_succ]
      refine wpL_yield (v := ?_) rfl (fun w' hS => ?_) ?_
      rotate_left
      · (go_simp; try with_reducible rfl)
      simp only [Act.put, List.setIfInBounds_toArray, List.set_cons_zero, List.set_cons_succ]
      refine wpL_yield (v := ?_) rfl (fun w' hS => ?_) ?_
      rotate_left
      · (go_simp; try with_reducible rfl)
      simp only [Act.put, List.setIfInBounds_toArray, List.set_cons_zero, List.set_cons_succ]
      refine wpL_guarded (v := ?_) rfl (fun w' hS => ?_) ?_
      rotate_left
      · (go_simp; try with_reducible rfl)
      simp only [Act.put, List.setIfInBounds_toArray, List.set_cons_zero, List.set_cons_succ]
      refine wpL_guarded (v := ?_) rfl (fun w' hS => ?_) ?_
      rotate_left
      · (go_simp; try with_reducible rfl)
      simp only [Act.put, List.setIfInBounds_toArray, List.set_cons_zero, List.set_cons_succ]
      refine wpL_effG rfl ?_
      go_simp
      refine (k5 _ h3).mono ?_
      rintro e w' ⟨rfl, h5⟩
      refine ⟨h5, ?_⟩
      refine wpL_effG rfl ?_
      go_simp
      refine (k6 _ h5).mono ?_
      rintro e w' ⟨rfl, rfl⟩
      refine ⟨h5, ?_⟩
      refine wpL_guarded (v := ?_) rfl (fun w' hS => ?_) ?_
      rotate_left
      · (go_simp; try with_reducible rfl)
      simp only [Act.put, List.setIfInBounds_toArray, List.set_cons_zero, List.set_cons_succ]
      refine wpL_yield (v := ?_) rfl (fun w' hS => ?_) ?_
      rotate_left
      · (go_simp; try with_reducible rfl)
      simp only [Act.put, List.setIfInBounds_toArray, List.set_cons_zero, List.set_cons_succ]
      refine wpL_yield (v := ?_) rfl (fun w' hS => ?_) ?_
      rotate_left
      · (go_simp; try with_reducible rfl)
      simp only [Act.put, List.setIfInBounds_toArray, List.set_cons_zero, List.set_cons_succ]
      refine wpL_guarded (v := ?_) rfl (fun w' hS => ?_) ?_
      rotate_left
      · (have c5 := k8 _ hS; go_simp; try with_reducible rfl)
      simp only [Act.put, List.setIfInBounds_toArray, List.set_cons_zero, List.set_cons_succ]
      refine wpL_guarded (v := ?_) rfl (fun w' hS => ?_) ?_
      rotate_left
      · (have c5 := k8 _ hS; go_simp; try with_reducible rfl)
      simp only [Act.put, List.setIfInBounds_toArray, List.set_cons_zero, List.set_cons_succ]
      refine wpL_guarded (v := ?_) rfl (fun w' hS => ?_) ?_
      rotate_left
      · (have c5 := k8 _ hS; go_simp; try with_reducible rfl)
      simp only [Act.put, List.setIfInBounds_toArray, List.set_cons_zero, List.set_cons_succ]
      refine wpL_guarded (v := ?_) rfl (fun w' hS => ?_) ?_
      rotate_left
      · (have c5 := k8 _ hS; go_simp; try with_reducible rfl)
      simp only [Act.put, List.setIfInBounds_toArray, List.set_cons_zero, List.set_cons_succ]
      refine wpL_guarded (v := ?_) rfl (fun w' hS => ?_) ?_
      rotate_left
      · (have c5 := k8 _ hS; go_simp; try with_reducible rfl)
      simp only [Act.put, List.setIfInBounds_toArray, List.set_cons_zero, List.set_cons_succ]
      refine wpL_effG rfl ?_
      go_simp
      refine (k7 _ h5).mono ?_
      rintro e w' ⟨rfl, h7⟩
      refine ⟨h7, ?_⟩
      refine wpL_guarded (v := ?_) rfl (fun w' hS => ?_) ?_
      rotate_left
      · (go_simp; try with_reducible rfl)
      simp only [Act.put, List.setIfInBounds_toArray, List.set_cons_zero, List.set_cons_succ]
      refine wpL_yield (v := ?_) rfl (fun w' hS => ?_) ?_
      rotate_left
      · (go_simp; try with_reducible rfl)
      simp only [Act.put, List.setIfInBounds_toArray, List.set_cons_zero, List.set_cons_succ]
      refine wpL_nil ?_
      refine wpL_yield (v := ?_) rfl (fun w' hS => ?_) ?_
      rotate_left
      · (go_simp; try with_reducible rfl)
      simp only [Act.put, List.setIfInBounds_toArray, List.set_cons_zero, List.set_cons_succ]
      refine wpL_nil ?_
      go_wp2_with fail
      go_ret
      exact ⟨rfl, h7⟩

end Go.Proofs.YtcggloceabjjdaaGreat

/- What a space's calls leave as it was, for AllocPlays; no program in sight. -/
namespace Go.Proofs.YtcggloceabjjdaaGreat
open Go.RowKit Go.MapKept

section
variable {len : Nat} {S S' : SpM} {t : Told} {n : Int} {b : List UInt8}
/-- The sector 0 is no call's. -/
theorem SpM.head_alloc (h : S.alloc len = (t, S')) : S'.F = S.F ∧ S'.g = S.g ∧ S'.G 0 = S.G 0 := by
  unfold SpM.alloc at h
  split at h
  · split at h <;> simp only [Prod.mk.injEq] at h <;> rw [← h.2] <;> refine ⟨rfl, rfl, ?_⟩
    · rename_i m hm
      unfold freeAt at hm
      have hm2 := List.find?_some hm
      simp only [Bool.and_eq_true, decide_eq_true_eq] at hm2
      have hf : firstB len = 621 + mapsN len + 128 := rfl
      show allocG S.G m 0 = S.G 0
      unfold allocG updS
      rw [if_neg (by omega), if_neg (by omega)]
    · rfl
  · simp only [Prod.mk.injEq] at h; rw [← h.2]; exact ⟨rfl, rfl, rfl⟩
theorem SpM.head_free (h : S.free len n = (t, S')) : S'.F = S.F ∧ S'.g = S.g ∧ S'.G 0 = S.G 0 := by
  unfold SpM.free at h
  split at h
  · split at h <;> simp only [Prod.mk.injEq] at h <;> rw [← h.2] <;> refine ⟨rfl, rfl, ?_⟩
    · show freeG S.G n.toNat 0 = S.G 0
      unfold freeG updS
      rw [if_neg (by omega)]
    · rfl
  · simp only [Prod.mk.injEq] at h; rw [← h.2]; exact ⟨rfl, rfl, rfl⟩
theorem SpM.head_write (h : S.write len n b = (t, S')) : S'.F = S.F ∧ S'.g = S.g ∧ S'.G 0 = S.G 0 := by
  unfold SpM.write at h
  split at h
  · split at h <;> simp only [Prod.mk.injEq] at h <;> rw [← h.2] <;> refine ⟨rfl, rfl, ?_⟩
    · rename_i hc
      obtain ⟨m, rfl, hm, _⟩ := chk_range hc
      have hf : firstB len = 621 + mapsN len + 128 := rfl
      show (wrN S.G (m : Int).toNat b).2 0 = S.G 0
      unfold wrN
      split
      · show updS S.G (m : Int).toNat b 0 = S.G 0
        unfold updS
        rw [if_neg (by omega)]
      · rfl
    · rfl
  · simp only [Prod.mk.injEq] at h; rw [← h.2]; exact ⟨rfl, rfl, rfl⟩
theorem SpM.head_setInode (h : S.setInode len n b = (t, S')) : S'.F = S.F ∧ S'.g = S.g ∧ S'.G 0 = S.G 0 := by
  unfold SpM.setInode at h
  split at h
  · split at h <;> simp only [Prod.mk.injEq] at h <;> rw [← h.2] <;> refine ⟨rfl, rfl, ?_⟩
    · rfl
    · have hi : 621 ≤ iSec len n.toNat := by unfold iSec; omega
      show (siN len S.G n.toNat b).2 0 = S.G 0
      unfold siN
      split
      · show updS S.G (iSec len n.toNat) _ 0 = S.G 0
        unfold updS
        rw [if_neg (by omega)]
      · rfl
  · simp only [Prod.mk.injEq] at h; rw [← h.2]; exact ⟨rfl, rfl, rfl⟩

theorem SpM.head_does {kk : Nat} {s0 : Sec} (h1 : S.F 0 = s0) (h2 : S.G 0 = s0) (hs : S.does len kk n b = (t, S')) : S'.F 0 = s0 ∧ S'.G 0 = s0 ∧ S'.g ≤ S.g + 1 := by
  have k : S'.F = S.F ∧ S'.g = S.g ∧ S'.G 0 = S.G 0 → S'.F 0 = s0 ∧ S'.G 0 = s0 ∧ S'.g ≤ S.g + 1 := fun ⟨a, b, c⟩ => ⟨by rw [a, h1], by rw [c, h2], by omega⟩
  unfold SpM.does at hs
  split at hs
  · exact k (SpM.head_alloc hs)
  · exact k (SpM.head_alloc hs)
  · exact k (SpM.head_free hs)
  · exact k (SpM.head_write hs)
  · simp only [Prod.mk.injEq] at hs; obtain ⟨-, rfl⟩ := hs; exact k ⟨rfl, rfl, rfl⟩
  · exact k (SpM.head_setInode hs)
  · exact k (SpM.head_setInode hs)
  · simp only [Prod.mk.injEq] at hs; obtain ⟨-, rfl⟩ := hs; exact k ⟨rfl, rfl, rfl⟩
  · unfold SpM.begins at hs
    split at hs <;> simp only [Prod.mk.injEq] at hs <;> obtain ⟨-, rfl⟩ := hs <;> exact k ⟨rfl, rfl, rfl⟩
  · unfold SpM.commit at hs
    split at hs <;> simp only [Prod.mk.injEq] at hs <;> obtain ⟨-, rfl⟩ := hs
    · exact ⟨h2, h2, Nat.le_refl _⟩
    · exact k ⟨rfl, rfl, rfl⟩
  · unfold SpM.abort at hs
    split at hs <;> simp only [Prod.mk.injEq] at hs <;> obtain ⟨-, rfl⟩ := hs
    · exact ⟨h1, h1, Nat.le_succ _⟩
    · exact k ⟨rfl, rfl, rfl⟩
  · simp only [Prod.mk.injEq] at hs; obtain ⟨-, rfl⟩ := hs; exact k ⟨rfl, rfl, rfl⟩

/-- What is at hand without a transaction is what was laid down. -/
def SpM.Shut (S : SpM) : Prop := S.op = false → S.G = S.F
theorem SpM.shut_does {kk : Nat} (h : S.Shut) (hs : S.does len kk n b = (t, S')) : S'.Shut := by
  have ha : S.alloc len = (t, S') → S'.Shut := fun hs => by
    unfold SpM.alloc at hs
    split at hs
    · rename_i ho
      split at hs <;> simp only [Prod.mk.injEq] at hs <;> obtain ⟨-, rfl⟩ := hs <;> intro e <;> rw [ho] at e <;> cases e
    · simp only [Prod.mk.injEq] at hs; obtain ⟨-, rfl⟩ := hs; exact h
  have hi : S.setInode len n b = (t, S') → S'.Shut := fun hs => by
    unfold SpM.setInode at hs
    split at hs
    · rename_i ho
      split at hs <;> simp only [Prod.mk.injEq] at hs <;> obtain ⟨-, rfl⟩ := hs <;> intro e <;> rw [ho] at e <;> cases e
    · simp only [Prod.mk.injEq] at hs; obtain ⟨-, rfl⟩ := hs; exact h
  unfold SpM.does at hs
  split at hs
  · exact ha hs
  · exact ha hs
  · unfold SpM.free at hs
    split at hs
    · rename_i ho
      split at hs <;> simp only [Prod.mk.injEq] at hs <;> obtain ⟨-, rfl⟩ := hs <;> intro e <;> rw [ho] at e <;> cases e
    · simp only [Prod.mk.injEq] at hs; obtain ⟨-, rfl⟩ := hs; exact h
  · unfold SpM.write at hs
    split at hs
    · rename_i ho
      split at hs <;> simp only [Prod.mk.injEq] at hs <;> obtain ⟨-, rfl⟩ := hs <;> intro e <;> rw [ho] at e <;> cases e
    · simp only [Prod.mk.injEq] at hs; obtain ⟨-, rfl⟩ := hs; exact h
  · simp only [Prod.mk.injEq] at hs; obtain ⟨-, rfl⟩ := hs; exact h
  · exact hi hs
  · exact hi hs
  · simp only [Prod.mk.injEq] at hs; obtain ⟨-, rfl⟩ := hs; exact h
  · unfold SpM.begins at hs
    split at hs <;> simp only [Prod.mk.injEq] at hs <;> obtain ⟨-, rfl⟩ := hs
    · exact h
    · intro e; cases e
  · unfold SpM.commit at hs
    split at hs <;> simp only [Prod.mk.injEq] at hs <;> obtain ⟨-, rfl⟩ := hs
    · exact fun _ => rfl
    · exact h
  · unfold SpM.abort at hs
    split at hs <;> simp only [Prod.mk.injEq] at hs <;> obtain ⟨-, rfl⟩ := hs
    · exact fun _ => rfl
    · exact h
  · simp only [Prod.mk.injEq] at hs; obtain ⟨-, rfl⟩ := hs; exact h
end

theorem does_lt8' {len kk : Nat} {S S' : SpM} {n : Int} {b : List UInt8} {t : Told} (hk : kk < 8) (hs : S.does len kk n b = (t, S')) : S'.g = S.g ∧ S'.op = S.op ∧ S'.F = S.F := by
  have ha : ∀ {t S'}, S.alloc len = (t, S') → S'.g = S.g ∧ S'.op = S.op ∧ S'.F = S.F := fun {t S'} h => by
    unfold SpM.alloc at h
    split at h
    · split at h <;> simp only [Prod.mk.injEq] at h <;> rw [← h.2] <;> exact ⟨rfl, rfl, rfl⟩
    · simp only [Prod.mk.injEq] at h; rw [← h.2]; exact ⟨rfl, rfl, rfl⟩
  have hi : S.setInode len n b = (t, S') → S'.g = S.g ∧ S'.op = S.op ∧ S'.F = S.F := fun h => by
    unfold SpM.setInode at h
    split at h
    · split at h <;> simp only [Prod.mk.injEq] at h <;> rw [← h.2] <;> exact ⟨rfl, rfl, rfl⟩
    · simp only [Prod.mk.injEq] at h; rw [← h.2]; exact ⟨rfl, rfl, rfl⟩
  match kk, hk, hs with
  | 0, _, hs | 1, _, hs => exact ha hs
  | 2, _, hs =>
    simp only [SpM.does] at hs
    unfold SpM.free at hs
    split at hs
    · split at hs <;> simp only [Prod.mk.injEq] at hs <;> rw [← hs.2] <;> exact ⟨rfl, rfl, rfl⟩
    · simp only [Prod.mk.injEq] at hs; rw [← hs.2]; exact ⟨rfl, rfl, rfl⟩
  | 3, _, hs =>
    simp only [SpM.does] at hs
    unfold SpM.write at hs
    split at hs
    · split at hs <;> simp only [Prod.mk.injEq] at hs <;> rw [← hs.2] <;> exact ⟨rfl, rfl, rfl⟩
    · simp only [Prod.mk.injEq] at hs; rw [← hs.2]; exact ⟨rfl, rfl, rfl⟩
  | 4, _, hs | 7, _, hs => simp only [SpM.does, Prod.mk.injEq] at hs; rw [← hs.2]; exact ⟨rfl, rfl, rfl⟩
  | 5, _, hs | 6, _, hs => exact hi hs
  | n + 8, h, _ => exact absurd h (by omega)


end Go.Proofs.YtcggloceabjjdaaGreat

/- From the readings of a row to what a walk is told of its slices; no condition. -/
namespace Go.Proofs.YtcggloceabjjdaaGreat
open Go.RowKit

theorem old_tells {W : World} {p : World → Prop} (h : ∀ w, (∀ b, b < W.heap.size → w.heap[b]? = W.heap[b]?) → p w) : (Assn.old W.heap.size W).Tells p := by
  rintro w ⟨F, rfl, h0, _, _, _, h4⟩
  exact h w h4

/-- The form in which a slice of integers comes in. -/
abbrev RowIn (k : IntKind) (w : World) (a : Option Addr) (len cap : Nat) (zs : List Int) : Prop :=
  (a = none ∧ len = 0 ∧ cap = 0 ∧ zs = []) ∨
  ∃ x, a = some x ∧ len ≤ cap ∧ cap ≤ maxLen ∧ zs.length = cap ∧ (∀ i, i < zs.length → w.cell? (x.add i) = some (.int k (zs.getD i 0))) ∧ ∀ n ∈ zs, (Lit.int k n).wf = true

theorem addr_of_cell {w : World} {x : Addr} {v : Value} (h : w.cell? x = some v) : x = ⟨x.block, x.off, none⟩ := by
  unfold World.cell? at h
  split at h
  · cases hs : x.spot with
    | none => cases x; simp_all
    | some s => simp [hs] at h
  · cases h

theorem row_range {k : IntKind} {W : World} {a : Option Addr} {len cap : Nat} {zs : List Int} (h : RowIn k W a len cap zs) (hl : 0 < len) :
    ∃ b o, a = some ⟨b, o, none⟩ ∧ b < W.heap.size ∧ W.rangeAt b o ((zs.take len).map (Value.int k)) := by
  rcases h with ⟨_, h0, _⟩ | ⟨x, rfl, hlc, _, hz, hc, _⟩
  · omega
  · have h0 := hc 0 (by omega)
    have e0 : x.add 0 = x := by simp [Addr.add]
    rw [e0] at h0
    have ex := addr_of_cell h0
    refine ⟨x.block, x.off, by rw [← ex], World.block_lt_of_cell? W x h0, fun j v hv => ?_⟩
    rw [List.getElem?_map, List.getElem?_take] at hv
    split at hv
    · rename_i hj
      have hj' : j < zs.length := by omega
      have := hc j hj'
      rw [ex, Addr.add_mid] at this
      rw [this]
      rw [List.getElem?_eq_getElem hj'] at hv
      simp only [Option.map_some, Option.some.injEq] at hv
      rw [← hv, List.getD_eq_getElem?_getD, List.getElem?_eq_getElem hj']
      rfl
    · cases hv

theorem range_old {W w : World} {b o : Nat} {cs : List Value} (h : W.rangeAt b o cs) (hb : b < W.heap.size) (hw : ∀ b, b < W.heap.size → w.heap[b]? = W.heap[b]?) : w.rangeAt b o cs :=
  rangeAt_block h (hw b hb)

theorem row_bytes {W : World} {a : Option Addr} {len cap : Nat} {zs : List Int} (h : RowIn .u8 W a len cap zs) :
    ∃ l : List UInt8, l.length = len ∧ (Assn.old W.heap.size W).Tells (fun w => BytesIn w (.slice a len cap) l) ∧ len ≤ 9223372036854775807 := by
  have hlen : (zs.take len).length = len ∧ len ≤ 9223372036854775807 := by
    rcases h with ⟨_, rfl, _, rfl⟩ | ⟨x, _, hlc, hm, hz, _, _⟩
    · simp
    · unfold maxLen at hm
      simp; omega
  have hwf : ∀ n ∈ zs.take len, 0 ≤ n ∧ n ≤ 255 := by
    intro n hn
    rcases h with ⟨_, _, _, rfl⟩ | ⟨x, _, _, _, _, _, hw⟩
    · simp at hn
    · have := hw n (List.mem_of_mem_take hn)
      simp [Lit.wf, IntKind.min, IntKind.max, IntKind.signed, IntKind.bits] at this
      omega
  refine ⟨(zs.take len).map (fun n => UInt8.ofNat n.toNat), by simpa using hlen.1, old_tells (fun w hw => ?_), hlen.2⟩
  have hl2 : ((zs.take len).map (fun n => UInt8.ofNat n.toNat)).length = len := by simpa using hlen.1
  refine ⟨a, cap, by rw [hl2], fun hne => ?_⟩
  have hpos : 0 < len := by rw [← hl2]; exact List.length_pos_iff.2 hne
  obtain ⟨b, o, ha, hb, hr⟩ := row_range h hpos
  refine ⟨b, o, ha, ?_⟩
  have e : cellsV ((zs.take len).map (fun n => UInt8.ofNat n.toNat)) = (zs.take len).map (Value.int .u8) := by
    unfold cellsV
    rw [List.map_map]
    refine List.map_congr_left (fun n hn => ?_)
    have := hwf n hn
    simp only [Function.comp_apply, byteV]
    congr 1
    rw [UInt8.toNat_ofNat_of_lt' (by show n.toNat < 256; omega)]
    omega
  rw [e]
  exact range_old hr hb hw

theorem row_ints {W : World} {a : Option Addr} {len cap : Nat} {zs : List Int} (h : RowIn .i64 W a len cap zs) :
    ∃ l : List Int, l.length = len ∧ (Assn.old W.heap.size W).Tells (fun w => IntsIn w (.slice a len cap) l) ∧ len ≤ 9223372036854775807 ∧ ∀ x ∈ l, -9223372036854775808 ≤ x ∧ x ≤ 9223372036854775807 := by
  have hlen : (zs.take len).length = len ∧ len ≤ 9223372036854775807 := by
    rcases h with ⟨_, rfl, _, rfl⟩ | ⟨x, _, hlc, hm, hz, _, _⟩
    · simp
    · unfold maxLen at hm
      simp; omega
  refine ⟨zs.take len, hlen.1, old_tells (fun w hw => ?_), hlen.2, fun n hn => ?_⟩
  · refine ⟨a, cap, by rw [hlen.1], fun hne => ?_⟩
    have hpos : 0 < len := by rw [← hlen.1]; exact List.length_pos_iff.2 hne
    obtain ⟨b, o, ha, hb, hr⟩ := row_range h hpos
    exact ⟨b, o, ha, range_old hr hb hw⟩
  · rcases h with ⟨_, _, _, rfl⟩ | ⟨x, _, _, _, _, _, hw⟩
    · simp at hn
    · have := hw n (List.mem_of_mem_take hn)
      simp [Lit.wf, IntKind.min, IntKind.max, IntKind.signed, IntKind.bits] at this
      omega

theorem old_below {W w' : World} (h : Bears w' (Assn.old W.heap.size W)) : Below W.heap.size W w' := by
  obtain ⟨F, rfl, h0, h1, h2, h3, h4⟩ := h
  exact ⟨h1, h2, h3, h0, h4⟩

end Go.Proofs.YtcggloceabjjdaaGreat

/- A slice of calls (structs of five cells) that came in: its cells; no condition. -/
namespace Go.Proofs.YtcggloceabjjdaaGreat
open Go.RowKit Go.ChangeShapes Go.WideShapes Go.Deep

section
variable {H : Type} {enc : TypeId × Value → H} {P : Program} {W : World} {spare : Nat → Bool} {held : Bool}

/-- The cells of a slice of structs whose fields are of one cell each, row by row. -/
theorem trod_rows {t e : TypeId} {fs : Array Field} (ht : P.underlying t = some (.slice e)) (he : P.underlying e = some (.struct fs)) (hone : oneCellFields P fs = true) (hC : P.cellsOf e = fs.size) (hpos : 0 < fs.size)
    {a : Option Addr} {len cap fuel : Nat} {x : DataW H × List MemPlace} (h : DataW.trod enc P W 0 spare held fuel t [.slice a len cap] = some x) :
    len ≤ maxLen ∧ ∃ rows : Nat → List Value, (0 < len → ∃ b o, a = some ⟨b, o, none⟩ ∧ b < W.heap.size ∧ ∀ i j, i < len → j < fs.size → W.cell? ⟨b, o + i * fs.size + j, none⟩ = (rows i)[j]?) ∧
      ∀ i, i < len → (rows i).length = fs.size ∧ ∀ (j : Nat) (f : Field), fs[j]? = some f → ∃ v n y, (rows i)[j]? = some v ∧ DataW.trod enc P W 0 spare held n f.type [v] = some y := by
  rcases open_slice ht h with ⟨hcs, _⟩ | ⟨a', len', cap', m, n, D, Pl, hcs, hb, hl, hm, hmm, hx, hi⟩
  · simp only [List.cons.injEq, Value.slice.injEq, and_true] at hcs
    obtain ⟨_, rfl, _⟩ := hcs
    exact ⟨by omega, fun _ => [], fun h => absurd h (by omega), fun i h => absurd h (by omega)⟩
  · simp only [List.cons.injEq, Value.slice.injEq, and_true] at hcs
    obtain ⟨rfl, rfl, rfl⟩ := hcs
    have hlm : len ≤ m := by rw [hmm]; split <;> omega
    obtain ⟨rows, hr⟩ := choose_lt hi
    have hrow : ∀ i, i < len → (rows i).length = fs.size ∧ ∀ j, j < fs.size → W.cell? (a'.add (i * fs.size + j)) = (rows i)[j]? := by
      intro i hi
      obtain ⟨h1, _⟩ := hr i (by omega)
      rw [hC] at h1
      obtain ⟨_, h2, h3⟩ := World.cells?_some h1
      exact ⟨h2, fun j hj => by rw [← add_add]; exact h3 j hj⟩
    refine ⟨by omega, rows, fun h0 => ?_, fun i hi => ⟨(hrow i hi).1, fun j f hj => ?_⟩⟩
    · obtain ⟨h1, h2⟩ := hrow 0 h0
      have h3 := h2 0 hpos
      rw [List.getElem?_eq_getElem (by omega)] at h3
      have e0 : a'.add (0 * fs.size + 0) = a' := by simp [Addr.add]
      rw [e0] at h3
      have ex := addr_of_cell h3
      refine ⟨a'.block, a'.off, by rw [← ex], World.block_lt_of_cell? W a' h3, fun i j hi hj => ?_⟩
      have h4 := (hrow i hi).2 j hj
      rw [ex, Addr.add_mid] at h4
      rw [← h4, Nat.add_assoc]
    · obtain ⟨hcl, h2⟩ := hrow i hi
      obtain ⟨_, h1⟩ := hr i (by omega)
      obtain ⟨ys, n', hn', hy, hlen, hyl, hf⟩ := DataW.trod_struct he h1
      obtain ⟨ho, hk⟩ := hone_of hone j f hj
      have hjl : j < fs.size := (Array.getElem?_eq_some_iff.1 hj).1
      have h4 := hf j f hj
      rw [ho, hk] at h4
      have h5 : ((rows i).drop j).take 1 = [(rows i)[j]'(by omega)] := by
        rw [List.drop_eq_getElem_cons (by omega)]
        rfl
      rw [h5, List.getElem?_eq_getElem (by omega)] at h4
      exact ⟨_, _, _, List.getElem?_eq_getElem (by omega), h4⟩

theorem trod_i64 {t : TypeId} {v : Value} {n : Nat} {y : DataW H × List MemPlace} (ht : P.underlying t = some (.int .i64)) (h : DataW.trod enc P W 0 spare held n t [v] = some y) :
    ∃ z, v = .int .i64 z ∧ -9223372036854775808 ≤ z ∧ z ≤ 9223372036854775807 := by
  obtain ⟨z, h1, _, h2⟩ := DataW.trod_int ht h
  simp only [List.cons.injEq, and_true] at h1
  simp [Lit.wf, IntKind.min, IntKind.max, IntKind.signed, IntKind.bits] at h2
  exact ⟨z, h1, by omega, by omega⟩
theorem trod_u8 {t : TypeId} {v : Value} {n : Nat} {y : DataW H × List MemPlace} (ht : P.underlying t = some (.int .u8)) (h : DataW.trod enc P W 0 spare held n t [v] = some y) : ∃ c, v = byteV c := by
  obtain ⟨z, h1, _, h2⟩ := DataW.trod_int ht h
  simp only [List.cons.injEq, and_true] at h1
  simp [Lit.wf, IntKind.min, IntKind.max, IntKind.signed, IntKind.bits] at h2
  refine ⟨UInt8.ofNat z.toNat, ?_⟩
  rw [h1]
  unfold byteV
  congr 1
  rw [UInt8.toNat_ofNat_of_lt' (by show z.toNat < 256; omega)]
  omega
theorem trod_row {t e : TypeId} {k : IntKind} {v : Value} {n : Nat} {y : DataW H × List MemPlace} (ht : P.underlying t = some (.slice e)) (he : P.underlying e = some (.int k)) (hc : P.cellsOf e = 1)
    (h : DataW.trod enc P W 0 (fun _ => true) held n t [v] = some y) : ∃ a len cap zs, v = .slice a len cap ∧ RowIn k W a len cap zs := by
  rcases open_ints ht he hc h with ⟨hcs, _⟩ | ⟨x, l, c, zs, hcs, _, hl, hm, hz, _, hcell, hwz⟩
  · simp only [List.cons.injEq, and_true] at hcs
    exact ⟨none, 0, 0, [], hcs, .inl ⟨rfl, rfl, rfl, rfl⟩⟩
  · simp only [List.cons.injEq, and_true] at hcs
    exact ⟨_, _, _, zs, hcs, .inr ⟨_, rfl, hl, hm, by simpa using hz, hcell, hwz⟩⟩
end

/-- A call of the disk's laws. -/
structure OpM where
  kind : Int
  at' : Int
  n : Int
  byte : UInt8
  kad : Option Addr
  kcap : Nat
  keep : List Int
instance : Inhabited OpM := ⟨⟨0, 0, 0, 0, none, 0, []⟩⟩
def OpM.row (o : OpM) : List Value := [.int .i64 o.kind, .int .i64 o.at', .int .i64 o.n, byteV o.byte, .slice o.kad o.keep.length o.kcap]
structure OpM.Fine (o : OpM) : Prop where
  kind : -9223372036854775808 ≤ o.kind ∧ o.kind ≤ 9223372036854775807
  at' : -9223372036854775808 ≤ o.at' ∧ o.at' ≤ 9223372036854775807
  n : -9223372036854775808 ≤ o.n ∧ o.n ≤ 9223372036854775807
  keeps : o.keep.length ≤ 9223372036854775807
  keep : ∀ x ∈ o.keep, -9223372036854775808 ≤ x ∧ x ≤ 9223372036854775807

def OpsIn (w : World) (v : Value) (ops : List OpM) : Prop :=
  ∃ ad cap, v = .slice ad ops.length cap ∧ (ops ≠ [] → ∃ b o, ad = some ⟨b, o, none⟩ ∧ ∀ i j u, i < ops.length → (ops.getD i default).row[j]? = some u → w.cell? ⟨b, o + i * 5 + j, none⟩ = some u) ∧
    ∀ k, k < ops.length → IntsIn w (.slice (ops.getD k default).kad (ops.getD k default).keep.length (ops.getD k default).kcap) (ops.getD k default).keep

theorem OpsIn.cells {w : World} {ad : Option Addr} {n cap : Nat} {ops : List OpM} (h : OpsIn w (.slice ad n cap) ops) {k : Nat} (hk : k < ops.length) :
    ∃ b o, ad = some ⟨b, o, none⟩ ∧ w.cell? ⟨b, o + k * 5, none⟩ = some (.int .i64 (ops.getD k default).kind) ∧ w.cell? ⟨b, o + k * 5 + 1, none⟩ = some (.int .i64 (ops.getD k default).at') ∧
      w.cell? ⟨b, o + k * 5 + 2, none⟩ = some (.int .i64 (ops.getD k default).n) ∧ w.cell? ⟨b, o + k * 5 + 3, none⟩ = some (byteV (ops.getD k default).byte) ∧
      w.cell? ⟨b, o + k * 5 + 4, none⟩ = some (.slice (ops.getD k default).kad (ops.getD k default).keep.length (ops.getD k default).kcap) := by
  obtain ⟨ad', cap', hv, hr, _⟩ := h
  simp only [Value.slice.injEq] at hv
  obtain ⟨rfl, _, _⟩ := hv
  obtain ⟨b, o, e, hc⟩ := hr (by intro e; simp [e] at hk)
  exact ⟨b, o, e, hc k 0 _ hk rfl, hc k 1 _ hk rfl, hc k 2 _ hk rfl, hc k 3 _ hk rfl, hc k 4 _ hk rfl⟩
theorem OpsIn.keep {w : World} {v : Value} {ops : List OpM} (h : OpsIn w v ops) {k : Nat} (hk : k < ops.length) :
    IntsIn w (.slice (ops.getD k default).kad (ops.getD k default).keep.length (ops.getD k default).kcap) (ops.getD k default).keep := by
  obtain ⟨ad', cap', hv, hr, h⟩ := h
  exact h k hk

end Go.Proofs.YtcggloceabjjdaaGreat
