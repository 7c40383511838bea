/- Texts of this claim, put together: RSW11, NextI, RSW12, APlaysM, RowB, Ops, OpsZ, TOps, APlaysW; no condition. -/
import Derived.Test.YtcggloceabjjdaaGreatM638bf535fe
import Derived.Test.YtcggloceabjjdaaGreatChecked
import Derived.Deep.Slices
import Derived.Deep.Fields
import Derived.SizedLaws
import Derived.ChangeMaps5
import Derived.Deep.DeepCutAuto
import Derived.Deep.CutBlock

set_option linter.unusedSimpArgs false
set_option linter.unusedVariables false

/- The document's space: a call of it; no condition. -/
namespace Go.Proofs.YtcggloceabjjdaaGreat
open Go.RowKit Go.MapKept

section
variable {y len : Nat} {Y R : Assn} {S S' : SpM} {w : World}
theorem Bears.spcNone (h : Bears w (spcA y Y len S * (Y * R))) : ∃ Z, Bears w (spcA y (Z * Y) len S * ((Z * Y) * R)) := ⟨Assn.emp, by rw [Assn.emp_mul]; exact h⟩

set_option maxRecDepth 100000 in
set_option maxHeartbeats 4000000 in
theorem plays4_any (h : Bears w (spcA y Y 1024 S * (Y * R))) (h64 : ∀ i, (S.G i).length = 64) (hg : S.g < 4611686018427387904) (kd n : Int)
    (hkd : -9223372036854775808 ≤ kd ∧ kd ≤ 9223372036854775807) (hn : -9223372036854775808 ≤ n ∧ n ≤ 9223372036854775807) {b : List UInt8} {ad : Option Addr} {bn cap : Nat} (hb : (Y * R).Tells (fun w => BytesIn w (.slice ad bn cap) b))
    {kk : Nat} (hkk : kk < 12) (hkv : (if kd < 0 then (-(kd + 1)) % 12 else kd % 12) = (kk : Int)) {t : Told} (hs : S.does 1024 kk n b = (t, S')) :
    Calls Tryz.prog 13 #[.pointer (some ⟨y, 0, none⟩), .agg #[.int .i64 kd, .int .i64 n, .slice ad bn cap]] w fun e w' => e = .returned (toldV t) ∧ ∃ Z, Bears w' (spcA y (Z * Y) 1024 S' * ((Z * Y) * R)) := by
  have hbk : -9223372036854775808 ≤ blockN n ∧ blockN n ≤ 9223372036854775807 := by unfold blockN; split <;> omega
  have h1 := h.alloc (.cells #[.int .i64 kd, .int .i64 n, .slice ad bn cap] 36)
  have h2 := h1.alloc (.cells #[.int .i64 0, .string ⟨#[]⟩, .int .i64 0] 45)
  have h3 := h2.alloc (.cells #[.int .i64 0, .string ⟨#[]⟩, .int .i64 0] 45)
  have hsz : ∀ (w : World) o, (w.alloc o).heap.size = w.heap.size + 1 := fun w o => Array.size_push _
  simp only [hsz] at h2 h3
  have Hkv := Lib.hid hkv
  have Hbk := Lib.hid hbk
  have H64 := Lib.hid h64
  clear hkv hsz hbk h64
  have h6 := h3.push4
  have h6 := (h6.cast (by ac_rfl) : Bears _ (spcA y Y 1024 S * (Y * (Assn.obj (w.heap.size + 1 + 1) (.cells #[.int .i64 0, .string ⟨#[]⟩, .int .i64 0] 45 (0, 0)) * (Assn.obj (w.heap.size + 1) (.cells #[.int .i64 0, .string ⟨#[]⟩, .int .i64 0] 45 (0, 0)) * (Assn.obj w.heap.size (.cells #[.int .i64 kd, .int .i64 n, .slice ad bn cap] 36 (0, 0)) * R))))))
  obtain ⟨RR, hRR⟩ : ∃ RR, Assn.obj (w.heap.size + 1) (.cells #[.int .i64 0, .string ⟨#[]⟩, .int .i64 0] 45 (0, 0)) * (Assn.obj w.heap.size (.cells #[.int .i64 kd, .int .i64 n, .slice ad bn cap] 36 (0, 0)) * R) = RR := ⟨_, rfl⟩
  rw [hRR] at h6
  have hb6 : (Y * (Assn.obj (w.heap.size + 1 + 1) (.cells #[.int .i64 0, .string ⟨#[]⟩, .int .i64 0] 45 (0, 0)) * RR)).Tells (fun w => BytesIn w (.slice ad bn cap) b) := fun w hw => by
    rw [← hRR] at hw
    exact hb w hw.pull4.right.pull2.right.pull2.right
  have HRR := Lib.hid hRR
  clear h h1 h2 h3 hb hRR
  go_enter Tryz.func13, Tryz.ntmps13
  go_wp2_with fail
  refine (kind4_any kd 12 _ hkd (by omega)).mono ?_
  rintro e w5 ⟨rfl, rfl⟩
  rw [Hkv.out]
  have b1 := Hbk.out
  go_upto_block 0 with (fail)
  go_cut [6] (fun v wr => ∃ Z ad' l' c', v = .slice ad' l' c' ∧ Bears wr (bufA (.slice ad' l' c') t.b * (spcA y (Z * Y) 1024 S' * ((Z * Y) * (Assn.obj (w.heap.size + 1 + 1) (.cells #[.int .i64 t.n, .string ⟨#[]⟩, .int .i64 t.e] 45 (0, 0)) * RR)))))
  case first =>
    match kk, hkk, hs with
    | 0, _, hs | 1, _, hs =>
      have ht := alloc_told hs
      have Hs := Lib.hid hs
      have Ht := Lib.hid ht
      clear hs ht
      go_wp2_with fail
      refine (rsalloc_any h6 (by omega) (by omega) H64.out Hs.out).mono ?_
      rintro e w7 ⟨rfl, Z, h8⟩
      have c0 := cell_of_obj h8.pull3.obj 0
      have f0 := frozen_of_obj h8.pull3.obj 0
      have c2 := cell_of_obj h8.pull3.obj 2
      have f2 := frozen_of_obj h8.pull3.obj 2
      simp only [List.getElem?_toArray, List.getElem?_cons_zero, List.getElem?_cons_succ] at c0 c2
      have h9 := (h8.pull3.setCell (i := 0) (.int .i64 t.n)).setCell (i := 2) (.int .i64 t.e)
      go_wp2_with fail
      go_meet
      case rel => exact ⟨Z, none, 0, 0, rfl, by rw [Ht.out]; exact h9.push3.bufNil⟩
    | 2, _, hs =>
      have ht := free_told hs
      have Hs := Lib.hid hs
      have Ht := Lib.hid ht
      clear hs ht
      go_wp2_with fail
      refine (block4_any n _ hn).mono ?_
      rintro e w' ⟨rfl, rfl⟩
      go_wp2_with fail
      refine (rsfreeb_any h6 (by omega) (by omega) _ b1 H64.out Hs.out).mono ?_
      rintro e w7 ⟨rfl, h8⟩
      have c2 := cell_of_obj h8.pull3.obj 2
      have f2 := frozen_of_obj h8.pull3.obj 2
      simp only [List.getElem?_toArray, List.getElem?_cons_zero, List.getElem?_cons_succ] at c2
      have h9 := h8.pull3.setCell (i := 2) (.int .i64 t.e)
      go_wp2_with fail
      go_meet
      case rel => exact ⟨Assn.emp, none, 0, 0, rfl, by rw [Ht.out.1, Ht.out.2, Assn.emp_mul]; exact h9.push3.bufNil⟩
    | 3, _, hs =>
      have ht := write_told hs
      have Hs := Lib.hid hs
      have Ht := Lib.hid ht
      clear hs ht
      go_wp2_with fail
      have h6d := h6.drew
      refine wp_region_L (fun w' => ∃ Q, Bears w' (Assn.obj w.heap.size (.cells #[.int .i64 kd, .int .i64 n, .slice ad bn cap] 36 (0, 0)) * Q)) 7 [(true, 0), (true, 1), (true, 2), (true, 4), (true, 5), (false, 3), (false, 6)] [(true, 7), (false, 8)] (by kernel_rfl) (by kernel_rfl) ⟨_, by rw [← HRR.out] at h6d; exact h6d.pull5⟩ ?_
      simp only [pick, List.getElem?_cons_zero, List.getElem?_cons_succ]
      refine wpL_yield (v := ?_) rfl (fun w' hS => ?_) ?_
      rotate_left
      · (obtain ⟨_, hS⟩ := hS; have k1 := cell_of_obj hS.obj 1; have k2 := cell_of_obj hS.obj 2; simp only [List.getElem?_toArray, List.getElem?_cons_zero, List.getElem?_cons_succ] at k1 k2; go_simp; try with_reducible rfl)
      simp only [Act.put, List.setIfInBounds_toArray, List.set_cons_zero, List.set_cons_succ]
      refine wpL_yield (v := ?_) rfl (fun w' hS => ?_) ?_
      rotate_left
      · (obtain ⟨_, hS⟩ := hS; have k1 := cell_of_obj hS.obj 1; have k2 := cell_of_obj hS.obj 2; simp only [List.getElem?_toArray, List.getElem?_cons_zero, List.getElem?_cons_succ] at k1 k2; go_simp; try with_reducible rfl)
      simp only [Act.put, List.setIfInBounds_toArray, List.set_cons_zero, List.set_cons_succ]
      refine wpL_yield (v := ?_) rfl (fun w' hS => ?_) ?_
      rotate_left
      · (obtain ⟨_, hS⟩ := hS; have k1 := cell_of_obj hS.obj 1; have k2 := cell_of_obj hS.obj 2; simp only [List.getElem?_toArray, List.getElem?_cons_zero, List.getElem?_cons_succ] at k1 k2; go_simp; try with_reducible rfl)
      simp only [Act.put, List.setIfInBounds_toArray, List.set_cons_zero, List.set_cons_succ]
      refine wpL_yield (v := ?_) rfl (fun w' hS => ?_) ?_
      rotate_left
      · (obtain ⟨_, hS⟩ := hS; have k1 := cell_of_obj hS.obj 1; have k2 := cell_of_obj hS.obj 2; simp only [List.getElem?_toArray, List.getElem?_cons_zero, List.getElem?_cons_succ] at k1 k2; go_simp; try with_reducible rfl)
      simp only [Act.put, List.setIfInBounds_toArray, List.set_cons_zero, List.set_cons_succ]
      refine wpL_yield (v := ?_) rfl (fun w' hS => ?_) ?_
      rotate_left
      · (obtain ⟨_, hS⟩ := hS; have k1 := cell_of_obj hS.obj 1; have k2 := cell_of_obj hS.obj 2; simp only [List.getElem?_toArray, List.getElem?_cons_zero, List.getElem?_cons_succ] at k1 k2; go_simp; try with_reducible rfl)
      simp only [Act.put, List.setIfInBounds_toArray, List.set_cons_zero, List.set_cons_succ]
      refine wpL_eff rfl ?_
      go_simp
      refine (block4_any n _ hn).mono ?_
      rintro e w' ⟨rfl, rfl⟩
      refine ⟨⟨_, by rw [← HRR.out] at h6d; exact h6d.pull5⟩, ?_⟩
      try simp only [Act.put, List.setIfInBounds_toArray, List.set_cons_zero, List.set_cons_succ]
      refine wpL_eff rfl ?_
      go_simp
      refine (rswrite_any h6d (by omega) (by omega) _ b1 hb6 Hs.out).mono ?_
      rintro e w7 ⟨rfl, Z, h8⟩
      refine ⟨⟨_, by rw [← HRR.out] at h8; exact h8.pull5⟩, ?_⟩
      try simp only [Act.put, List.setIfInBounds_toArray, List.set_cons_zero, List.set_cons_succ]
      have c2 := cell_of_obj h8.pull3.obj 2
      have f2 := frozen_of_obj h8.pull3.obj 2
      simp only [List.getElem?_toArray, List.getElem?_cons_zero, List.getElem?_cons_succ] at c2
      have h9 := h8.pull3.setCell (i := 2) (.int .i64 t.e)
      refine wpL_nil ?_
      refine wpL_yield (v := ?_) rfl (fun w' hS => ?_) ?_
      rotate_left
      · (go_simp; try with_reducible rfl)
      simp only [Act.put, List.setIfInBounds_toArray, List.set_cons_zero, List.set_cons_succ]
      refine wpL_eff rfl ?_
      go_simp
      rename_i hmeet _ _
      refine hmeet _ _ ?_
      go_meet
      case rel => exact ⟨Z, none, 0, 0, rfl, by rw [Ht.out.1, Ht.out.2]; exact h9.push3.bufNil⟩
    | 4, _, hs =>
      obtain ⟨rfl, rfl⟩ : _ = t ∧ S = S' := by simpa [SpM.does] using hs
      have Ht := Lib.hid (read_told (len := 1024) (S := S) (n := blockN n))
      clear hs
      go_wp2_with fail
      refine (block4_any n _ hn).mono ?_
      rintro e w' ⟨rfl, rfl⟩
      go_wp2_with fail
      refine (rsread_any h6 (by omega) (by omega) _ b1 rfl).mono ?_
      rintro e w7 ⟨ad', l', c', rfl, h8⟩
      have c2 := cell_of_obj h8.pull4.obj 2
      have f2 := frozen_of_obj h8.pull4.obj 2
      simp only [List.getElem?_toArray, List.getElem?_cons_zero, List.getElem?_cons_succ] at c2
      have h9 := h8.pull4.setCell (i := 2) (.int .i64 (S.read 1024 (blockN n)).e)
      go_wp2_with fail
      go_meet
      case rel => exact ⟨Assn.emp, _, _, _, rfl, by rw [Ht.out, Assn.emp_mul]; exact h9.push4⟩
    | 5, _, hs | 6, _, hs =>
      have ht := setInode_told hs
      have Hs := Lib.hid hs
      have Ht := Lib.hid ht
      clear hs ht
      go_wp2_with fail
      refine (rssetinode_any h6 (by omega) (by omega) H64.out _ hb6 Hs.out).mono ?_
      rintro e w7 ⟨rfl, Z, h8⟩
      have c2 := cell_of_obj h8.pull3.obj 2
      have f2 := frozen_of_obj h8.pull3.obj 2
      simp only [List.getElem?_toArray, List.getElem?_cons_zero, List.getElem?_cons_succ] at c2
      have h9 := h8.pull3.setCell (i := 2) (.int .i64 t.e)
      go_wp2_with fail
      go_meet
      case rel => exact ⟨Z, none, 0, 0, rfl, by rw [Ht.out.1, Ht.out.2]; exact h9.push3.bufNil⟩
    | 7, _, hs =>
      obtain ⟨rfl, rfl⟩ : _ = t ∧ S = S' := by simpa [SpM.does] using hs
      have Ht := Lib.hid (inode_told (len := 1024) (S := S) (n := n))
      clear hs
      go_wp2_with fail
      refine (rsinode_any h6 _ rfl).mono ?_
      rintro e w7 ⟨ad', l', c', rfl, h8⟩
      have c2 := cell_of_obj h8.pull4.obj 2
      have f2 := frozen_of_obj h8.pull4.obj 2
      simp only [List.getElem?_toArray, List.getElem?_cons_zero, List.getElem?_cons_succ] at c2
      have h9 := h8.pull4.setCell (i := 2) (.int .i64 (S.inode 1024 n).e)
      go_wp2_with fail
      go_meet
      case rel => exact ⟨Assn.emp, _, _, _, rfl, by rw [Ht.out, Assn.emp_mul]; exact h9.push4⟩
    | 8, _, hs =>
      have ht := begins_told hs
      have Hs := Lib.hid hs
      have Ht := Lib.hid ht
      clear hs ht
      go_wp2_with fail
      refine (rsbegin_any h6 Hs.out).mono ?_
      rintro e w7 ⟨rfl, h8⟩
      have c2 := cell_of_obj h8.pull3.obj 2
      have f2 := frozen_of_obj h8.pull3.obj 2
      simp only [List.getElem?_toArray, List.getElem?_cons_zero, List.getElem?_cons_succ] at c2
      have h9 := h8.pull3.setCell (i := 2) (.int .i64 t.e)
      go_wp2_with fail
      go_meet
      case rel => exact ⟨Assn.emp, none, 0, 0, rfl, by rw [Ht.out.1, Ht.out.2, Assn.emp_mul]; exact h9.push3.bufNil⟩
    | 9, _, hs =>
      have ht := commit_told hs
      have Hs := Lib.hid hs
      have Ht := Lib.hid ht
      clear hs ht
      go_wp2_with fail
      refine (rscommit_any h6 (by omega) hg Hs.out).mono ?_
      rintro e w7 ⟨rfl, h8⟩
      have c2 := cell_of_obj h8.pull3.obj 2
      have f2 := frozen_of_obj h8.pull3.obj 2
      simp only [List.getElem?_toArray, List.getElem?_cons_zero, List.getElem?_cons_succ] at c2
      have h9 := h8.pull3.setCell (i := 2) (.int .i64 t.e)
      go_wp2_with fail
      go_meet
      case rel => exact ⟨Assn.emp, none, 0, 0, rfl, by rw [Ht.out.1, Ht.out.2, Assn.emp_mul]; exact h9.push3.bufNil⟩
    | 10, _, hs =>
      have ht := abort_told hs
      have Hs := Lib.hid hs
      have Ht := Lib.hid ht
      clear hs ht
      go_wp2_with fail
      refine (rsabort_any h6 (by omega) Hs.out).mono ?_
      rintro e w7 ⟨rfl, h8⟩
      have c2 := cell_of_obj h8.pull3.obj 2
      have f2 := frozen_of_obj h8.pull3.obj 2
      simp only [List.getElem?_toArray, List.getElem?_cons_zero, List.getElem?_cons_succ] at c2
      have h9 := h8.pull3.setCell (i := 2) (.int .i64 t.e)
      go_wp2_with fail
      go_meet
      case rel => exact ⟨Assn.emp, none, 0, 0, rfl, by rw [Ht.out.1, Ht.out.2, Assn.emp_mul]; exact h9.push3.bufNil⟩
    | 11, _, hs =>
      obtain ⟨rfl, rfl⟩ : (⟨0, [], 0⟩ : Told) = t ∧ S = S' := by simpa [SpM.does] using hs
      clear hs
      go_wp2_with fail
      go_meet
      case rel => exact ⟨Assn.emp, none, 0, 0, rfl, by rw [Assn.emp_mul]; exact h6.bufNil⟩
    | n + 12, h, _ => exact absurd h (by omega)
  case rest =>
    obtain ⟨Z, ad', l', c', rfl, h8⟩ := hcut
    have hb8 := buf_tells _ h8
    have c1 := cell_of_obj h8.pull4.obj 1
    have f1 := frozen_of_obj h8.pull4.obj 1
    simp only [List.getElem?_toArray, List.getElem?_cons_zero, List.getElem?_cons_succ] at c1
    have h9 : Bears (wc.setCell ⟨w.heap.size + 1 + 1, 1, none⟩ (strV t.b)) (Assn.obj (w.heap.size + 1 + 1) (.cells #[.int .i64 t.n, strV t.b, .int .i64 t.e] 45 (0, 0)) * _) := h8.pull4.setCell (i := 1) (strV t.b)
    have d0 := cell_of_obj h9.obj 0
    have d1 := cell_of_obj h9.obj 1
    have d2 := cell_of_obj h9.obj 2
    simp only [List.getElem?_toArray, List.getElem?_cons_zero, List.getElem?_cons_succ] at d0 d1 d2
    have h10 := h9.right.right.push2
    have h13 := (h9.right.right.cast (by rw [← HRR.out]; ac_rfl) : Bears _ (Assn.obj (w.heap.size + 1) (.cells #[.int .i64 0, .string ⟨#[]⟩, .int .i64 0] 45 (0, 0)) * (Assn.obj w.heap.size (.cells #[.int .i64 kd, .int .i64 n, .slice ad bn cap] 36 (0, 0)) * (spcA y (Z * Y) 1024 S' * ((Z * Y) * R)))))
    clear h6 h10
    go_wp2_with (first | (refine wpList_op rfl (exec_convert rfl rfl (run_convert_in hb8)) ?_) | (refine wpList_store_obj h13 rfl rfl rfl rfl rfl (by kernel_rfl) (by intro v hv; simp at hv; rcases hv with rfl | rfl | rfl <;> rfl) ?_; intro w14 h14))
    have hr := rangeAt_of_obj h14.obj
    refine bodyPost_ret (results_cell rfl _ rfl (run_loadVar_mid w14 (w.heap.size + 1) 0 45 [.int .i64 t.n, strV t.b, .int .i64 t.e] _ hr Tryz.underlying45 rfl (by kernel_rfl))) rfl ?_
    exact ⟨rfl, Z, h14.right.right⟩
end

end Go.Proofs.YtcggloceabjjdaaGreat

/- The least free inode; no condition. -/
namespace Go.Proofs.YtcggloceabjjdaaGreat
open Go.RowKit Go.MapKept

section
variable {s p len g : Nat} {k : List Nat} {d : DiskM} {op : Bool} {F G : Nat → Sec} {R : Assn} {w : World}

set_option maxRecDepth 100000 in
set_option maxHeartbeats 1000000 in
theorem nextIno_any (h : Bears w (spA s p d len g k op F G * R)) :
    Calls Tryz.prog 51 #[.pointer (some ⟨s, 0, none⟩)] w fun e w' => ((∃ n, n < 256 ∧ (∀ m, m < n → ifreeB len G m = false) ∧ ifreeB len G n = true ∧ e = .returned (.tuple #[.int .i64 n, .int .i64 0])) ∨ ((∀ m, m < 256 → ifreeB len G m = false) ∧ e = .returned (.tuple #[.int .i64 0, .int .i64 42]))) ∧ Bears w' (spA s p d len g k op F G * R) := by
  go_enter Tryz.func51, Tryz.ntmps51
  go_wp2_with fail
  go_loopw [5] (fun i wr => ∃ j : Nat, j ≤ 256 ∧ i = .int .i64 j ∧ (∀ m, m < j → ifreeB len G m = false) ∧ Bears wr (spA s p d len g k op F G * R)) (fun i _ => 256 - (intOf i).toNat)
  case atStart => exact ⟨0, by omega, rfl, fun m hm => by omega, h⟩
  case round =>
    clear h
    obtain ⟨j, hj, rfl, hm, h1⟩ := hrel
    by_cases hlt : j < 256
    · have hf := ifree_any h1 j hlt
      obtain ⟨b, hb⟩ : ∃ b, ifreeB len G j = b := ⟨_, rfl⟩
      rw [hb] at hf
      have Hb := Lib.hid hb
      have Hm := Lib.hid hm
      clear hb hm
      cases b with
      | true =>
        go_wp2_with fail
        refine hf.mono ?_
        rintro e w2 ⟨rfl, h2⟩
        go_wp2_with fail
        go_ret2
        exact ⟨.inl ⟨j, hlt, Hm.out, Hb.out, rfl⟩, h2⟩
      | false =>
        go_wp2_with fail
        refine hf.mono ?_
        rintro e w2 ⟨rfl, h2⟩
        go_wp2_with fail
        go_roundw
        case rel =>
          refine ⟨j + 1, hlt, by go_num, fun m h => ?_, h2⟩
          rcases Nat.lt_succ_iff_lt_or_eq.1 h with h | rfl
          · exact Hm.out m h
          · exact Hb.out
        case measure => simp [intOf]; omega
    · obtain rfl : j = 256 := by omega
      go_wp2_with fail
      go_ret2
      exact ⟨.inr ⟨hm, rfl⟩, h1⟩

end

end Go.Proofs.YtcggloceabjjdaaGreat

/- A space is as the document's; no condition. -/
namespace Go.Proofs.YtcggloceabjjdaaGreat
open Go.RowKit Go.MapKept

set_option maxRecDepth 100000 in
set_option maxHeartbeats 4000000 in
theorem alike4_any {s p y : Nat} {d : DiskM} {k : List Nat} {S : SpM} {Y R : Assn} {w : World} (h : Bears w (stA s p d 1024 k S * (spcA y Y 1024 S * (Y * R)))) :
    Calls Tryz.prog 14 #[.pointer (some ⟨s, 0, none⟩), .pointer (some ⟨y, 0, none⟩)] w fun e w' => e = .returned (.bool true) ∧ Bears w' (stA s p d 1024 k S * (spcA y Y 1024 S * (Y * R))) := by
  obtain ⟨nb, hnb⟩ : ∃ nb, blkN 1024 S.G = nb := ⟨_, rfl⟩
  obtain ⟨ni, hni⟩ : ∃ ni, ifreeTo 1024 S.G 256 = ni := ⟨_, rfl⟩
  obtain ⟨g, hg⟩ : ∃ g, S.g = g := ⟨_, rfl⟩
  have k1 : ∀ w, Bears w (stA s p d 1024 k S * (spcA y Y 1024 S * (Y * R))) → Calls Tryz.prog 51 #[.pointer (some ⟨s, 0, none⟩)] w fun e w' => ((∃ n, n < 256 ∧ (∀ m, m < n → ifreeB 1024 S.G m = false) ∧ ifreeB 1024 S.G n = true ∧ e = .returned (.tuple #[.int .i64 n, .int .i64 0])) ∨ ((∀ m, m < 256 → ifreeB 1024 S.G m = false) ∧ e = .returned (.tuple #[.int .i64 0, .int .i64 42]))) ∧ Bears w' (stA s p d 1024 k S * (spcA y Y 1024 S * (Y * R))) := fun w h => nextIno_any h
  have k2 : ∀ w, Bears w (stA s p d 1024 k S * (spcA y Y 1024 S * (Y * R))) → Calls Tryz.prog 52 #[.pointer (some ⟨y, 0, none⟩)] w fun e w' => ((∃ n : Nat, n < 256 ∧ (∀ m, m < n → ifreeB 1024 S.G m = false) ∧ ifreeB 1024 S.G n = true ∧ e = .returned (.tuple #[.int .i64 n, .int .i64 0])) ∨
      ((∀ m, m < 256 → ifreeB 1024 S.G m = false) ∧ e = .returned (.tuple #[.int .i64 0, .int .i64 42]))) ∧ w = w' := fun w h => rsnext_any (h.pull2.cast (by ac_rfl) : Bears w (spcA y Y 1024 S * (Y * (stA s p d 1024 k S * R))))
  have k3 : ∀ w, Bears w (stA s p d 1024 k S * (spcA y Y 1024 S * (Y * R))) → Calls Tryz.prog 28 #[.pointer (some ⟨s, 0, none⟩)] w fun e w' => e = .returned (.int .i64 nb) ∧ Bears w' (stA s p d 1024 k S * (spcA y Y 1024 S * (Y * R))) := fun w h => (sblocks_any h).mono fun e w' ⟨h1, h2⟩ => ⟨by rw [h1, hnb], h2⟩
  have k4 : ∀ w, Bears w (stA s p d 1024 k S * (spcA y Y 1024 S * (Y * R))) → Calls Tryz.prog 53 #[.pointer (some ⟨y, 0, none⟩)] w fun e w' => e = .returned (.int .i64 nb) ∧ w = w' := fun w h => by
    have := rsblocks_any h.pull2 (by rw [firstB1024]; decide) (by decide)
    rwa [hnb] at this
  have k5 : ∀ w, Bears w (stA s p d 1024 k S * (spcA y Y 1024 S * (Y * R))) → Calls Tryz.prog 29 #[.pointer (some ⟨s, 0, none⟩)] w fun e w' => e = .returned (.int .i64 ni) ∧ Bears w' (stA s p d 1024 k S * (spcA y Y 1024 S * (Y * R))) := fun w h => (sinodes_any h).mono fun e w' ⟨h1, h2⟩ => ⟨by rw [h1, hni], h2⟩
  have k6 : ∀ w, Bears w (stA s p d 1024 k S * (spcA y Y 1024 S * (Y * R))) → Calls Tryz.prog 54 #[.pointer (some ⟨y, 0, none⟩)] w fun e w' => e = .returned (.int .i64 ni) ∧ w = w' := fun w h => by
    have := rsinodes_any (h.pull2.cast (by ac_rfl) : Bears w (spcA y Y 1024 S * (Y * (stA s p d 1024 k S * R))))
    rwa [hni] at this
  have k7 : ∀ w, Bears w (stA s p d 1024 k S * (spcA y Y 1024 S * (Y * R))) → Calls Tryz.prog 24 #[.pointer (some ⟨s, 0, none⟩)] w fun e w' => e = .returned (.int .i64 g) ∧ Bears w' (stA s p d 1024 k S * (spcA y Y 1024 S * (Y * R))) := fun w h => (sgroups_any h).mono fun e w' ⟨h1, h2⟩ => ⟨by rw [h1, hg], h2⟩
  have k8 : ∀ w, Bears w (stA s p d 1024 k S * (spcA y Y 1024 S * (Y * R))) → w.cell? ⟨y, 5, none⟩ = some (.int .i64 (g : Int)) := fun w h => by
    obtain ⟨was, now, tv, ts, _, h1⟩ := Bears.spc.1 h.pull2
    obtain ⟨_, _, _, _, _, c5, _⟩ := h1.spcCells
    rw [← hg]
    exact c5
  generalize stA s p d 1024 k S * (spcA y Y 1024 S * (Y * R)) = A at *
  clear hnb hni hg
  have e1 : (42 == (0 : Int)) = false := rfl
  go_enter Tryz.func14, Tryz.ntmps14
  go_wp2_with fail
  refine (k1 _ h).mono ?_
  rintro e w1 ⟨hx, h1⟩
  have hk2 := k2 _ h1
  have Hk2 := Lib.hid hk2
  clear hk2 k1 k2
  rcases hx with ⟨n, hn, hm, ht, rfl⟩ | ⟨hm, rfl⟩
  · have Hm := Lib.hid hm
    have Ht := Lib.hid ht
    clear hm ht
    go_wp2_with fail
    refine Hk2.out.mono ?_
    rintro e w2 ⟨hx, rfl⟩
    rcases hx with ⟨n', hn', hm', ht', rfl⟩ | ⟨hm', rfl⟩
    · obtain rfl : n = n' := by
        rcases Nat.lt_trichotomy n n' with h | h | h
        · rw [hm' n h] at Ht; cases Ht.out
        · exact h
        · rw [Hm.out n' h] at ht'; cases ht'
      clear hm' ht' hn'
      go_wp2_with fail
      have h2 := h1.drew
      refine wp_region_L (fun w' => Bears w' A) 31 [(true, 0), (true, 1), (true, 2), (true, 3), (true, 4), (true, 5), (true, 6), (true, 7), (true, 8), (true, 9), (true, 11), (false, 10), (false, 12), (true, 13), (true, 14), (true, 15), (true, 16), (true, 18), (false, 17), (false, 19), (true, 20), (true, 21), (true, 22), (true, 23), (true, 25), (true, 26), (true, 27), (true, 28), (false, 24), (true, 29), (true, 30)] [(true, 31)] (by kernel_rfl) (by kernel_rfl) h2 ?_
      simp only [pick, List.getElem?_cons_zero, List.getElem?_cons_succ]
      refine wpL_yield (v := ?_) rfl (fun w' hS => ?_) ?_
      rotate_left
      · (go_simp; try with_reducible rfl)
      simp only [Act.put, List.setIfInBounds_toArray, List.set_cons_zero, List.set_cons_succ]
      refine wpL_yield (v := ?_) rfl (fun w' hS => ?_) ?_
      rotate_left
      · (go_simp; try with_reducible rfl)
      simp only [Act.put, List.setIfInBounds_toArray, List.set_cons_zero, List.set_cons_succ]
      refine wpL_yield (v := ?_) rfl (fun w' hS => ?_) ?_
      rotate_left
      · (go_simp; try with_reducible rfl)
      simp only [Act.put, List.setIfInBounds_toArray, List.set_cons_zero, List.set_cons_succ]
      refine wpL_yield (v := ?_) rfl (fun w' hS => ?_) ?_
      rotate_left
      · (go_simp; try with_reducible rfl)
      simp only [Act.put, List.setIfInBounds_toArray, List.set_cons_zero, List.set_cons_succ]
      refine wpL_guarded (v := ?_) rfl (fun w' hS => ?_) ?_
      rotate_left
      · (go_simp; try with_reducible rfl)
      simp only [Act.put, List.setIfInBounds_toArray, List.set_cons_zero, List.set_cons_succ]
      refine wpL_guarded (v := ?_) rfl (fun w' hS => ?_) ?_
      rotate_left
      · (go_simp; try with_reducible rfl)
      simp only [Act.put, List.setIfInBounds_toArray, List.set_cons_zero, List.set_cons_succ]
      refine wpL_guarded (v := ?_) rfl (fun w' hS => ?_) ?_
      rotate_left
      · (go_simp; try with_reducible rfl)
      simp only [Act.put, List.setIfInBounds_toArray, List.set_cons_zero, List.set_cons_succ]
      refine wpL_yield (v := ?_) rfl (fun w' hS => ?_) ?_
      rotate_left
      · (go_simp; try with_reducible rfl)
      simp only [Act.put, List.setIfInBounds_toArray, List.set_cons_zero, List.set_cons_succ]
      refine wpL_yield (v := ?_) rfl (fun w' hS => ?_) ?_
      rotate_left
      · (go_simp; try with_reducible rfl)
      simp only [Act.put, List.setIfInBounds_toArray, List.set_cons_zero, List.set_cons_succ]
      refine wpL_guarded (v := ?_) rfl (fun w' hS => ?_) ?_
      rotate_left
      · (go_simp; try with_reducible rfl)
      simp only [Act.put, List.setIfInBounds_toArray, List.set_cons_zero, List.set_cons_succ]
      refine wpL_guarded (v := ?_) rfl (fun w' hS => ?_) ?_
      rotate_left
      · (go_simp; try with_reducible rfl)
      simp only [Act.put, List.setIfInBounds_toArray, List.set_cons_zero, List.set_cons_succ]
      refine wpL_effG rfl ?_
      go_simp
      refine (k3 _ h2).mono ?_
      rintro e w' ⟨rfl, h3⟩
      refine ⟨h3, ?_⟩
      refine wpL_effG rfl ?_
      go_simp
      refine (k4 _ h3).mono ?_
      rintro e w' ⟨rfl, rfl⟩
      refine ⟨h3, ?_⟩
      refine wpL_guarded (v := ?_) rfl (fun w' hS => ?_) ?_
      rotate_left
      · (go_simp; try with_reducible rfl)
      simp only [Act.put, List.setIfInBounds_toArray, List.set_cons_zero, List.set_cons_succ]
      refine wpL_yield (v := ?_) rfl (fun w' hS => ?_) ?_
      rotate_left
      · (go_simp; try with_reducible rfl)
      simp only [Act.put, List.setIfInBounds_toArray, List.set_cons_zero, List.set_cons_succ]
      refine wpL_yield (v := ?_) rfl (fun w' hS => ?_) ?_
      rotate_left
      · (go_simp; try with_reducible rfl)
      simp only [Act.put, List.setIfInBounds_toArray, List.set_cons_zero, List.set_cons_succ]
      refine wpL_guarded (v := ?_) rfl (fun w' hS => ?_) ?_
      rotate_left
      · (go_simp; try with_reducible rfl)
      simp only [Act.put, List.setIfInBounds_toArray, List.set_cons_zero, List.set_cons_succ]
      refine wpL_guarded (v := ?_) rfl (fun w' hS => ?_) ?_
      rotate_left
      · (go_simp; try with_reducible rfl)
      simp only [Act.put, List.setIfInBounds_toArray, List.set_cons_zero, List.set_cons_succ]
      refine wpL_effG rfl ?_
      go_simp
      refine (k5 _ h3).mono ?_
      rintro e w' ⟨rfl, h5⟩
      refine ⟨h5, ?_⟩
      refine wpL_effG rfl ?_
      go_simp
      refine (k6 _ h5).mono ?_
      rintro e w' ⟨rfl, rfl⟩
      refine ⟨h5, ?_⟩
      refine wpL_guarded (v := ?_) rfl (fun w' hS => ?_) ?_
      rotate_left
      · (go_simp; try with_reducible rfl)
      simp only [Act.put, List.setIfInBounds_toArray, List.set_cons_zero, List.set_cons_succ]
      refine wpL_yield (v := ?_) rfl (fun w' hS => ?_) ?_
      rotate_left
      · (go_simp; try with_reducible rfl)
      simp only [Act.put, List.setIfInBounds_toArray, List.set_cons_zero, List.set_cons_succ]
      refine wpL_yield (v := ?_) rfl (fun w' hS => ?_) ?_
      rotate_left
      · (go_simp; try with_reducible rfl)
      simp only [Act.put, List.setIfInBounds_toArray, List.set_cons_zero, List.set_cons_succ]
      refine wpL_guarded (v := ?_) rfl (fun w' hS => ?_) ?_
      rotate_left
      · (have c5 := k8 _ hS; go_simp; try with_reducible rfl)
      simp only [Act.put, List.setIfInBounds_toArray, List.set_cons_zero, List.set_cons_succ]
      refine wpL_guarded (v := ?_) rfl (fun w' hS => ?_) ?_
      rotate_left
      · (have c5 := k8 _ hS; go_simp; try with_reducible rfl)
      simp only [Act.put, List.setIfInBounds_toArray, List.set_cons_zero, List.set_cons_succ]
      refine wpL_guarded (v := ?_) rfl (fun w' hS => ?_) ?_
      rotate_left
      · (have c5 := k8 _ hS; go_simp; try with_reducible rfl)
      simp only [Act.put, List.setIfInBounds_toArray, List.set_cons_zero, List.set_cons_succ]
      refine wpL_guarded (v := ?_) rfl (fun w' hS => ?_) ?_
      rotate_left
      · (have c5 := k8 _ hS; go_simp; try with_reducible rfl)
      simp only [Act.put, List.setIfInBounds_toArray, List.set_cons_zero, List.set_cons_succ]
      refine wpL_guarded (v := ?_) rfl (fun w' hS => ?_) ?_
      rotate_left
      · (have c5 := k8 _ hS; go_simp; try with_reducible rfl)
      simp only [Act.put, List.setIfInBounds_toArray, List.set_cons_zero, List.set_cons_succ]
      refine wpL_effG rfl ?_
      go_simp
      refine (k7 _ h5).mono ?_
      rintro e w' ⟨rfl, h7⟩
      refine ⟨h7, ?_⟩
      refine wpL_guarded (v := ?_) rfl (fun w' hS => ?_) ?_
      rotate_left
      · (go_simp; try with_reducible rfl)
      simp only [Act.put, List.setIfInBounds_toArray, List.set_cons_zero, List.set_cons_succ]
      refine wpL_yield (v := ?_) rfl (fun w' hS => ?_) ?_
      rotate_left
      · (go_simp; try with_reducible rfl)
      simp only [Act.put, List.setIfInBounds_toArray, List.set_cons_zero, List.set_cons_succ]
      refine wpL_nil ?_
      refine wpL_yield (v := ?_) rfl (fun w' hS => ?_) ?_
      rotate_left
      · (go_simp; try with_reducible rfl)
      simp only [Act.put, List.setIfInBounds_toArray, List.set_cons_zero, List.set_cons_succ]
      refine wpL_nil ?_
      go_wp2_with fail
      go_ret
      exact ⟨rfl, h7⟩
    · rw [hm' n hn] at Ht; cases Ht.out
  · have Hm := Lib.hid hm
    clear hm
    go_wp2_with fail
    refine Hk2.out.mono ?_
    rintro e w2 ⟨hx, rfl⟩
    rcases hx with ⟨n', hn', hm', ht', rfl⟩ | ⟨hm', rfl⟩
    · rw [Hm.out n' hn'] at ht'; cases ht'
    · clear hm'
      go_wp2_with fail
      have h2 := h1.drew
      refine wp_region_L (fun w' => Bears w' A) 31 [(true, 0), (true, 1), (true, 2), (true, 3), (true, 4), (true, 5), (true, 6), (true, 7), (true, 8), (true, 9), (true, 11), (false, 10), (false, 12), (true, 13), (true, 14), (true, 15), (true, 16), (true, 18), (false, 17), (false, 19), (true, 20), (true, 21), (true, 22), (true, 23), (true, 25), (true, 26), (true, 27), (true, 28), (false, 24), (true, 29), (true, 30)] [(true, 31)] (by kernel_rfl) (by kernel_rfl) h2 ?_
      simp only [pick, List.getElem?_cons_zero, List.getElem?_cons_succ]
      refine wpL_yield (v := ?_) rfl (fun w' hS => ?_) ?_
      rotate_left
      · (go_simp; try with_reducible rfl)
      simp only [Act.put, List.setIfInBounds_toArray, List.set_cons_zero, List.set_cons_succ]
      refine wpL_yield (v := ?_) rfl (fun w' hS => ?_) ?_
      rotate_left
      · (go_simp; try with_reducible rfl)
      simp only [Act.put, List.setIfInBounds_toArray, List.set_cons_zero, List.set_cons_succ]
      refine wpL_yield (v := ?_) rfl (fun w' hS => ?_) ?_
      rotate_left
      · (go_simp; try with_reducible rfl)
      simp only [Act.put, List.setIfInBounds_toArray, List.set_cons_zero, List.set_cons_succ]
      refine wpL_yield (v := ?_) rfl (fun w' hS => ?_) ?_
      rotate_left
      · (go_simp; try with_reducible rfl)
      simp only [Act.put, List.setIfInBounds_toArray, List.set_cons_zero, List.set_cons_succ]
      refine wpL_guarded (v := ?_) rfl (fun w' hS => ?_) ?_
      rotate_left
      · (go_simp; try with_reducible rfl)
      simp only [Act.put, List.setIfInBounds_toArray, List.set_cons_zero, List.set_cons_succ]
      refine wpL_guarded (v := ?_) rfl (fun w' hS => ?_) ?_
      rotate_left
      · (go_simp; try with_reducible rfl)
      simp only [Act.put, List.setIfInBounds_toArray, List.set_cons_zero, List.set_cons_succ]
      refine wpL_guarded (v := ?_) rfl (fun w' hS => ?_) ?_
      rotate_left
      · (go_simp; try with_reducible rfl)
      simp only [Act.put, List.setIfInBounds_toArray, List.set_cons_zero, List.set_cons_succ]
      refine wpL_yield (v := ?_) rfl (fun w' hS => ?_) ?_
      rotate_left
      · (go_simp; try with_reducible rfl)
      simp only [Act.put, List.setIfInBounds_toArray, List.set_cons_zero, List.set_cons_succ]
      refine wpL_yield (v := ?_) rfl (fun w' hS => ?_) ?_
      rotate_left
      · (go_simp; try with_reducible rfl)
      simp only [Act.put, List.setIfInBounds_toArray, List.set_cons_zero, List.set_cons_succ]
      refine wpL_guarded (v := ?_) rfl (fun w' hS => ?_) ?_
      rotate_left
      · (go_simp; try with_reducible rfl)
      simp only [Act.put, List.setIfInBounds_toArray, List.set_cons_zero, List.set_cons_succ]
      refine wpL_guarded (v := ?_) rfl (fun w' hS => ?_) ?_
      rotate_left
      · (go_simp; try with_reducible rfl)
      simp only [Act.put, List.setIfInBounds_toArray, List.set_cons_zero, List.set_cons_succ]
      refine wpL_effG rfl ?_
      go_simp
      refine (k3 _ h2).mono ?_
      rintro e w' ⟨rfl, h3⟩
      refine ⟨h3, ?_⟩
      refine wpL_effG rfl ?_
      go_simp
      refine (k4 _ h3).mono ?_
      rintro e w' ⟨rfl, rfl⟩
      refine ⟨h3, ?_⟩
      refine wpL_guarded (v := ?_) rfl (fun w' hS => ?_) ?_
      rotate_left
      · (go_simp; try with_reducible rfl)
      simp only [Act.put, List.setIfInBounds_toArray, List.set_cons_zero, List.set_cons_succ]
      refine wpL_yield (v := ?_) rfl (fun w' hS => ?_) ?_
      rotate_left
      · (go_simp; try with_reducible rfl)
      simp only [Act.put, List.setIfInBounds_toArray, List.set_cons_zero, List.set_cons_succ]
      refine wpL_yield (v := ?_) rfl (fun w' hS => ?_) ?_
      rotate_left
      · (go_simp; try with_reducible rfl)
      simp only [Act.put, List.setIfInBounds_toArray, List.set_cons_zero, List.set_cons_succ]
      refine wpL_guarded (v := ?_) rfl (fun w' hS => ?_) ?_
      rotate_left
      · (go_simp; try with_reducible rfl)
      simp only [Act.put, List.setIfInBounds_toArray, List.set_cons_zero, List.set_cons_succ]
      refine wpL_guarded (v := ?_) rfl (fun w' hS => ?_) ?_
      rotate_left
      · (go_simp; try with_reducible rfl)
      simp only [Act.put, List.setIfInBounds_toArray, List.set_cons_zero, List.set_cons_succ]
      refine wpL_effG rfl ?_
      go_simp
      refine (k5 _ h3).mono ?_
      rintro e w' ⟨rfl, h5⟩
      refine ⟨h5, ?_⟩
      refine wpL_effG rfl ?_
      go_simp
      refine (k6 _ h5).mono ?_
      rintro e w' ⟨rfl, rfl⟩
      refine ⟨h5, ?_⟩
      refine wpL_guarded (v := ?_) rfl (fun w' hS => ?_) ?_
      rotate_left
      · (go_simp; try with_reducible rfl)
      simp only [Act.put, List.setIfInBounds_toArray, List.set_cons_zero, List.set_cons_succ]
      refine wpL_yield (v := ?_) rfl (fun w' hS => ?_) ?_
      rotate_left
      · (go_simp; try with_reducible rfl)
      simp only [Act.put, List.setIfInBounds_toArray, List.set_cons_zero, List.set_cons_succ]
      refine wpL_yield (v := ?_) rfl (fun w' hS => ?_) ?_
      rotate_left
      · (go_simp; try with_reducible rfl)
      simp only [Act.put, List.setIfInBounds_toArray, List.set_cons_zero, List.set_cons_succ]
      refine wpL_guarded (v := ?_) rfl (fun w' hS => ?_) ?_
      rotate_left
      · (have c5 := k8 _ hS; go_simp; try with_reducible rfl)
      simp only [Act.put, List.setIfInBounds_toArray, List.set_cons_zero, List.set_cons_succ]
      refine wpL_guarded (v := ?_) rfl (fun w' hS => ?_) ?_
      rotate_left
      · (have c5 := k8 _ hS; go_simp; try with_reducible rfl)
      simp only [Act.put, List.setIfInBounds_toArray, List.set_cons_zero, List.set_cons_succ]
      refine wpL_guarded (v := ?_) rfl (fun w' hS => ?_) ?_
      rotate_left
      · (have c5 := k8 _ hS; go_simp; try with_reducible rfl)
      simp only [Act.put, List.setIfInBounds_toArray, List.set_cons_zero, List.set_cons_succ]
      refine wpL_guarded (v := ?_) rfl (fun w' hS => ?_) ?_
      rotate_left
      · (have c5 := k8 _ hS; go_simp; try with_reducible rfl)
      simp only [Act.put, List.setIfInBounds_toArray, List.set_cons_zero, List.set_cons_succ]
      refine wpL_guarded (v := ?_) rfl (fun w' hS => ?_) ?_
      rotate_left
      · (have c5 := k8 _ hS; go_simp; try with_reducible rfl)
      simp only [Act.put, List.setIfInBounds_toArray, List.set_cons_zero, List.set_cons_succ]
      refine wpL_effG rfl ?_
      go_simp
      refine (k7 _ h5).mono ?_
      rintro e w' ⟨rfl, h7⟩
      refine ⟨h7, ?_⟩
      refine wpL_guarded (v := ?_) rfl (fun w' hS => ?_) ?_
      rotate_left
      · (go_simp; try with_reducible rfl)
      simp only [Act.put, List.setIfInBounds_toArray, List.set_cons_zero, List.set_cons_succ]
      refine wpL_yield (v := ?_) rfl (fun w' hS => ?_) ?_
      rotate_left
      · (go_simp; try with_reducible rfl)
      simp only [Act.put, List.setIfInBounds_toArray, List.set_cons_zero, List.set_cons_succ]
      refine wpL_nil ?_
      refine wpL_yield (v := ?_) rfl (fun w' hS => ?_) ?_
      rotate_left
      · (go_simp; try with_reducible rfl)
      simp only [Act.put, List.setIfInBounds_toArray, List.set_cons_zero, List.set_cons_succ]
      refine wpL_nil ?_
      go_wp2_with fail
      go_ret
      exact ⟨rfl, h7⟩

end Go.Proofs.YtcggloceabjjdaaGreat

/- What a space's calls leave as it was, for AllocPlays; no program in sight. -/
namespace Go.Proofs.YtcggloceabjjdaaGreat
open Go.RowKit Go.MapKept

section
variable {len : Nat} {S S' : SpM} {t : Told} {n : Int} {b : List UInt8}
/-- The sector 0 is no call's. -/
theorem SpM.head_alloc (h : S.alloc len = (t, S')) : S'.F = S.F ∧ S'.g = S.g ∧ S'.G 0 = S.G 0 := by
  unfold SpM.alloc at h
  split at h
  · split at h <;> simp only [Prod.mk.injEq] at h <;> rw [← h.2] <;> refine ⟨rfl, rfl, ?_⟩
    · rename_i m hm
      unfold freeAt at hm
      have hm2 := List.find?_some hm
      simp only [Bool.and_eq_true, decide_eq_true_eq] at hm2
      have hf : firstB len = 621 + mapsN len + 128 := rfl
      show allocG S.G m 0 = S.G 0
      unfold allocG updS
      rw [if_neg (by omega), if_neg (by omega)]
    · rfl
  · simp only [Prod.mk.injEq] at h; rw [← h.2]; exact ⟨rfl, rfl, rfl⟩
theorem SpM.head_free (h : S.free len n = (t, S')) : S'.F = S.F ∧ S'.g = S.g ∧ S'.G 0 = S.G 0 := by
  unfold SpM.free at h
  split at h
  · split at h <;> simp only [Prod.mk.injEq] at h <;> rw [← h.2] <;> refine ⟨rfl, rfl, ?_⟩
    · show freeG S.G n.toNat 0 = S.G 0
      unfold freeG updS
      rw [if_neg (by omega)]
    · rfl
  · simp only [Prod.mk.injEq] at h; rw [← h.2]; exact ⟨rfl, rfl, rfl⟩
theorem SpM.head_write (h : S.write len n b = (t, S')) : S'.F = S.F ∧ S'.g = S.g ∧ S'.G 0 = S.G 0 := by
  unfold SpM.write at h
  split at h
  · split at h <;> simp only [Prod.mk.injEq] at h <;> rw [← h.2] <;> refine ⟨rfl, rfl, ?_⟩
    · rename_i hc
      obtain ⟨m, rfl, hm, _⟩ := chk_range hc
      have hf : firstB len = 621 + mapsN len + 128 := rfl
      show (wrN S.G (m : Int).toNat b).2 0 = S.G 0
      unfold wrN
      split
      · show updS S.G (m : Int).toNat b 0 = S.G 0
        unfold updS
        rw [if_neg (by omega)]
      · rfl
    · rfl
  · simp only [Prod.mk.injEq] at h; rw [← h.2]; exact ⟨rfl, rfl, rfl⟩
theorem SpM.head_setInode (h : S.setInode len n b = (t, S')) : S'.F = S.F ∧ S'.g = S.g ∧ S'.G 0 = S.G 0 := by
  unfold SpM.setInode at h
  split at h
  · split at h <;> simp only [Prod.mk.injEq] at h <;> rw [← h.2] <;> refine ⟨rfl, rfl, ?_⟩
    · rfl
    · have hi : 621 ≤ iSec len n.toNat := by unfold iSec; omega
      show (siN len S.G n.toNat b).2 0 = S.G 0
      unfold siN
      split
      · show updS S.G (iSec len n.toNat) _ 0 = S.G 0
        unfold updS
        rw [if_neg (by omega)]
      · rfl
  · simp only [Prod.mk.injEq] at h; rw [← h.2]; exact ⟨rfl, rfl, rfl⟩

theorem SpM.head_does {kk : Nat} {s0 : Sec} (h1 : S.F 0 = s0) (h2 : S.G 0 = s0) (hs : S.does len kk n b = (t, S')) : S'.F 0 = s0 ∧ S'.G 0 = s0 ∧ S'.g ≤ S.g + 1 := by
  have k : S'.F = S.F ∧ S'.g = S.g ∧ S'.G 0 = S.G 0 → S'.F 0 = s0 ∧ S'.G 0 = s0 ∧ S'.g ≤ S.g + 1 := fun ⟨a, b, c⟩ => ⟨by rw [a, h1], by rw [c, h2], by omega⟩
  unfold SpM.does at hs
  split at hs
  · exact k (SpM.head_alloc hs)
  · exact k (SpM.head_alloc hs)
  · exact k (SpM.head_free hs)
  · exact k (SpM.head_write hs)
  · simp only [Prod.mk.injEq] at hs; obtain ⟨-, rfl⟩ := hs; exact k ⟨rfl, rfl, rfl⟩
  · exact k (SpM.head_setInode hs)
  · exact k (SpM.head_setInode hs)
  · simp only [Prod.mk.injEq] at hs; obtain ⟨-, rfl⟩ := hs; exact k ⟨rfl, rfl, rfl⟩
  · unfold SpM.begins at hs
    split at hs <;> simp only [Prod.mk.injEq] at hs <;> obtain ⟨-, rfl⟩ := hs <;> exact k ⟨rfl, rfl, rfl⟩
  · unfold SpM.commit at hs
    split at hs <;> simp only [Prod.mk.injEq] at hs <;> obtain ⟨-, rfl⟩ := hs
    · exact ⟨h2, h2, Nat.le_refl _⟩
    · exact k ⟨rfl, rfl, rfl⟩
  · unfold SpM.abort at hs
    split at hs <;> simp only [Prod.mk.injEq] at hs <;> obtain ⟨-, rfl⟩ := hs
    · exact ⟨h1, h1, Nat.le_succ _⟩
    · exact k ⟨rfl, rfl, rfl⟩
  · simp only [Prod.mk.injEq] at hs; obtain ⟨-, rfl⟩ := hs; exact k ⟨rfl, rfl, rfl⟩

/-- What is at hand without a transaction is what was laid down. -/
def SpM.Shut (S : SpM) : Prop := S.op = false → S.G = S.F
theorem SpM.shut_does {kk : Nat} (h : S.Shut) (hs : S.does len kk n b = (t, S')) : S'.Shut := by
  have ha : S.alloc len = (t, S') → S'.Shut := fun hs => by
    unfold SpM.alloc at hs
    split at hs
    · rename_i ho
      split at hs <;> simp only [Prod.mk.injEq] at hs <;> obtain ⟨-, rfl⟩ := hs <;> intro e <;> rw [ho] at e <;> cases e
    · simp only [Prod.mk.injEq] at hs; obtain ⟨-, rfl⟩ := hs; exact h
  have hi : S.setInode len n b = (t, S') → S'.Shut := fun hs => by
    unfold SpM.setInode at hs
    split at hs
    · rename_i ho
      split at hs <;> simp only [Prod.mk.injEq] at hs <;> obtain ⟨-, rfl⟩ := hs <;> intro e <;> rw [ho] at e <;> cases e
    · simp only [Prod.mk.injEq] at hs; obtain ⟨-, rfl⟩ := hs; exact h
  unfold SpM.does at hs
  split at hs
  · exact ha hs
  · exact ha hs
  · unfold SpM.free at hs
    split at hs
    · rename_i ho
      split at hs <;> simp only [Prod.mk.injEq] at hs <;> obtain ⟨-, rfl⟩ := hs <;> intro e <;> rw [ho] at e <;> cases e
    · simp only [Prod.mk.injEq] at hs; obtain ⟨-, rfl⟩ := hs; exact h
  · unfold SpM.write at hs
    split at hs
    · rename_i ho
      split at hs <;> simp only [Prod.mk.injEq] at hs <;> obtain ⟨-, rfl⟩ := hs <;> intro e <;> rw [ho] at e <;> cases e
    · simp only [Prod.mk.injEq] at hs; obtain ⟨-, rfl⟩ := hs; exact h
  · simp only [Prod.mk.injEq] at hs; obtain ⟨-, rfl⟩ := hs; exact h
  · exact hi hs
  · exact hi hs
  · simp only [Prod.mk.injEq] at hs; obtain ⟨-, rfl⟩ := hs; exact h
  · unfold SpM.begins at hs
    split at hs <;> simp only [Prod.mk.injEq] at hs <;> obtain ⟨-, rfl⟩ := hs
    · exact h
    · intro e; cases e
  · unfold SpM.commit at hs
    split at hs <;> simp only [Prod.mk.injEq] at hs <;> obtain ⟨-, rfl⟩ := hs
    · exact fun _ => rfl
    · exact h
  · unfold SpM.abort at hs
    split at hs <;> simp only [Prod.mk.injEq] at hs <;> obtain ⟨-, rfl⟩ := hs
    · exact fun _ => rfl
    · exact h
  · simp only [Prod.mk.injEq] at hs; obtain ⟨-, rfl⟩ := hs; exact h
end

end Go.Proofs.YtcggloceabjjdaaGreat

/- From the readings of a row to what a walk is told of its slices; no condition. -/
namespace Go.Proofs.YtcggloceabjjdaaGreat
open Go.RowKit

theorem old_tells {W : World} {p : World → Prop} (h : ∀ w, (∀ b, b < W.heap.size → w.heap[b]? = W.heap[b]?) → p w) : (Assn.old W.heap.size W).Tells p := by
  rintro w ⟨F, rfl, h0, _, _, _, h4⟩
  exact h w h4

/-- The form in which a slice of integers comes in. -/
abbrev RowIn (k : IntKind) (w : World) (a : Option Addr) (len cap : Nat) (zs : List Int) : Prop :=
  (a = none ∧ len = 0 ∧ cap = 0 ∧ zs = []) ∨
  ∃ x, a = some x ∧ len ≤ cap ∧ cap ≤ maxLen ∧ zs.length = cap ∧ (∀ i, i < zs.length → w.cell? (x.add i) = some (.int k (zs.getD i 0))) ∧ ∀ n ∈ zs, (Lit.int k n).wf = true

theorem addr_of_cell {w : World} {x : Addr} {v : Value} (h : w.cell? x = some v) : x = ⟨x.block, x.off, none⟩ := by
  unfold World.cell? at h
  split at h
  · cases hs : x.spot with
    | none => cases x; simp_all
    | some s => simp [hs] at h
  · cases h

theorem row_range {k : IntKind} {W : World} {a : Option Addr} {len cap : Nat} {zs : List Int} (h : RowIn k W a len cap zs) (hl : 0 < len) :
    ∃ b o, a = some ⟨b, o, none⟩ ∧ b < W.heap.size ∧ W.rangeAt b o ((zs.take len).map (Value.int k)) := by
  rcases h with ⟨_, h0, _⟩ | ⟨x, rfl, hlc, _, hz, hc, _⟩
  · omega
  · have h0 := hc 0 (by omega)
    have e0 : x.add 0 = x := by simp [Addr.add]
    rw [e0] at h0
    have ex := addr_of_cell h0
    refine ⟨x.block, x.off, by rw [← ex], World.block_lt_of_cell? W x h0, fun j v hv => ?_⟩
    rw [List.getElem?_map, List.getElem?_take] at hv
    split at hv
    · rename_i hj
      have hj' : j < zs.length := by omega
      have := hc j hj'
      rw [ex, Addr.add_mid] at this
      rw [this]
      rw [List.getElem?_eq_getElem hj'] at hv
      simp only [Option.map_some, Option.some.injEq] at hv
      rw [← hv, List.getD_eq_getElem?_getD, List.getElem?_eq_getElem hj']
      rfl
    · cases hv

theorem range_old {W w : World} {b o : Nat} {cs : List Value} (h : W.rangeAt b o cs) (hb : b < W.heap.size) (hw : ∀ b, b < W.heap.size → w.heap[b]? = W.heap[b]?) : w.rangeAt b o cs :=
  rangeAt_block h (hw b hb)

theorem row_bytes {W : World} {a : Option Addr} {len cap : Nat} {zs : List Int} (h : RowIn .u8 W a len cap zs) :
    ∃ l : List UInt8, l.length = len ∧ (Assn.old W.heap.size W).Tells (fun w => BytesIn w (.slice a len cap) l) ∧ len ≤ 9223372036854775807 := by
  have hlen : (zs.take len).length = len ∧ len ≤ 9223372036854775807 := by
    rcases h with ⟨_, rfl, _, rfl⟩ | ⟨x, _, hlc, hm, hz, _, _⟩
    · simp
    · unfold maxLen at hm
      simp; omega
  have hwf : ∀ n ∈ zs.take len, 0 ≤ n ∧ n ≤ 255 := by
    intro n hn
    rcases h with ⟨_, _, _, rfl⟩ | ⟨x, _, _, _, _, _, hw⟩
    · simp at hn
    · have := hw n (List.mem_of_mem_take hn)
      simp [Lit.wf, IntKind.min, IntKind.max, IntKind.signed, IntKind.bits] at this
      omega
  refine ⟨(zs.take len).map (fun n => UInt8.ofNat n.toNat), by simpa using hlen.1, old_tells (fun w hw => ?_), hlen.2⟩
  have hl2 : ((zs.take len).map (fun n => UInt8.ofNat n.toNat)).length = len := by simpa using hlen.1
  refine ⟨a, cap, by rw [hl2], fun hne => ?_⟩
  have hpos : 0 < len := by rw [← hl2]; exact List.length_pos_iff.2 hne
  obtain ⟨b, o, ha, hb, hr⟩ := row_range h hpos
  refine ⟨b, o, ha, ?_⟩
  have e : cellsV ((zs.take len).map (fun n => UInt8.ofNat n.toNat)) = (zs.take len).map (Value.int .u8) := by
    unfold cellsV
    rw [List.map_map]
    refine List.map_congr_left (fun n hn => ?_)
    have := hwf n hn
    simp only [Function.comp_apply, byteV]
    congr 1
    rw [UInt8.toNat_ofNat_of_lt' (by show n.toNat < 256; omega)]
    omega
  rw [e]
  exact range_old hr hb hw

theorem row_ints {W : World} {a : Option Addr} {len cap : Nat} {zs : List Int} (h : RowIn .i64 W a len cap zs) :
    ∃ l : List Int, l.length = len ∧ (Assn.old W.heap.size W).Tells (fun w => IntsIn w (.slice a len cap) l) ∧ len ≤ 9223372036854775807 ∧ ∀ x ∈ l, -9223372036854775808 ≤ x ∧ x ≤ 9223372036854775807 := by
  have hlen : (zs.take len).length = len ∧ len ≤ 9223372036854775807 := by
    rcases h with ⟨_, rfl, _, rfl⟩ | ⟨x, _, hlc, hm, hz, _, _⟩
    · simp
    · unfold maxLen at hm
      simp; omega
  refine ⟨zs.take len, hlen.1, old_tells (fun w hw => ?_), hlen.2, fun n hn => ?_⟩
  · refine ⟨a, cap, by rw [hlen.1], fun hne => ?_⟩
    have hpos : 0 < len := by rw [← hlen.1]; exact List.length_pos_iff.2 hne
    obtain ⟨b, o, ha, hb, hr⟩ := row_range h hpos
    exact ⟨b, o, ha, range_old hr hb hw⟩
  · rcases h with ⟨_, _, _, rfl⟩ | ⟨x, _, _, _, _, _, hw⟩
    · simp at hn
    · have := hw n (List.mem_of_mem_take hn)
      simp [Lit.wf, IntKind.min, IntKind.max, IntKind.signed, IntKind.bits] at this
      omega

theorem old_below {W w' : World} (h : Bears w' (Assn.old W.heap.size W)) : Below W.heap.size W w' := by
  obtain ⟨F, rfl, h0, h1, h2, h3, h4⟩ := h
  exact ⟨h1, h2, h3, h0, h4⟩

end Go.Proofs.YtcggloceabjjdaaGreat

/- A slice of calls (structs of five cells) that came in: its cells; no condition. -/
namespace Go.Proofs.YtcggloceabjjdaaGreat
open Go.RowKit Go.ChangeShapes Go.WideShapes Go.Deep

section
variable {H : Type} {enc : TypeId × Value → H} {P : Program} {W : World} {spare : Nat → Bool} {held : Bool}

/-- The cells of a slice of structs whose fields are of one cell each, row by row. -/
theorem trod_rows {t e : TypeId} {fs : Array Field} (ht : P.underlying t = some (.slice e)) (he : P.underlying e = some (.struct fs)) (hone : oneCellFields P fs = true) (hC : P.cellsOf e = fs.size) (hpos : 0 < fs.size)
    {a : Option Addr} {len cap fuel : Nat} {x : DataW H × List MemPlace} (h : DataW.trod enc P W 0 spare held fuel t [.slice a len cap] = some x) :
    len ≤ maxLen ∧ ∃ rows : Nat → List Value, (0 < len → ∃ b o, a = some ⟨b, o, none⟩ ∧ b < W.heap.size ∧ ∀ i j, i < len → j < fs.size → W.cell? ⟨b, o + i * fs.size + j, none⟩ = (rows i)[j]?) ∧
      ∀ i, i < len → (rows i).length = fs.size ∧ ∀ (j : Nat) (f : Field), fs[j]? = some f → ∃ v n y, (rows i)[j]? = some v ∧ DataW.trod enc P W 0 spare held n f.type [v] = some y := by
  rcases open_slice ht h with ⟨hcs, _⟩ | ⟨a', len', cap', m, n, D, Pl, hcs, hb, hl, hm, hmm, hx, hi⟩
  · simp only [List.cons.injEq, Value.slice.injEq, and_true] at hcs
    obtain ⟨_, rfl, _⟩ := hcs
    exact ⟨by omega, fun _ => [], fun h => absurd h (by omega), fun i h => absurd h (by omega)⟩
  · simp only [List.cons.injEq, Value.slice.injEq, and_true] at hcs
    obtain ⟨rfl, rfl, rfl⟩ := hcs
    have hlm : len ≤ m := by rw [hmm]; split <;> omega
    obtain ⟨rows, hr⟩ := choose_lt hi
    have hrow : ∀ i, i < len → (rows i).length = fs.size ∧ ∀ j, j < fs.size → W.cell? (a'.add (i * fs.size + j)) = (rows i)[j]? := by
      intro i hi
      obtain ⟨h1, _⟩ := hr i (by omega)
      rw [hC] at h1
      obtain ⟨_, h2, h3⟩ := World.cells?_some h1
      exact ⟨h2, fun j hj => by rw [← add_add]; exact h3 j hj⟩
    refine ⟨by omega, rows, fun h0 => ?_, fun i hi => ⟨(hrow i hi).1, fun j f hj => ?_⟩⟩
    · obtain ⟨h1, h2⟩ := hrow 0 h0
      have h3 := h2 0 hpos
      rw [List.getElem?_eq_getElem (by omega)] at h3
      have e0 : a'.add (0 * fs.size + 0) = a' := by simp [Addr.add]
      rw [e0] at h3
      have ex := addr_of_cell h3
      refine ⟨a'.block, a'.off, by rw [← ex], World.block_lt_of_cell? W a' h3, fun i j hi hj => ?_⟩
      have h4 := (hrow i hi).2 j hj
      rw [ex, Addr.add_mid] at h4
      rw [← h4, Nat.add_assoc]
    · obtain ⟨hcl, h2⟩ := hrow i hi
      obtain ⟨_, h1⟩ := hr i (by omega)
      obtain ⟨ys, n', hn', hy, hlen, hyl, hf⟩ := DataW.trod_struct he h1
      obtain ⟨ho, hk⟩ := hone_of hone j f hj
      have hjl : j < fs.size := (Array.getElem?_eq_some_iff.1 hj).1
      have h4 := hf j f hj
      rw [ho, hk] at h4
      have h5 : ((rows i).drop j).take 1 = [(rows i)[j]'(by omega)] := by
        rw [List.drop_eq_getElem_cons (by omega)]
        rfl
      rw [h5, List.getElem?_eq_getElem (by omega)] at h4
      exact ⟨_, _, _, List.getElem?_eq_getElem (by omega), h4⟩

theorem trod_i64 {t : TypeId} {v : Value} {n : Nat} {y : DataW H × List MemPlace} (ht : P.underlying t = some (.int .i64)) (h : DataW.trod enc P W 0 spare held n t [v] = some y) :
    ∃ z, v = .int .i64 z ∧ -9223372036854775808 ≤ z ∧ z ≤ 9223372036854775807 := by
  obtain ⟨z, h1, _, h2⟩ := DataW.trod_int ht h
  simp only [List.cons.injEq, and_true] at h1
  simp [Lit.wf, IntKind.min, IntKind.max, IntKind.signed, IntKind.bits] at h2
  exact ⟨z, h1, by omega, by omega⟩
theorem trod_u8 {t : TypeId} {v : Value} {n : Nat} {y : DataW H × List MemPlace} (ht : P.underlying t = some (.int .u8)) (h : DataW.trod enc P W 0 spare held n t [v] = some y) : ∃ c, v = byteV c := by
  obtain ⟨z, h1, _, h2⟩ := DataW.trod_int ht h
  simp only [List.cons.injEq, and_true] at h1
  simp [Lit.wf, IntKind.min, IntKind.max, IntKind.signed, IntKind.bits] at h2
  refine ⟨UInt8.ofNat z.toNat, ?_⟩
  rw [h1]
  unfold byteV
  congr 1
  rw [UInt8.toNat_ofNat_of_lt' (by show z.toNat < 256; omega)]
  omega
theorem trod_row {t e : TypeId} {k : IntKind} {v : Value} {n : Nat} {y : DataW H × List MemPlace} (ht : P.underlying t = some (.slice e)) (he : P.underlying e = some (.int k)) (hc : P.cellsOf e = 1)
    (h : DataW.trod enc P W 0 (fun _ => true) held n t [v] = some y) : ∃ a len cap zs, v = .slice a len cap ∧ RowIn k W a len cap zs := by
  rcases open_ints ht he hc h with ⟨hcs, _⟩ | ⟨x, l, c, zs, hcs, _, hl, hm, hz, _, hcell, hwz⟩
  · simp only [List.cons.injEq, and_true] at hcs
    exact ⟨none, 0, 0, [], hcs, .inl ⟨rfl, rfl, rfl, rfl⟩⟩
  · simp only [List.cons.injEq, and_true] at hcs
    exact ⟨_, _, _, zs, hcs, .inr ⟨_, rfl, hl, hm, by simpa using hz, hcell, hwz⟩⟩
end

/-- A call of the disk's laws. -/
structure OpM where
  kind : Int
  at' : Int
  n : Int
  byte : UInt8
  kad : Option Addr
  kcap : Nat
  keep : List Int
instance : Inhabited OpM := ⟨⟨0, 0, 0, 0, none, 0, []⟩⟩
def OpM.row (o : OpM) : List Value := [.int .i64 o.kind, .int .i64 o.at', .int .i64 o.n, byteV o.byte, .slice o.kad o.keep.length o.kcap]
structure OpM.Fine (o : OpM) : Prop where
  kind : -9223372036854775808 ≤ o.kind ∧ o.kind ≤ 9223372036854775807
  at' : -9223372036854775808 ≤ o.at' ∧ o.at' ≤ 9223372036854775807
  n : -9223372036854775808 ≤ o.n ∧ o.n ≤ 9223372036854775807
  keeps : o.keep.length ≤ 9223372036854775807
  keep : ∀ x ∈ o.keep, -9223372036854775808 ≤ x ∧ x ≤ 9223372036854775807

def OpsIn (w : World) (v : Value) (ops : List OpM) : Prop :=
  ∃ ad cap, v = .slice ad ops.length cap ∧ (ops ≠ [] → ∃ b o, ad = some ⟨b, o, none⟩ ∧ ∀ i j u, i < ops.length → (ops.getD i default).row[j]? = some u → w.cell? ⟨b, o + i * 5 + j, none⟩ = some u) ∧
    ∀ k, k < ops.length → IntsIn w (.slice (ops.getD k default).kad (ops.getD k default).keep.length (ops.getD k default).kcap) (ops.getD k default).keep

theorem OpsIn.cells {w : World} {ad : Option Addr} {n cap : Nat} {ops : List OpM} (h : OpsIn w (.slice ad n cap) ops) {k : Nat} (hk : k < ops.length) :
    ∃ b o, ad = some ⟨b, o, none⟩ ∧ w.cell? ⟨b, o + k * 5, none⟩ = some (.int .i64 (ops.getD k default).kind) ∧ w.cell? ⟨b, o + k * 5 + 1, none⟩ = some (.int .i64 (ops.getD k default).at') ∧
      w.cell? ⟨b, o + k * 5 + 2, none⟩ = some (.int .i64 (ops.getD k default).n) ∧ w.cell? ⟨b, o + k * 5 + 3, none⟩ = some (byteV (ops.getD k default).byte) ∧
      w.cell? ⟨b, o + k * 5 + 4, none⟩ = some (.slice (ops.getD k default).kad (ops.getD k default).keep.length (ops.getD k default).kcap) := by
  obtain ⟨ad', cap', hv, hr, _⟩ := h
  simp only [Value.slice.injEq] at hv
  obtain ⟨rfl, _, _⟩ := hv
  obtain ⟨b, o, e, hc⟩ := hr (by intro e; simp [e] at hk)
  exact ⟨b, o, e, hc k 0 _ hk rfl, hc k 1 _ hk rfl, hc k 2 _ hk rfl, hc k 3 _ hk rfl, hc k 4 _ hk rfl⟩
theorem OpsIn.keep {w : World} {v : Value} {ops : List OpM} (h : OpsIn w v ops) {k : Nat} (hk : k < ops.length) :
    IntsIn w (.slice (ops.getD k default).kad (ops.getD k default).keep.length (ops.getD k default).kcap) (ops.getD k default).keep := by
  obtain ⟨ad', cap', hv, hr, h⟩ := h
  exact h k hk

end Go.Proofs.YtcggloceabjjdaaGreat

/- Readings of arguments, with the bounds of their sizes; no condition. -/
namespace Go.Proofs.YtcggloceabjjdaaGreat
open Go.RowKit Go.ChangeShapes Go.WideShapes Go.Deep

section
variable {H : Type} {enc : TypeId × Value → H} {P : Program} {W : World}

/-- The value v reads as something of type t, and is no greater than memory. -/
def TrodZ (enc : TypeId × Value → H) (P : Program) (W : World) (t : TypeId) (v : Value) : Prop :=
  ∃ fuel x, DataW.trod enc P W 0 (fun _ => true) true fuel t [v] = some x ∧ ∀ n ∈ x.1.weights P t, n ≤ reachBytes

theorem TrodZ.i64 {t : TypeId} {v : Value} (ht : P.underlying t = some (.int .i64)) (h : TrodZ enc P W t v) : ∃ z, v = .int .i64 z ∧ -9223372036854775808 ≤ z ∧ z ≤ 9223372036854775807 := by
  obtain ⟨_, _, h, _⟩ := h
  exact trod_i64 ht h
theorem TrodZ.u8 {t : TypeId} {v : Value} (ht : P.underlying t = some (.int .u8)) (h : TrodZ enc P W t v) : ∃ c, v = byteV c := by
  obtain ⟨_, _, h, _⟩ := h
  exact trod_u8 ht h
theorem TrodZ.str {t : TypeId} {v : Value} (ht : P.underlying t = some .string) (h : TrodZ enc P W t v) : ∃ s : ByteArray, v = .string s ∧ s.size ≤ reachBytes := by
  obtain ⟨_, x, h, hz⟩ := h
  obtain ⟨s, h1, rfl, _⟩ := DataW.trod_string ht h
  simp only [List.cons.injEq, and_true] at h1
  refine ⟨s, h1, ?_⟩
  have := hz s.data.toList.length (by simp [DataW.weights])
  simpa using this

theorem weightsAll_mem {e : TypeId} {n : Nat} : ∀ {l : List (DataW H)} {d : DataW H}, d ∈ l → n ∈ d.weights P e → n ∈ DataW.weightsAll P e l
  | _ :: _, _, .head _, h => List.mem_append_left _ h
  | _ :: _, _, .tail _ hm, h => List.mem_append_right _ (weightsAll_mem hm h)

/-- A slice, element by element: its cells, and their readings. -/
theorem TrodZ.slice {t e : TypeId} (ht : P.underlying t = some (.slice e)) {a : Option Addr} {len cap : Nat} (h : TrodZ enc P W t (.slice a len cap)) :
    len ≤ cap ∧ cap * P.bytesOf e ≤ reachBytes ∧ (a = none → len = 0 ∧ cap = 0) ∧ ∀ a', a = some a' → ∀ i, i < cap → ∃ n cs x, W.cells? 0 (a'.add (i * P.cellsOf e)) (P.cellsOf e) = some cs ∧ DataW.trod enc P W 0 (fun _ => true) true n e cs = some x ∧ ∀ n ∈ x.1.weights P e, n ≤ reachBytes := by
  obtain ⟨fuel, x, h, hz⟩ := h
  rcases open_slice ht h with ⟨hcs, _⟩ | ⟨a', len', cap', m, n, D, Pl, hcs, hb, hl, hm, hmm, rfl, hi⟩
  · simp only [List.cons.injEq, Value.slice.injEq, and_true] at hcs
    obtain ⟨rfl, rfl, rfl⟩ := hcs
    exact ⟨Nat.le_refl _, by simp, fun _ => ⟨rfl, rfl⟩, fun a' h => by cases h⟩
  · simp only [List.cons.injEq, Value.slice.injEq, and_true] at hcs
    obtain ⟨rfl, rfl, rfl⟩ := hcs
    simp only [if_true] at hmm
    subst hmm
    simp only [DataW.weights, ht, List.length_map, List.length_range, List.mem_cons, List.mem_append] at hz
    have h1 := hz _ (.inl rfl)
    rw [show len + (m - len) = m by omega] at h1
    refine ⟨hl, h1, (fun h => by cases h), fun a2 e2 i him => ?_⟩
    cases e2
    obtain ⟨cs, h2, h3⟩ := hi i him
    refine ⟨n, cs, _, h2, h3, fun k hk => hz k (.inr ?_)⟩
    by_cases hil : i < len
    · exact .inl (weightsAll_mem (List.mem_map.2 ⟨i, by simpa using hil, rfl⟩) hk)
    · exact .inr (weightsAll_mem (List.mem_map.2 ⟨i - len, by simp; omega, by rw [show len + (i - len) = i by omega]⟩) hk)

/-- A slice of structs whose fields are of one cell each, row by row. -/
theorem TrodZ.rows {t e : TypeId} {fs : Array Field} (ht : P.underlying t = some (.slice e)) (he : P.underlying e = some (.struct fs)) (hone : oneCellFields P fs = true) (hC : P.cellsOf e = fs.size) (hpos : 0 < fs.size)
    {a : Option Addr} {len cap : Nat} (h : TrodZ enc P W t (.slice a len cap)) :
    len * P.bytesOf e ≤ reachBytes ∧ ∃ rows : Nat → List Value, (0 < len → ∃ b o, a = some ⟨b, o, none⟩ ∧ b < W.heap.size ∧ ∀ i j, i < len → j < fs.size → W.cell? ⟨b, o + i * fs.size + j, none⟩ = (rows i)[j]?) ∧
      ∀ i, i < len → (rows i).length = fs.size ∧ ∀ (j : Nat) (f : Field), fs[j]? = some f → ∃ v, (rows i)[j]? = some v ∧ TrodZ enc P W f.type v := by
  obtain ⟨h1, h2, h3, h4⟩ := h.slice ht
  have h5 : len * P.bytesOf e ≤ reachBytes := Nat.le_trans (Nat.mul_le_mul_right _ h1) h2
  cases a with
  | none =>
    obtain ⟨rfl, rfl⟩ := h3 rfl
    exact ⟨h5, fun _ => [], fun h => absurd h (by omega), fun i h => absurd h (by omega)⟩
  | some a' =>
    have hall : ∀ i, i < len → ∃ r : List Value, r.length = fs.size ∧ (∀ j, j < fs.size → W.cell? (a'.add (i * fs.size + j)) = r[j]?) ∧ ∀ (j : Nat) (f : Field), fs[j]? = some f → ∃ v, r[j]? = some v ∧ TrodZ enc P W f.type v := by
      intro i hi
      obtain ⟨n, cs, x, hcs, hx, hz⟩ := h4 a' rfl i (by omega)
      rw [hC] at hcs
      obtain ⟨_, g2, g3⟩ := World.cells?_some hcs
      refine ⟨cs, g2, fun j hj => by rw [← add_add]; exact g3 j hj, fun j f hj => ?_⟩
      obtain ⟨ys, n', hn', rfl, hlen, hyl, hf⟩ := DataW.trod_struct he hx
      obtain ⟨ho, hk⟩ := hone_of hone j f hj
      have hjl : j < fs.size := (Array.getElem?_eq_some_iff.1 hj).1
      have g4 := hf j f hj
      rw [ho, hk] at g4
      have g5 : (cs.drop j).take 1 = [cs[j]'(by omega)] := by
        rw [List.drop_eq_getElem_cons (by omega)]
        rfl
      rw [g5, List.getElem?_eq_getElem (by omega)] at g4
      refine ⟨_, List.getElem?_eq_getElem (by omega), n', _, g4, fun k hk => hz k ?_⟩
      simp only [DataW.weights, he]
      refine DataW.weights_mem_each (j := j) (t := f.type) ?_ ?_ k hk
      · rw [List.getElem?_map, Array.getElem?_toList, hj]; rfl
      · rw [List.getElem?_map, List.getElem?_eq_getElem (by omega)]; rfl
    obtain ⟨rows, hr⟩ := choose_lt hall
    refine ⟨h5, rows, fun h0 => ?_, fun i hi => ⟨(hr i hi).1, (hr i hi).2.2⟩⟩
    obtain ⟨g1, g2, _⟩ := hr 0 h0
    have g3 := g2 0 hpos
    rw [List.getElem?_eq_getElem (by omega)] at g3
    have e0 : a'.add (0 * fs.size + 0) = a' := by simp [Addr.add]
    rw [e0] at g3
    have ex := addr_of_cell g3
    refine ⟨a'.block, a'.off, by rw [← ex], World.block_lt_of_cell? W a' g3, fun i j hi hj => ?_⟩
    have g4 := (hr i hi).2.1 j hj
    rw [ex, Addr.add_mid] at g4
    rw [← g4, Nat.add_assoc]

/-- A slice of elements of one cell each. -/
theorem TrodZ.cells {t e : TypeId} (ht : P.underlying t = some (.slice e)) (hC : P.cellsOf e = 1) {a : Option Addr} {len cap : Nat} (h : TrodZ enc P W t (.slice a len cap)) :
    len * P.bytesOf e ≤ reachBytes ∧ ∃ vs : List Value, vs.length = len ∧ (0 < len → ∃ b o, a = some ⟨b, o, none⟩ ∧ b < W.heap.size ∧ W.rangeAt b o vs) ∧ ∀ v ∈ vs, TrodZ enc P W e v := by
  obtain ⟨h1, h2, h3, h4⟩ := h.slice ht
  have h5 : len * P.bytesOf e ≤ reachBytes := Nat.le_trans (Nat.mul_le_mul_right _ h1) h2
  cases a with
  | none =>
    obtain ⟨rfl, rfl⟩ := h3 rfl
    exact ⟨h5, [], rfl, fun h => absurd h (by omega), fun v h => by cases h⟩
  | some a' =>
    have hall : ∀ i, i < len → ∃ v : Value, W.cell? (a'.add i) = some v ∧ TrodZ enc P W e v := by
      intro i hi
      obtain ⟨n, cs, x, hcs, hx, hz⟩ := h4 a' rfl i (by omega)
      rw [hC, Nat.mul_one] at hcs
      obtain ⟨_, g2, g3⟩ := World.cells?_some hcs
      obtain ⟨v, rfl⟩ : ∃ v, cs = [v] := by
        match cs, g2 with
        | [v], _ => exact ⟨v, rfl⟩
      have g4 := g3 0 (by omega)
      have e0 : ∀ a : Addr, a.add 0 = a := fun a => by simp [Addr.add]
      rw [e0] at g4
      exact ⟨v, g4, n, x, hx, hz⟩
    obtain ⟨f, hf⟩ := choose_lt hall
    refine ⟨h5, (List.range len).map f, by simp, fun h0 => ?_, fun v hv => ?_⟩
    · obtain ⟨g1, _⟩ := hf 0 h0
      have e0 : a'.add 0 = a' := by simp [Addr.add]
      rw [e0] at g1
      have ex := addr_of_cell g1
      refine ⟨a'.block, a'.off, by rw [← ex], World.block_lt_of_cell? W a' g1, fun j v hv => ?_⟩
      have hj : j < len := by have := (List.getElem?_eq_some_iff.1 hv).1; simpa using this
      have g2 := (hf j hj).1
      rw [ex, Addr.add_mid] at g2
      rw [g2]
      simpa [hj] using hv
    · obtain ⟨i, hi, rfl⟩ := List.mem_map.1 hv
      exact (hf i (by simpa using hi)).2
end

section
variable {H : Type} {enc : TypeId × Value → H} {W : World}
/-- The value v is a slice of the bytes l in the old memory. -/
theorem TrodZ.bytes {v : Value} {ad : Option Addr} {len cap : Nat} (hv : v = .slice ad len cap) (h : TrodZ enc Tryz.prog W 34 v) :
    ∃ l : List UInt8, l.length = len ∧ (Assn.old W.heap.size W).Tells (fun w => BytesIn w (.slice ad len cap) l) ∧ len ≤ 140737488351232 := by
  subst hv
  obtain ⟨h1, vs, rfl, h2, h3⟩ := h.cells (e := 5) Tryz.underlying34 (by kernel_rfl)
  rw [show Tryz.prog.bytesOf 5 = 1 from by kernel_rfl, Nat.mul_one] at h1
  have hall : ∀ i, i < vs.length → ∃ c : UInt8, vs[i]? = some (byteV c) := by
    intro i hi
    obtain ⟨c, hc⟩ := (h3 _ (List.getElem_mem hi)).u8 (by kernel_rfl)
    exact ⟨c, by rw [List.getElem?_eq_getElem hi, hc]⟩
  obtain ⟨f, hf⟩ := choose_lt hall
  have he : cellsV ((List.range vs.length).map f) = vs := by
    apply List.ext_getElem?
    intro i
    unfold cellsV
    by_cases hi : i < vs.length
    · rw [hf i hi]; simp [hi]
    · rw [List.getElem?_eq_none (by simp; omega), List.getElem?_eq_none (by omega)]
  refine ⟨(List.range vs.length).map f, by simp, fun w hw => ⟨ad, cap, by simp, fun hne => ?_⟩, by unfold reachBytes at h1; omega⟩
  have hpos : 0 < vs.length := by
    rcases Nat.eq_zero_or_pos vs.length with e | e
    · rw [e] at hne; simp at hne
    · exact e
  obtain ⟨b, o, ha, hb, hr⟩ := h2 hpos
  rw [he]
  exact ⟨b, o, ha, old_tells (p := fun w => w.rangeAt b o vs) (fun w hw => range_old hr hb hw) w hw⟩
/-- The value v is a slice of the integers l in the old memory. -/
theorem TrodZ.ints {v : Value} {ad : Option Addr} {len cap : Nat} (hv : v = .slice ad len cap) (h : TrodZ enc Tryz.prog W 50 v) :
    ∃ l : List Int, l.length = len ∧ (Assn.old W.heap.size W).Tells (fun w => IntsIn w (.slice ad len cap) l) ∧ len ≤ 140737488351232 ∧ ∀ x ∈ l, -9223372036854775808 ≤ x ∧ x ≤ 9223372036854775807 := by
  subst hv
  obtain ⟨h1, vs, rfl, h2, h3⟩ := h.cells (e := 3) Tryz.underlying50 (by kernel_rfl)
  rw [show Tryz.prog.bytesOf 3 = 8 from by kernel_rfl] at h1
  have hall : ∀ i, i < vs.length → ∃ c : Int, vs[i]? = some (.int .i64 c) ∧ -9223372036854775808 ≤ c ∧ c ≤ 9223372036854775807 := by
    intro i hi
    obtain ⟨c, hc, hb⟩ := (h3 _ (List.getElem_mem hi)).i64 (by kernel_rfl)
    exact ⟨c, by rw [List.getElem?_eq_getElem hi, hc], hb⟩
  obtain ⟨f, hf⟩ := choose_lt hall
  have he : ((List.range vs.length).map f).map (Value.int .i64) = vs := by
    apply List.ext_getElem?
    intro i
    by_cases hi : i < vs.length
    · rw [(hf i hi).1]; simp [hi]
    · rw [List.getElem?_eq_none (by simp; omega), List.getElem?_eq_none (by omega)]
  refine ⟨(List.range vs.length).map f, by simp, fun w hw => ⟨ad, cap, by simp, fun hne => ?_⟩, by unfold reachBytes at h1; omega, fun x hx => ?_⟩
  · have hpos : 0 < vs.length := by
      rcases Nat.eq_zero_or_pos vs.length with e | e
      · rw [e] at hne; simp at hne
      · exact e
    obtain ⟨b, o, ha, hb, hr⟩ := h2 hpos
    rw [he]
    exact ⟨b, o, ha, old_tells (p := fun w => w.rangeAt b o vs) (fun w hw => range_old hr hb hw) w hw⟩
  · obtain ⟨i, hi, rfl⟩ := List.mem_map.1 hx
    exact (hf i (by simpa using hi)).2
end

end Go.Proofs.YtcggloceabjjdaaGreat

/- A slice of the space's calls (a kind, a number, bytes) that came in; no condition. -/
namespace Go.Proofs.YtcggloceabjjdaaGreat
open Go.RowKit Go.ChangeShapes Go.WideShapes Go.Deep

structure TOpM where
  kind : Int
  n : Int
  b : List UInt8
  bad : Option Addr
  bcap : Nat
instance : Inhabited TOpM := ⟨⟨0, 0, [], none, 0⟩⟩
def TOpM.row (o : TOpM) : List Value := [.int .i64 o.kind, .int .i64 o.n, .slice o.bad o.b.length o.bcap]
structure TOpM.Fine (o : TOpM) : Prop where
  kind : -9223372036854775808 ≤ o.kind ∧ o.kind ≤ 9223372036854775807
  n : -9223372036854775808 ≤ o.n ∧ o.n ≤ 9223372036854775807
  b : o.b.length ≤ 140737488351232

def TOpsIn (w : World) (v : Value) (ops : List TOpM) : Prop :=
  ∃ ad cap, v = .slice ad ops.length cap ∧ (ops ≠ [] → ∃ b o, ad = some ⟨b, o, none⟩ ∧ ∀ i j u, i < ops.length → (ops.getD i default).row[j]? = some u → w.cell? ⟨b, o + i * 3 + j, none⟩ = some u) ∧
    ∀ k, k < ops.length → BytesIn w (.slice (ops.getD k default).bad (ops.getD k default).b.length (ops.getD k default).bcap) (ops.getD k default).b

theorem TOpsIn.cells {w : World} {ad : Option Addr} {n cap : Nat} {ops : List TOpM} (h : TOpsIn w (.slice ad n cap) ops) {k : Nat} (hk : k < ops.length) :
    ∃ b o, ad = some ⟨b, o, none⟩ ∧ w.cell? ⟨b, o + k * 3, none⟩ = some (.int .i64 (ops.getD k default).kind) ∧ w.cell? ⟨b, o + k * 3 + 1, none⟩ = some (.int .i64 (ops.getD k default).n) ∧
      w.cell? ⟨b, o + k * 3 + 2, none⟩ = some (.slice (ops.getD k default).bad (ops.getD k default).b.length (ops.getD k default).bcap) := by
  obtain ⟨ad', cap', hv, hr, _⟩ := h
  simp only [Value.slice.injEq] at hv
  obtain ⟨rfl, _, _⟩ := hv
  obtain ⟨b, o, e, hc⟩ := hr (by intro e; simp [e] at hk)
  exact ⟨b, o, e, hc k 0 _ hk rfl, hc k 1 _ hk rfl, hc k 2 _ hk rfl⟩
theorem TOpsIn.bytes {w : World} {v : Value} {ops : List TOpM} (h : TOpsIn w v ops) {k : Nat} (hk : k < ops.length) :
    BytesIn w (.slice (ops.getD k default).bad (ops.getD k default).b.length (ops.getD k default).bcap) (ops.getD k default).b := by
  obtain ⟨_, _, _, _, h⟩ := h
  exact h k hk

theorem row_tops {H : Type} {enc : TypeId × Value → H} {W : World} {a : Option Addr} {len cap : Nat} (h : TrodZ enc Tryz.prog W 22 (.slice a len cap)) :
    ∃ ops : List TOpM, ops.length = len ∧ (Assn.old W.heap.size W).Tells (fun w => TOpsIn w (.slice a len cap) ops) ∧ len ≤ 9223372036854775807 ∧ ∀ k, k < ops.length → (ops.getD k default).Fine := by
  obtain ⟨hm, rows, hcell, hrow⟩ := h.rows (e := 36) Tryz.underlying22 Tryz.underlying36 (by kernel_rfl) (by kernel_rfl) (by decide)
  have hby : 0 < Tryz.prog.bytesOf 36 := by decide +kernel
  have hlen : len ≤ 9223372036854775807 := by
    have := Nat.le_trans (Nat.le_mul_of_pos_right len hby) hm
    unfold reachBytes at this
    omega
  have hop : ∀ i, i < len → ∃ o : TOpM, rows i = o.row ∧ (Assn.old W.heap.size W).Tells (fun w => BytesIn w (.slice o.bad o.b.length o.bcap) o.b) ∧ o.Fine := by
    intro i hi
    obtain ⟨hl, hf⟩ := hrow i hi
    obtain ⟨v0, g0, h0⟩ := hf 0 _ rfl
    obtain ⟨v1, g1, h1⟩ := hf 1 _ rfl
    obtain ⟨v2, g2, h2⟩ := hf 2 _ rfl
    obtain ⟨z0, rfl, b0⟩ := h0.i64 (by kernel_rfl)
    obtain ⟨z1, rfl, b1⟩ := h1.i64 (by kernel_rfl)
    obtain ⟨ba, bl, bc, rfl⟩ : ∃ a l c, v2 = .slice a l c := by
      obtain ⟨_, _, hx, _⟩ := h2
      rcases open_slice Tryz.underlying34 hx with ⟨hcs, _⟩ | ⟨a', l', c', _, _, _, _, hcs, _⟩
      · simp only [List.cons.injEq, and_true] at hcs; exact ⟨_, _, _, hcs⟩
      · simp only [List.cons.injEq, and_true] at hcs; exact ⟨_, _, _, hcs⟩
    obtain ⟨l, rfl, ht, hb⟩ := TrodZ.bytes rfl h2
    refine ⟨⟨z0, z1, l, ba, bc⟩, ?_, ht, ⟨b0, b1, hb⟩⟩
    match hq : rows i, hl with
    | [u0, u1, u2], _ =>
      rw [hq] at g0 g1 g2
      simp only [List.getElem?_cons_zero, List.getElem?_cons_succ, Option.some.injEq] at g0 g1 g2
      subst g0; subst g1; subst g2
      rfl
  obtain ⟨f, hf⟩ := choose_lt hop
  have hget : ∀ i, i < len → ((List.range len).map f).getD i default = f i := by
    intro i hi
    simp [hi]
  refine ⟨(List.range len).map f, by simp, ?_, hlen, fun k hk => ?_⟩
  · intro w hw
    refine ⟨a, cap, by simp, fun hne => ?_, fun k hk => ?_⟩
    · have hpos : 0 < len := by
        rcases Nat.eq_zero_or_pos len with e | e
        · subst e; simp at hne
        · exact e
      obtain ⟨b, o, ha, hb, hc⟩ := hcell hpos
      refine ⟨b, o, ha, fun i j u hi hu => ?_⟩
      simp only [List.length_map, List.length_range] at hi
      rw [hget i hi] at hu
      have hj : j < 3 := by
        have := (List.getElem?_eq_some_iff.1 hu).1
        simpa [TOpM.row] using this
      have h1 := hc i j hi hj
      rw [(hf i hi).1, hu] at h1
      have h2 : w.rangeAt b (o + i * 3 + j) [u] := old_tells (p := fun w => w.rangeAt b (o + i * 3 + j) [u]) (fun w hw => range_old (fun j' v' hv' => by
        cases j' with
        | zero => simp only [List.getElem?_cons_zero, Option.some.injEq] at hv'; subst hv'; exact h1
        | succ n => simp at hv') hb hw) w hw
      exact h2 0 u rfl
    · simp only [List.length_map, List.length_range] at hk
      rw [hget k hk]
      exact (hf k hk).2.1 w hw
  · simp only [List.length_map, List.length_range] at hk
    rw [hget k hk]
    exact (hf k hk).2.2

end Go.Proofs.YtcggloceabjjdaaGreat

/- AllocPlays walked; no condition. -/
namespace Go.Proofs.YtcggloceabjjdaaGreat
open Go.RowKit Go.MapKept

theorem kind12' (c : Int) : ∃ s : Nat, s < 12 ∧ (if c < 0 then (-(c + 1)) % 12 else c % 12) = (s : Int) := kindN_lt c 12 (by decide)

/-- What is there of a space whose owner opens it anew. -/
theorem Bears.stReopen {s p : Nat} {d : DiskM} {k : List Nat} {S : SpM} {R : Assn} {w : World} (h : Bears w (stA s p d 1024 k S * R)) : LogOn d 1 620 S.g S.F ∧ d.len = 1024 ∧ (∀ i, (S.F i).length = 64) ∧ Bears w (diskA p d * R) := by
  obtain ⟨c, x, hok, h1⟩ := Bears.sp.1 h
  exact ⟨hok.log, hok.size, hok.f64, h1.right.right.pull2.right⟩

set_option maxRecDepth 100000 in
set_option maxHeartbeats 4000000 in
theorem allocPlays_walk {R : Assn} {w : World} (h : Bears w R) {oad : Option Addr} {on ocap : Nat} {ops : List TOpM} (hops : R.Tells (fun w => TOpsIn w (.slice oad on ocap) ops)) (hon : ops.length = on) (hfine : ∀ k, k < ops.length → (ops.getD k default).Fine) (hlo : on ≤ 9223372036854775807) :
    Calls Tryz.prog 3 #[.slice oad on ocap] w fun e w' => e = .returned (.bool true) ∧ Bears w' R := by
  have Hfine := Lib.hid hfine
  have Hops := Lib.hid hops
  have Hon := Lib.hid hon
  clear hfine hops hon
  have hsb : superB 1024 = superB 1024 := rfl
  obtain ⟨s0, hs0⟩ : ∃ s, superB 1024 = s := ⟨_, rfl⟩
  have Hs0 := Lib.hid hs0
  clear hsb hs0
  go_enter Tryz.func3, Tryz.ntmps3
  go_wp2_with fail
  refine (shown4_any h).mono ?_
  rintro e w1 ⟨rfl, h1⟩
  go_wp2_with fail
  refine (ground4_any h1).mono ?_
  rintro e w2 ⟨p, sp0, d0, rfl, hfu0, h2⟩
  go_wp2_with fail
  refine (rsnew_any h2).mono ?_
  rintro e w3 ⟨y, rfl, h3⟩
  have h4 : Bears w3 (stA sp0 p d0 1024 (outL 1024) ⟨0, false, freshF 1024, freshF 1024⟩ * (spcA y Assn.emp 1024 ⟨0, false, freshF 1024, freshF 1024⟩ * (Assn.emp * R))) := by
    have := h3.pull3.spLeast
    exact this.cast (by ac_rfl)
  have hf0 : freshF 1024 0 = s0 := Hs0.out
  have HF0 := Lib.hid hf0
  generalize freshF 1024 = F0 at h4 HF0
  clear h h1 h2 h3 hf0
  go_wp2_with fail
  go_loopw [5, 8] (fun sv iv wr => ∃ (k s : Nat) (Y : Assn) (d : DiskM) (S : SpM), k ≤ ops.length ∧ k ≤ 200 ∧ iv = .int .i64 k ∧ sv = .pointer (some ⟨s, 0, none⟩) ∧ d.fuse = -1 ∧ S.g ≤ k ∧ Hid (S.F 0 = s0) ∧ Hid (S.G 0 = s0) ∧ S.Shut ∧
    Bears wr (stA s p d 1024 (outL 1024) S * (spcA y Y 1024 S * (Y * R)))) (fun _ iv _ => 200 - (intOf iv).toNat)
  case atStart => exact ⟨0, sp0, Assn.emp, d0, _, by omega, by omega, rfl, rfl, hfu0, Nat.zero_le _, HF0, HF0, fun _ => rfl, h4⟩
  case round =>
    clear h4 hfu0 HF0
    obtain ⟨k, s, Y, d, S, hk, hk2, rfl, rfl, hfu, hSg, HF, HG, hsh, h5⟩ := hrel
    by_cases hlt : k < ops.length ∧ k < 200
    · obtain ⟨hlt, hlt2⟩ := hlt
      obtain ⟨ob, oo, rfl, q0, q1, q2⟩ := (Hops.out _ h5.right.right.right).cells hlt
      have hop := Hfine.out k hlt
      have hbt := Hops.out.mono (fun w h => h.bytes hlt)
      have hkI : (k : Int) < (on : Int) := by have := Hon.out; omega
      have hk40 : (k : Int) < 200 := by omega
      generalize hc : ops.getD k default = op at q0 q1 q2 hop hbt
      have hc2 := hc
      obtain ⟨kd, n, obs, oad, ocp⟩ := op
      simp only at q0 q1 q2 hbt
      obtain ⟨kk, hkk, hkv⟩ := kind12' kd
      have Hkv := Lib.hid hkv
      have Hop := Lib.hid hop
      have Hbt := Lib.hid hbt
      clear hc hkv hop hbt
      have hmany := rsmany_any h5.pull2 (by omega)
      have Hmany := Lib.hid hmany
      clear hmany
      go_wp2_with fail
      refine Hmany.out.mono ?_
      rintro e w' ⟨⟨m, hm, rfl⟩, rfl⟩
      by_cases hmm : 400 < (m : Int)
      · go_wp2_with fail
        go_ret
        exact ⟨rfl, h5.right.right.right⟩
      clear Hmany
      by_cases h11 : kk = 11
      · subst h11
        go_wp2_with fail
        refine (kind4_any kd 12 _ Hop.out.kind (by omega)).mono ?_
        rintro e w' ⟨rfl, rfl⟩
        rw [Hkv.out]
        obtain ⟨hL, hdl, hF64, h6⟩ := h5.stReopen
        have hop2 := space_opens h6 hL (by rw [hdl]; omega) (by rw [hdl]; omega) (by rw [hdl]; exact HF.out.trans Hs0.out.symm) hF64 (by omega)
        rw [hdl] at hop2
        have Hop2 := Lib.hid hop2
        have HL := Lib.hid hL
        clear hop2 hL hdl hF64 h5 h6
        go_wp2_with fail
        refine Hop2.out.mono ?_
        rintro e w7 ⟨s2, rfl, h7⟩
        have h8 := h7.spLeast
        obtain ⟨was, now, tv, ts, _, h9⟩ := Bears.spc.1 h8.pull2
        obtain ⟨_, _, _, c3, _, _, _⟩ := h9.spcCells
        clear h9 h7
        obtain ⟨g, op, F, G⟩ := S
        simp only at c3 hSg HF HG h8
        cases op with
        | false =>
          obtain rfl : F = G := (hsh rfl).symm
          go_wp2_with fail
          go_roundw
          case rel => exact ⟨k + 1, s2, Y, d, ⟨g, false, F, F⟩, hlt, hlt2, by go_num, rfl, hfu, Nat.le_succ_of_le hSg, HF, HF, fun _ => rfl, h8⟩
          case measure => simp [intOf]; omega
        | true =>
          have hab := fun w Q (h : Bears w (spcA y Y 1024 ⟨g, true, F, G⟩ * Q)) => rsabort_any h (by omega) (t := ⟨0, [], 0⟩) (S' := ⟨g, false, F, F⟩) rfl
          have Hab := Lib.hid hab
          clear hab
          go_wp2_with fail
          refine (Hab.out _ _ h8.pull2).mono ?_
          rintro e w9 ⟨rfl, h9⟩
          go_wp2_with fail
          go_roundw
          case rel => exact ⟨k + 1, s2, Y, d, ⟨g, false, F, F⟩, hlt, hlt2, by go_num, rfl, hfu, Nat.le_succ_of_le hSg, HF, HF, fun _ => rfl, h9.pull2⟩
          case measure => simp [intOf]; omega
      · have e11 : ((kk : Int) == 11) = false := by simpa using (show ¬ (kk : Int) = 11 by omega)
        have h64 := h5.sp64
        cases hs : S.does 1024 kk n obs with | mk t S' =>
        obtain ⟨hF2, hG2, hg2⟩ := SpM.head_does HF.out HG.out hs
        have hsh2 := SpM.shut_does hsh hs
        have hbb : obs.length ≤ 140737488355328 := by have := Hop.out.b; simp only at this; omega
        have hdo := does4_any h5 hfu (by omega) kd n Hop.out.kind Hop.out.n (fun w hw => Hbt.out w hw.right.right) hbb hkk Hkv.out hs
        have hpl := fun w Q (h : Bears w (spcA y Y 1024 S * (Y * Q))) (hq : Q.Tells (fun w => BytesIn w (.slice oad obs.length ocp) obs)) => plays4_any h h64 (by omega) kd n Hop.out.kind Hop.out.n (fun w hw => hq w hw.right) hkk Hkv.out hs
        have Hdo := Lib.hid hdo
        have Hpl := Lib.hid hpl
        have HF2 := Lib.hid hF2
        have HG2 := Lib.hid hG2
        clear hdo hpl h64 hs h5 hF2 hG2 HF HG
        go_wp2_with fail
        refine (kind4_any kd 12 _ Hop.out.kind (by omega)).mono ?_
        rintro e w' ⟨rfl, rfl⟩
        rw [Hkv.out]
        go_wp2_with fail
        refine Hdo.out.mono ?_
        rintro e w8 ⟨d8, rfl, hfu8, h8⟩
        have h9 := h8.alloc (.cells #[.int .i64 t.n, strV t.b, .int .i64 t.e] 45)
        obtain ⟨ob2, oo2, had2, r0, r1, r2⟩ := (Hops.out _ h9.right.right.right.right).cells hlt
        have e2 : ob2 = ob ∧ oo2 = oo := by simpa [eq_comm] using had2
        obtain ⟨rfl, rfl⟩ := e2
        rw [hc2] at r0 r1 r2
        simp only at r0 r1 r2
        have h10 : Bears _ (spcA y Y 1024 S * (Y * (Assn.obj w8.heap.size (.cells #[.int .i64 t.n, strV t.b, .int .i64 t.e] 45 (0, 0)) * (stA s p d8 1024 (outL 1024) S' * R)))) := h9.cast (by ac_rfl)
        have hcp := Hpl.out _ _ h10 (fun w hw => Hbt.out w hw.right.right)
        have Hcp := Lib.hid hcp
        clear q0 q1 q2 hcp h8 h10 Hpl Hdo
        go_wp2_with fail
        refine Hcp.out.mono ?_
        rintro e w11 ⟨rfl, Z, h11⟩
        have h12 := h11.alloc (.cells #[.int .i64 t.n, strV t.b, .int .i64 t.e] 45)
        have h13 : Bears _ (stA s p d8 1024 (outL 1024) S' * (spcA y (Z * Y) 1024 S' * ((Z * Y) * (Assn.obj w11.heap.size (.cells #[.int .i64 t.n, strV t.b, .int .i64 t.e] 45 (0, 0)) * (Assn.obj w8.heap.size (.cells #[.int .i64 t.n, strV t.b, .int .i64 t.e] 45 (0, 0)) * R))))) := h12.cast (by ac_rfl)
        have hal := alike4_any h13
        have Hal := Lib.hid hal
        clear hal h9 h11 h12 h13 Hcp r0 r1 r2
        go_wp2_with fail
        refine Hal.out.mono ?_
        rintro e w14 ⟨rfl, h14⟩
        have a0 := cell_of_obj h14.pull4.obj 0
        have a1 := cell_of_obj h14.pull4.obj 1
        have a2 := cell_of_obj h14.pull4.obj 2
        have b0 := cell_of_obj h14.pull5.obj 0
        have b1 := cell_of_obj h14.pull5.obj 1
        have b2 := cell_of_obj h14.pull5.obj 2
        simp only [List.getElem?_toArray, List.getElem?_cons_zero, List.getElem?_cons_succ] at a0 a1 a2 b0 b1 b2
        go_wp2_with fail
        go_roundw
        case rel => exact ⟨k + 1, s, Z * Y, d8, S', hlt, hlt2, by go_num, rfl, hfu8, by omega, HF2, HG2, hsh2, h14.pull5.right.pull4.right.cast (by ac_rfl)⟩
        case measure => simp [intOf]; omega
    · have hlt' : ¬ (k < on ∧ k < 200) := by rw [← Hon.out]; exact hlt
      go_wp2_with fail
      all_goals
        go_ret
        exact ⟨rfl, h5.right.right.right⟩

end Go.Proofs.YtcggloceabjjdaaGreat
