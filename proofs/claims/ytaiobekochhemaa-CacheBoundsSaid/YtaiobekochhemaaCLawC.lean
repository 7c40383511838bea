/- The statements of the cache: the document's examples; no condition. -/
import Derived.Test.YtaiobekochhemaaCLawB
import Derived.Test.YtaiobekochhemaaCacheT
namespace Go.Proofs.Ytaiobekochhemaa
open Go.RowKit Go.MapKept

set_option maxRecDepth 100000 in
set_option maxHeartbeats 4000000 in
theorem shown3_any {R : Assn} {w : World} (h : Bears w R) :
    Calls Try.prog 20 #[] w fun e w' => e = .returned (.bool true) ∧ Bears w' R := by
  have f64 := fullB_length 1
  obtain ⟨f1, hf1⟩ : ∃ f1, fullB 1 = f1 := ⟨_, rfl⟩
  have Hf1 := Lib.hid hf1
  rw [hf1] at f64
  have F64 := Lib.hid f64
  clear hf1 f64
  obtain ⟨z, hz⟩ : ∃ z, zeroSec = z := ⟨_, rfl⟩
  go_enter Try.func20, Try.ntmps20
  go_wp2_with fail
  refine (ground3_any h 2 (by decide)).mono ?_
  rintro e w1 ⟨p, c, x, d, rfl, L, hl, hfu, _, _, h1⟩
  rw [hz] at L
  have k : ∀ i : Nat, 40 ≤ i → i < 100 → d.check (i : Int) = 0 := fun i _ h2 => DiskM.on_check L.off (by rw [hl]; exact h2)
  have n : ∀ i : Nat, 40 ≤ i → d.now i = z := fun i h1 => L.now (by omega)
  have K50 := Lib.hid (k 50 (by decide) (by decide))
  have K51 := Lib.hid (k 51 (by decide) (by decide))
  have K52 := Lib.hid (k 52 (by decide) (by decide))
  have N50 := Lib.hid (n 50 (by decide))
  have N51 := Lib.hid (n 51 (by decide))
  have N52 := Lib.hid (n 52 (by decide))
  have L' := Lib.hid L
  have hz' := Lib.hid hz
  have Hl := Lib.hid hl
  have Hfu := Lib.hid hfu
  clear k n L hz hl hfu
  have h1' := h1.pull3
  have h2 : Bears w1 (cacheA c p x ⟨2, 0, false, []⟩ * (diskA p d * (walObj x p 0 40 0 * R))) := h1.c23
  go_wp2_with fail
  refine (cread_disk_to (s := z) (cm' := ⟨2, 1, false, [⟨50, z, false⟩]⟩) h2 (by kernel_rfl) K50.out N50.out (by kernel_rfl) (by simp)).mono ?_
  rintro e w2 ⟨_, _, rfl, h3⟩
  have h4 := h3.right
  go_wp2_with fail
  refine (cread_disk_to (s := z) (cm' := ⟨2, 2, false, [⟨50, z, false⟩, ⟨51, z, false⟩]⟩) h4 (by kernel_rfl) K51.out N51.out (by kernel_rfl) (by simp)).mono ?_
  rintro e w3 ⟨_, _, rfl, h5⟩
  have h6 := h5.right
  go_wp2_with fail
  refine (cread_held_to (y := ⟨50, z, false⟩) (cm' := ⟨2, 2, false, [⟨51, z, false⟩, ⟨50, z, false⟩]⟩) h6 (by kernel_rfl) (by kernel_rfl) (by simp)).mono ?_
  rintro e w4 ⟨_, _, rfl, h7⟩
  have h8 := h7.right
  go_wp2_with fail
  refine (cread_disk_to (s := z) (cm' := ⟨2, 3, false, [⟨50, z, false⟩, ⟨52, z, false⟩]⟩) h8 (by kernel_rfl) K52.out N52.out (by kernel_rfl) (by simp)).mono ?_
  rintro e w5 ⟨_, _, rfl, h9⟩
  have h10 := h9.right
  clear h h1 h1' h2 h3 h4 h5 h6 h7 h8 h9
  go_wp2_with fail
  refine (cheld_to (n := 2) (l := [50, 52]) h10 rfl rfl (by simp)).mono ?_
  rintro e w6 ⟨va, vc, rfl, h11⟩
  have h12 := h11.alloc (.cells #[.int .i64 50, .int .i64 52] 3)
  go_wp2_with fail
  refine (ints_any (a := [50, 52]) (b := [50, 52]) (na := 2) (nb := 2) h12 ((rowA_ints rfl).right) (IntsIn.tells (l := [50, 52]) _ _ rfl) (by decide) (by decide)).mono ?_
  rintro e w7 ⟨rfl, h13⟩
  have h14 := h13.right.right
  go_wp2_with fail
  refine (cmisses_to (n := 3) h14 rfl).mono ?_
  rintro e w8 ⟨rfl, h15⟩
  clear h10 h11 h12 h13 h14
  go_wp2_with fail
  refine (full_any h15 1).mono ?_
  rintro e w20 ⟨g20, rfl, q20⟩
  rw [Hf1.out] at q20
  have e20 := Lib.hid (show CacheM.write ⟨2, 3, false, [⟨50, z, false⟩, ⟨52, z, false⟩]⟩ d.len 60 f1 = (30, ⟨2, 3, false, [⟨50, z, false⟩, ⟨52, z, false⟩]⟩) by simp [CacheM.write, Hl.out, F64.out, useL, forgetL])
  go_wp2_with fail
  refine (cwrite_to (n := 64) q20.push3 e20.out (BytesIn.tells _ _ F64.out.symm) (by simp)).mono ?_
  rintro e v20 ⟨rfl, r20⟩
  have h20 := r20.pull3.right
  clear q20 r20
  go_wp2_with fail
  refine (cbegin_to (r := 0) (cm' := ⟨2, 3, true, [⟨50, z, false⟩, ⟨52, z, false⟩]⟩) h20 rfl).mono ?_
  rintro e w21 ⟨rfl, h21⟩
  go_wp2_with fail
  refine (cbegin_to (r := 30) (cm' := ⟨2, 3, true, [⟨50, z, false⟩, ⟨52, z, false⟩]⟩) h21 rfl).mono ?_
  rintro e w22 ⟨rfl, h22⟩
  go_wp2_with fail
  refine (full_any h22 1).mono ?_
  rintro e w23 ⟨g23, rfl, q23⟩
  rw [Hf1.out] at q23
  have e23 := Lib.hid (show CacheM.write ⟨2, 3, true, [⟨50, z, false⟩, ⟨52, z, false⟩]⟩ d.len 60 f1 = (0, ⟨2, 3, true, [⟨50, z, false⟩, ⟨52, z, false⟩, ⟨60, f1, true⟩]⟩) by simp [CacheM.write, Hl.out, F64.out, useL, forgetL])
  go_wp2_with fail
  refine (cwrite_to (n := 64) q23.push3 e23.out (BytesIn.tells _ _ F64.out.symm) (by simp)).mono ?_
  rintro e v23 ⟨rfl, r23⟩
  have h23 := r23.pull3.right
  clear q23 r23
  go_wp2_with fail
  refine (full_any h23 1).mono ?_
  rintro e w24 ⟨g24, rfl, q24⟩
  rw [Hf1.out] at q24
  have e24 := Lib.hid (show CacheM.write ⟨2, 3, true, [⟨50, z, false⟩, ⟨52, z, false⟩, ⟨60, f1, true⟩]⟩ d.len 61 f1 = (0, ⟨2, 3, true, [⟨50, z, false⟩, ⟨52, z, false⟩, ⟨60, f1, true⟩, ⟨61, f1, true⟩]⟩) by simp [CacheM.write, Hl.out, F64.out, useL, forgetL])
  go_wp2_with fail
  refine (cwrite_to (n := 64) q24.push3 e24.out (BytesIn.tells _ _ F64.out.symm) (by simp)).mono ?_
  rintro e v24 ⟨rfl, r24⟩
  have h24 := r24.pull3.right
  clear q24 r24
  go_wp2_with fail
  refine (full_any h24 1).mono ?_
  rintro e w25 ⟨g25, rfl, q25⟩
  rw [Hf1.out] at q25
  have e25 := Lib.hid (show CacheM.write ⟨2, 3, true, [⟨50, z, false⟩, ⟨52, z, false⟩, ⟨60, f1, true⟩, ⟨61, f1, true⟩]⟩ d.len 62 f1 = (0, ⟨2, 3, true, [⟨50, z, false⟩, ⟨52, z, false⟩, ⟨60, f1, true⟩, ⟨61, f1, true⟩, ⟨62, f1, true⟩]⟩) by simp [CacheM.write, Hl.out, F64.out, useL, forgetL])
  go_wp2_with fail
  refine (cwrite_to (n := 64) q25.push3 e25.out (BytesIn.tells _ _ F64.out.symm) (by simp)).mono ?_
  rintro e v25 ⟨rfl, r25⟩
  have h25 := r25.pull3.right
  clear q25 r25
  clear h15 h20 h21 h22 h23 h24
  go_wp2_with fail
  refine (cheld_to (n := 5) (l := [50, 52, 60, 61, 62]) h25 rfl rfl (by simp)).mono ?_
  rintro e w26 ⟨va2, vc2, rfl, h26⟩
  have h27 := h26.alloc (.cells #[.int .i64 50, .int .i64 52, .int .i64 60, .int .i64 61, .int .i64 62] 3)
  go_wp2_with fail
  refine (ints_any (a := [50, 52, 60, 61, 62]) (b := [50, 52, 60, 61, 62]) (na := 5) (nb := 5) h27 ((rowA_ints rfl).right) (IntsIn.tells (l := [50, 52, 60, 61, 62]) _ _ rfl) (by decide) (by decide)).mono ?_
  rintro e w28 ⟨rfl, h28⟩
  have h29 := h28.right.right
  go_wp2_with fail
  refine (cpinned_to (n := 3) h29 rfl).mono ?_
  rintro e w30 ⟨rfl, h30⟩
  have hpins : PinsOk d.len 0 40 [⟨50, z, false⟩, ⟨52, z, false⟩, ⟨60, f1, true⟩, ⟨61, f1, true⟩, ⟨62, f1, true⟩] := by
    refine ⟨fun y hy hp => ?_, by simp; decide⟩
    rw [Hl.out]
    simp only [List.mem_cons, List.not_mem_nil, or_false] at hy
    rcases hy with rfl | rfl | rfl | rfl | rfl <;> first | (simp at hp; done) | (simp only; omega)
  have HP := Lib.hid hpins
  clear hpins h25 h26 h27 h28 h29
  go_wp2_with fail
  refine (ccommit_log (g := 0) (F := fun _ => z) h30.c23 rfl L'.out Hfu.out (by decide) (by simp)).mono ?_
  rintro e w31 (⟨rfl, _, l, d2, _, L2, hfu2, hl2, _, h31⟩ | ⟨_, hno, _⟩)
  case inr => exact absurd HP.out hno
  have hn60 : d2.now 60 = f1 := by rw [L2.now (by omega)]; rfl
  have k60 : d2.check 60 = 0 := DiskM.on_check (i := 60) L2.off (by rw [hl2, Hl.out]; decide)
  have h32 : Bears w31 (cacheA c p x ⟨2, 3, false, [⟨61, f1, false⟩, ⟨62, f1, false⟩]⟩ * (diskA p d2 * (walObj x p 0 40 1 * R))) := h31.c23
  have N60 := Lib.hid hn60
  have K60 := Lib.hid k60
  clear hn60 k60 L2 hfu2 hl2 h31 h30
  go_wp2_with fail
  refine (cheld_to (n := 2) (l := [61, 62]) h32 rfl rfl (by simp)).mono ?_
  rintro e w33 ⟨va3, vc3, rfl, h33⟩
  have h34 := h33.alloc (.cells #[.int .i64 61, .int .i64 62] 3)
  go_wp2_with fail
  refine (ints_any (a := [61, 62]) (b := [61, 62]) (na := 2) (nb := 2) h34 ((rowA_ints rfl).right) (IntsIn.tells (l := [61, 62]) _ _ rfl) (by decide) (by decide)).mono ?_
  rintro e w35 ⟨rfl, h35⟩
  have h36 := h35.right.right
  go_wp2_with fail
  refine (cread_disk_to (s := f1) (cm' := ⟨2, 4, false, [⟨62, f1, false⟩, ⟨60, f1, false⟩]⟩) h36 (by kernel_rfl) K60.out N60.out (by kernel_rfl) (by simp)).mono ?_
  rintro e w37 ⟨ad7, cp7, rfl, h37⟩
  clear h32 h33 h34 h35 h36
  go_wp2_with fail
  have hN : Bears w37 (cacheA c p x ⟨2, 4, false, [⟨62, f1, false⟩, ⟨60, f1, false⟩]⟩ * (diskA p d2 * (walObj x p 0 40 1 * R))) := h37.right
  refine wp_region_L (fun w' => Bears w' (rowA 5 1 (.slice ad7 64 cp7) 64 (cellsV f1) * (cacheA c p x ⟨2, 4, false, [⟨62, f1, false⟩, ⟨60, f1, false⟩]⟩ * (diskA p d2 * (walObj x p 0 40 1 * R))))) 42
    [(true, 0), (true, 1), (true, 2), (true, 3), (true, 4), (true, 5), (true, 6), (true, 7), (true, 8), (true, 9), (true, 10), (true, 11), (true, 12), (true, 13), (true, 14), (true, 15), (true, 16), (true, 17), (true, 18), (true, 19), (true, 20), (true, 21), (true, 22), (true, 23), (true, 24), (true, 25), (true, 26), (true, 27), (true, 28), (true, 29), (true, 30), (true, 31), (true, 32), (true, 33), (true, 34), (true, 35), (true, 36), (true, 37), (false, 38), (false, 39), (true, 40), (true, 41)] [(true, 42)] (by kernel_rfl) (by kernel_rfl) h37.drew ?_
  simp only [pick, List.getElem?_cons_zero, List.getElem?_cons_succ]
  refine wpL_guarded (v := ?_) rfl (fun w' hS => ?_) ?_
  rotate_left
  · (go_simp; try with_reducible rfl)
  simp only [Act.put, List.setIfInBounds_toArray, List.set_cons_zero, List.set_cons_succ]
  refine wpL_guarded (v := ?_) rfl (fun w' hS => ?_) ?_
  rotate_left
  · (go_simp; try with_reducible rfl)
  simp only [Act.put, List.setIfInBounds_toArray, List.set_cons_zero, List.set_cons_succ]
  refine wpL_guarded (v := ?_) rfl (fun w' hS => ?_) ?_
  rotate_left
  · (go_simp; try with_reducible rfl)
  simp only [Act.put, List.setIfInBounds_toArray, List.set_cons_zero, List.set_cons_succ]
  refine wpL_guarded (v := ?_) rfl (fun w' hS => ?_) ?_
  rotate_left
  · (go_simp; try with_reducible rfl)
  simp only [Act.put, List.setIfInBounds_toArray, List.set_cons_zero, List.set_cons_succ]
  refine wpL_guarded (v := ?_) rfl (fun w' hS => ?_) ?_
  rotate_left
  · (go_simp; try with_reducible rfl)
  simp only [Act.put, List.setIfInBounds_toArray, List.set_cons_zero, List.set_cons_succ]
  refine wpL_guarded (v := ?_) rfl (fun w' hS => ?_) ?_
  rotate_left
  · (go_simp; try with_reducible rfl)
  simp only [Act.put, List.setIfInBounds_toArray, List.set_cons_zero, List.set_cons_succ]
  refine wpL_guarded (v := ?_) rfl (fun w' hS => ?_) ?_
  rotate_left
  · (go_simp; try with_reducible rfl)
  simp only [Act.put, List.setIfInBounds_toArray, List.set_cons_zero, List.set_cons_succ]
  refine wpL_guarded (v := ?_) rfl (fun w' hS => ?_) ?_
  rotate_left
  · (go_simp; try with_reducible rfl)
  simp only [Act.put, List.setIfInBounds_toArray, List.set_cons_zero, List.set_cons_succ]
  refine wpL_guarded (v := ?_) rfl (fun w' hS => ?_) ?_
  rotate_left
  · (go_simp; try with_reducible rfl)
  simp only [Act.put, List.setIfInBounds_toArray, List.set_cons_zero, List.set_cons_succ]
  refine wpL_guarded (v := ?_) rfl (fun w' hS => ?_) ?_
  rotate_left
  · (go_simp; try with_reducible rfl)
  simp only [Act.put, List.setIfInBounds_toArray, List.set_cons_zero, List.set_cons_succ]
  refine wpL_guarded (v := ?_) rfl (fun w' hS => ?_) ?_
  rotate_left
  · (go_simp; try with_reducible rfl)
  simp only [Act.put, List.setIfInBounds_toArray, List.set_cons_zero, List.set_cons_succ]
  refine wpL_guarded (v := ?_) rfl (fun w' hS => ?_) ?_
  rotate_left
  · (go_simp; try with_reducible rfl)
  simp only [Act.put, List.setIfInBounds_toArray, List.set_cons_zero, List.set_cons_succ]
  refine wpL_guarded (v := ?_) rfl (fun w' hS => ?_) ?_
  rotate_left
  · (go_simp; try with_reducible rfl)
  simp only [Act.put, List.setIfInBounds_toArray, List.set_cons_zero, List.set_cons_succ]
  refine wpL_guarded (v := ?_) rfl (fun w' hS => ?_) ?_
  rotate_left
  · (go_simp; try with_reducible rfl)
  simp only [Act.put, List.setIfInBounds_toArray, List.set_cons_zero, List.set_cons_succ]
  refine wpL_guarded (v := ?_) rfl (fun w' hS => ?_) ?_
  rotate_left
  · (go_simp; try with_reducible rfl)
  simp only [Act.put, List.setIfInBounds_toArray, List.set_cons_zero, List.set_cons_succ]
  refine wpL_guarded (v := ?_) rfl (fun w' hS => ?_) ?_
  rotate_left
  · (go_simp; try with_reducible rfl)
  simp only [Act.put, List.setIfInBounds_toArray, List.set_cons_zero, List.set_cons_succ]
  refine wpL_guarded (v := ?_) rfl (fun w' hS => ?_) ?_
  rotate_left
  · (go_simp; try with_reducible rfl)
  simp only [Act.put, List.setIfInBounds_toArray, List.set_cons_zero, List.set_cons_succ]
  refine wpL_guarded (v := ?_) rfl (fun w' hS => ?_) ?_
  rotate_left
  · (go_simp; try with_reducible rfl)
  simp only [Act.put, List.setIfInBounds_toArray, List.set_cons_zero, List.set_cons_succ]
  refine wpL_guarded (v := ?_) rfl (fun w' hS => ?_) ?_
  rotate_left
  · (go_simp; try with_reducible rfl)
  simp only [Act.put, List.setIfInBounds_toArray, List.set_cons_zero, List.set_cons_succ]
  refine wpL_guarded (v := ?_) rfl (fun w' hS => ?_) ?_
  rotate_left
  · (go_simp; try with_reducible rfl)
  simp only [Act.put, List.setIfInBounds_toArray, List.set_cons_zero, List.set_cons_succ]
  refine wpL_guarded (v := ?_) rfl (fun w' hS => ?_) ?_
  rotate_left
  · (go_simp; try with_reducible rfl)
  simp only [Act.put, List.setIfInBounds_toArray, List.set_cons_zero, List.set_cons_succ]
  refine wpL_guarded (v := ?_) rfl (fun w' hS => ?_) ?_
  rotate_left
  · (go_simp; try with_reducible rfl)
  simp only [Act.put, List.setIfInBounds_toArray, List.set_cons_zero, List.set_cons_succ]
  refine wpL_guarded (v := ?_) rfl (fun w' hS => ?_) ?_
  rotate_left
  · (go_simp; try with_reducible rfl)
  simp only [Act.put, List.setIfInBounds_toArray, List.set_cons_zero, List.set_cons_succ]
  refine wpL_guarded (v := ?_) rfl (fun w' hS => ?_) ?_
  rotate_left
  · (go_simp; try with_reducible rfl)
  simp only [Act.put, List.setIfInBounds_toArray, List.set_cons_zero, List.set_cons_succ]
  refine wpL_guarded (v := ?_) rfl (fun w' hS => ?_) ?_
  rotate_left
  · (go_simp; try with_reducible rfl)
  simp only [Act.put, List.setIfInBounds_toArray, List.set_cons_zero, List.set_cons_succ]
  refine wpL_guarded (v := ?_) rfl (fun w' hS => ?_) ?_
  rotate_left
  · (go_simp; try with_reducible rfl)
  simp only [Act.put, List.setIfInBounds_toArray, List.set_cons_zero, List.set_cons_succ]
  refine wpL_guarded (v := ?_) rfl (fun w' hS => ?_) ?_
  rotate_left
  · (go_simp; try with_reducible rfl)
  simp only [Act.put, List.setIfInBounds_toArray, List.set_cons_zero, List.set_cons_succ]
  refine wpL_guarded (v := ?_) rfl (fun w' hS => ?_) ?_
  rotate_left
  · (go_simp; try with_reducible rfl)
  simp only [Act.put, List.setIfInBounds_toArray, List.set_cons_zero, List.set_cons_succ]
  refine wpL_guarded (v := ?_) rfl (fun w' hS => ?_) ?_
  rotate_left
  · (go_simp; try with_reducible rfl)
  simp only [Act.put, List.setIfInBounds_toArray, List.set_cons_zero, List.set_cons_succ]
  refine wpL_guarded (v := ?_) rfl (fun w' hS => ?_) ?_
  rotate_left
  · (go_simp; try with_reducible rfl)
  simp only [Act.put, List.setIfInBounds_toArray, List.set_cons_zero, List.set_cons_succ]
  refine wpL_guarded (v := ?_) rfl (fun w' hS => ?_) ?_
  rotate_left
  · (go_simp; try with_reducible rfl)
  simp only [Act.put, List.setIfInBounds_toArray, List.set_cons_zero, List.set_cons_succ]
  refine wpL_guarded (v := ?_) rfl (fun w' hS => ?_) ?_
  rotate_left
  · (go_simp; try with_reducible rfl)
  simp only [Act.put, List.setIfInBounds_toArray, List.set_cons_zero, List.set_cons_succ]
  refine wpL_guarded (v := ?_) rfl (fun w' hS => ?_) ?_
  rotate_left
  · (go_simp; try with_reducible rfl)
  simp only [Act.put, List.setIfInBounds_toArray, List.set_cons_zero, List.set_cons_succ]
  refine wpL_guarded (v := ?_) rfl (fun w' hS => ?_) ?_
  rotate_left
  · (go_simp; try with_reducible rfl)
  simp only [Act.put, List.setIfInBounds_toArray, List.set_cons_zero, List.set_cons_succ]
  refine wpL_guarded (v := ?_) rfl (fun w' hS => ?_) ?_
  rotate_left
  · (go_simp; try with_reducible rfl)
  simp only [Act.put, List.setIfInBounds_toArray, List.set_cons_zero, List.set_cons_succ]
  refine wpL_guarded (v := ?_) rfl (fun w' hS => ?_) ?_
  rotate_left
  · (go_simp; try with_reducible rfl)
  simp only [Act.put, List.setIfInBounds_toArray, List.set_cons_zero, List.set_cons_succ]
  refine wpL_guarded (v := ?_) rfl (fun w' hS => ?_) ?_
  rotate_left
  · (go_simp; try with_reducible rfl)
  simp only [Act.put, List.setIfInBounds_toArray, List.set_cons_zero, List.set_cons_succ]
  refine wpL_guarded rfl (fun w' hS => exec_convert rfl rfl (run_convert_in (rowA_bytes F64.out.symm _ hS))) ?_
  refine wpL_effG rfl ?_
  go_simp
  refine (full_any h37.drew 1).mono ?_
  rintro e w38 ⟨g8, rfl, h38⟩
  rw [Hf1.out] at h38
  refine ⟨h38.right, ?_⟩
  refine wpL_effG rfl (wp_of_run (exec_convert rfl rfl (run_convert_in (BytesIn.tells _ _ F64.out.symm _ h38))) ⟨h38.right, ?_⟩)
  simp only [Act.put, List.setIfInBounds_toArray, List.set_cons_zero, List.set_cons_succ]
  refine wpL_guarded (v := ?_) rfl (fun w' hS => ?_) ?_
  rotate_left
  · (go_simp; try with_reducible rfl)
  simp only [Act.put, List.setIfInBounds_toArray, List.set_cons_zero, List.set_cons_succ]
  refine wpL_guarded (v := ?_) rfl (fun w' hS => ?_) ?_
  rotate_left
  · (go_simp; try with_reducible rfl)
  simp only [Act.put, List.setIfInBounds_toArray, List.set_cons_zero, List.set_cons_succ]
  refine wpL_nil ?_
  refine wpL_yield (v := ?_) rfl (fun w' hS => ?_) ?_
  rotate_left
  · (go_simp; try with_reducible rfl)
  simp only [Act.put, List.setIfInBounds_toArray, List.set_cons_zero]
  refine wpL_nil ?_
  go_wp2
  go_ret
  exact ⟨rfl, h38.right.right.right.right.right⟩

end Go.Proofs.Ytaiobekochhemaa
