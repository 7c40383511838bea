/- The log's statements: the examples at their head; no condition. -/
import Derived.Test.YtadefdmoijkclaaWLawC
namespace Go.Proofs.Ytadefdmoijkclaa
open Go.RowKit Go.MapKept

theorem LogOn.boot {d d' : DiskM} {a s g : Nat} {F : Nat → Sec} (h : LogOn d a s g F) (h1 : d'.sure = d.sure) (h2 : d'.waits = []) (h3 : d'.len = d.len) (ks : List Int) : LogOn (d'.boot ks) a s g F := by
  have e : (d'.boot ks).sure = d.sure := by
    unfold DiskM.boot
    rw [h2, h1]
    rfl
  exact ⟨rfl, rfl, h.three, by show a + s ≤ d'.len; rw [h3]; exact h.place, by show d'.len ≤ 8192; rw [h3]; exact h.len, by rw [e]; exact h.rest⟩
theorem LogOn.fused {d : DiskM} {a s g : Nat} {F : Nat → Sec} (h : LogOn d a s g F) (n : Int) : LogOn (d.setFuse n) a s g F := by
  unfold DiskM.setFuse
  rw [h.off, if_neg (by simp)]
  exact ⟨rfl, h.quiet, h.three, h.place, h.len, h.rest⟩
theorem setFuse_len (d : DiskM) (n : Int) : (d.setFuse n).len = d.len := by unfold DiskM.setFuse; split <;> rfl
/-- The first step takes the power away. -/
theorem LogOn.falls {d : DiskM} {a s g : Nat} {F : Nat → Sec} {p : PutM} {l : List PutM} (h : LogOn d a s g F) (hf : d.fuse = 0) (hm : wMay d.len a s (p :: l) = true) :
    ∃ d', wCommit d a s g (p :: l) = (2, (g : Int), d') ∧ d'.sure = d.sure ∧ d'.waits = [] ∧ d'.len = d.len := by
  have hok := GroupOk.of hm
  have hfit := first_fits (a := a) h.three hok.room
  have hp := h.place
  have hl : (p :: l).length = l.length + 1 := rfl
  refine ⟨_, wCommit_bytes (k := 1) hm (r := 2) (dk := { d with off := true, fuse := -1 }) ?_ (by decide) (by rw [hl]; omega), rfl, h.quiet, rfl⟩
  have e : wBytes d a s (p :: l) 1 = d.write ((wFirst a s + 0 : Nat) : Int) ((p :: l).getD 0 default).bytes := wBytes_succ (k := 0) rfl
  rw [e]
  unfold DiskM.write
  rw [DiskM.on_check h.off (by omega), if_neg (by simp)]
  have h64 : ((p :: l).getD 0 default).bytes.length = 64 := (hok.ok p (by simp)).1
  rw [h64, if_neg (by simp)]
  have hs : d.step = (2, { d with off := true, fuse := -1 }) := by unfold DiskM.step; rw [if_pos hf]
  rw [hs]
  rfl

theorem putOf_bytes {sec : Int} {g : Nat} {l : List UInt8} {t : TypeId} {R : Assn} : (Assn.obj g (.cells (cellsV l).toArray t (0, 0)) * R).Tells (fun w => BytesIn w (putOf sec g l).val (putOf sec g l).bytes) := BytesIn.tells _ _ rfl
theorem puts_one {g b : Nat} {sec : Int} {l : List UInt8} {t t' : TypeId} {R : Assn} :
    (Assn.obj b (.cells #[.int .i64 sec, .slice (some ⟨g, 0, none⟩) l.length l.length] t (0, 0)) * (Assn.obj g (.cells (cellsV l).toArray t' (0, 0)) * R)).Tells (fun w => PutsIn w (.slice (some ⟨b, 0, none⟩) 1 1) [putOf sec g l]) :=
  PutsIn.tells (l := [putOf sec g l]) rfl (by intro p hp; rw [List.mem_singleton] at hp; subst hp; exact putOf_bytes) (by simp)
theorem puts_two {g g' b : Nat} {sec sec' : Int} {l l' : List UInt8} {t t' t'' : TypeId} {R : Assn} :
    (Assn.obj b (.cells #[.int .i64 sec, .slice (some ⟨g, 0, none⟩) l.length l.length, .int .i64 sec', .slice (some ⟨g', 0, none⟩) l'.length l'.length] t (0, 0)) *
      (Assn.obj g' (.cells (cellsV l').toArray t' (0, 0)) * (Assn.obj g (.cells (cellsV l).toArray t'' (0, 0)) * R))).Tells (fun w => PutsIn w (.slice (some ⟨b, 0, none⟩) 2 2) [putOf sec g l, putOf sec' g' l']) :=
  PutsIn.tells (l := [putOf sec g l, putOf sec' g' l']) rfl (by
    intro p hp
    simp only [List.mem_cons, List.not_mem_nil, or_false] at hp
    rcases hp with rfl | rfl
    · exact putOf_bytes.right
    · exact putOf_bytes) (by simp)

set_option maxRecDepth 100000 in
set_option maxHeartbeats 1600000 in
theorem wshown_any {R : Assn} {w : World} (h : Bears w R) :
    Calls Try.prog 8 #[] w fun e w' => e = .returned (.bool true) ∧ Bears w' R := by
  go_enter Try.func8, Try.ntmps8
  go_wp2_with fail
  refine (ground_any h 0 (by omega)).mono ?_
  rintro e w1 ⟨p, x, d, rfl, hd, hlen, hfu, h1⟩
  go_wp2_with fail
  refine (room_any w1 2 (by omega)).mono ?_
  rintro e w' ⟨rfl, rfl⟩
  rw [show roomN (2 : Int).toNat = 0 from rfl]
  go_wp2_with fail
  refine (room_any w1 3 (by omega)).mono ?_
  rintro e w' ⟨rfl, rfl⟩
  rw [show roomN (3 : Int).toNat = 1 from rfl]
  go_wp2_with fail
  refine (room_any w1 35 (by omega)).mono ?_
  rintro e w' ⟨rfl, rfl⟩
  rw [show roomN (35 : Int).toNat = 32 from rfl]
  go_wp2_with fail
  refine (room_any w1 620 (by omega)).mono ?_
  rintro e w' ⟨rfl, rfl⟩
  rw [show roomN (620 : Int).toNat = 600 from rfl]
  go_wp2_with fail
  refine (wfull_any h1 1 1).mono ?_
  rintro e w2 ⟨g1, rfl, h2⟩
  go_wp2_with fail
  refine (wfull_any h2 2 2).mono ?_
  rintro e w3 ⟨g2, rfl, h3⟩
  have m1 : wMay d.len 0 40 [putOf 50 g1 (fullS 1 1), putOf 51 g2 (fullS 2 2)] = true := by rw [hlen]; rfl
  obtain ⟨d1, c1, L1, u1, n1⟩ := hd.commits hfu (by decide) m1
  have C1 := Lib.hid c1
  have h4 := h3.alloc (.cells #[.int .i64 50, .slice (some ⟨g1, 0, none⟩) 64 64, .int .i64 51, .slice (some ⟨g2, 0, none⟩) 64 64] 37)
  have F50 : applyPuts (fun _ => zeroSec) [putOf 50 g1 (fullS 1 1), putOf 51 g2 (fullS 2 2)] 50 = fullS 1 1 := rfl
  generalize applyPuts (fun _ => zeroSec) [putOf 50 g1 (fullS 1 1), putOf 51 g2 (fullS 2 2)] = F1 at L1 F50
  have F50' := Lib.hid F50
  clear c1 m1 h1 h2 h3 F50
  go_wp2_with fail
  refine (commit_to (h4.cast (by ac_rfl) : Bears _ (walObj x p 0 40 0 * (diskA p d * (Assn.obj w3.heap.size _ * (Assn.obj g2 _ * (Assn.obj g1 _ * R)))))) C1.out puts_two (by simp) (by decide) (by decide) (hd.few _ (by decide))).mono ?_
  rintro e w4 ⟨rfl, h5⟩
  have h6 : Bears w4 (walObj x p 0 40 1 * (diskA p d1 * R)) := (h5.cast (by ac_rfl) : Bears _ (Assn.obj w3.heap.size _ * (Assn.obj g2 _ * (Assn.obj g1 _ * (walObj x p 0 40 1 * (diskA p d1 * R)))))).right.right.right
  clear h4 h5 C1
  go_wp2_with fail
  refine (wfull_any h6 1 1).mono ?_
  rintro e w5 ⟨g3, rfl, h7⟩
  go_wp2_with fail
  refine (wfull_any h7 1 1).mono ?_
  rintro e w6 ⟨g4, rfl, h8⟩
  have m2 : wMay d1.len 0 40 [putOf 50 g3 (fullS 1 1), putOf 50 g4 (fullS 1 1)] = false := by rw [n1, hlen]; rfl
  have C2 := Lib.hid (wCommit_no (g := 1) m2)
  have h9 := h8.alloc (.cells #[.int .i64 50, .slice (some ⟨g3, 0, none⟩) 64 64, .int .i64 50, .slice (some ⟨g4, 0, none⟩) 64 64] 37)
  clear m2 h6 h7 h8
  go_wp2_with fail
  refine (commit_to (h9.cast (by ac_rfl) : Bears _ (walObj x p 0 40 1 * (diskA p d1 * (Assn.obj w6.heap.size _ * (Assn.obj g4 _ * (Assn.obj g3 _ * R)))))) C2.out puts_two (by simp) (by decide) (by decide) (L1.few _ (by decide))).mono ?_
  rintro e w7 ⟨rfl, h10⟩
  have h11 : Bears w7 (walObj x p 0 40 1 * (diskA p d1 * R)) := (h10.cast (by ac_rfl) : Bears _ (Assn.obj w6.heap.size _ * (Assn.obj g4 _ * (Assn.obj g3 _ * (walObj x p 0 40 1 * (diskA p d1 * R)))))).right.right.right
  clear h9 h10 C2
  go_wp2_with fail
  refine (wfull_any h11 1 1).mono ?_
  rintro e w8 ⟨g5, rfl, h12⟩
  have m3 : wMay d1.len 0 40 [putOf 5 g5 (fullS 1 1)] = false := by rw [n1, hlen]; rfl
  have C3 := Lib.hid (wCommit_no (g := 1) m3)
  have h13 := h12.alloc (.cells #[.int .i64 5, .slice (some ⟨g5, 0, none⟩) 64 64] 37)
  clear m3 h11 h12
  go_wp2_with fail
  refine (commit_to (h13.cast (by ac_rfl) : Bears _ (walObj x p 0 40 1 * (diskA p d1 * (Assn.obj w8.heap.size _ * (Assn.obj g5 _ * R))))) C3.out puts_one (by simp) (by decide) (by decide) (L1.few _ (by decide))).mono ?_
  rintro e w9 ⟨rfl, h14⟩
  have h15 : Bears w9 (walObj x p 0 40 1 * (diskA p d1 * R)) := (h14.cast (by ac_rfl) : Bears _ (Assn.obj w8.heap.size _ * (Assn.obj g5 _ * (walObj x p 0 40 1 * (diskA p d1 * R))))).right.right
  clear h13 h14 C3
  go_wp2_with fail
  refine (groups_any h15).mono ?_
  rintro e w' ⟨rfl, rfl⟩
  go_wp2_with fail
  refine (fuse_to h15.pull2 rfl (by decide)).mono ?_
  rintro e w10 ⟨rfl, h16⟩
  have L2 := L1.fused 0
  have u2 : (d1.setFuse 0).fuse = 0 := by unfold DiskM.setFuse; rw [L1.off, if_neg (by simp)]; rfl
  have n2 : (d1.setFuse 0).len = 100 := by rw [setFuse_len, n1, hlen]
  generalize d1.setFuse 0 = d2 at h16 L2 u2 n2
  go_wp2_with fail
  refine (wfull_any h16 3 3).mono ?_
  rintro e w11 ⟨g6, rfl, h17⟩
  have m4 : wMay d2.len 0 40 [putOf 50 g6 (fullS 3 3)] = true := by rw [n2]; rfl
  obtain ⟨d3, c4, s4, q4, n4⟩ := L2.falls u2 m4
  have C4 := Lib.hid c4
  have h18 := h17.alloc (.cells #[.int .i64 50, .slice (some ⟨g6, 0, none⟩) 64 64] 37)
  have L3 := L2.boot s4 q4 n4 [1]
  have n3 : (d3.boot [1]).len = 100 := by show d3.len = 100; rw [n4, n2]
  clear c4 m4 h16 h17 s4 u2
  go_wp2_with fail
  refine (commit_to (h18.cast (by ac_rfl) : Bears _ (walObj x p 0 40 1 * (diskA p d2 * (Assn.obj w11.heap.size _ * (Assn.obj g6 _ * R))))) C4.out puts_one (by simp) (by decide) (by decide) (L2.few _ (by decide))).mono ?_
  rintro e w12 ⟨rfl, h19⟩
  have h20 : Bears w12 (diskA p d3 * (walObj x p 0 40 1 * R)) := (h19.cast (by ac_rfl) : Bears _ (Assn.obj w11.heap.size _ * (Assn.obj g6 _ * (diskA p d3 * (walObj x p 0 40 1 * R))))).right.right
  clear h18 h19 C4
  go_wp2_with fail
  have h21 := h20.alloc (.cells #[.int .i64 1] 3)
  refine (boot_to [1] h21.pull2 rfl rfl (IntsIn.tells (l := [1]) _ _ rfl) (by decide) (by decide) (by rw [q4]; decide)).mono ?_
  rintro e w13 ⟨rfl, h22⟩
  obtain ⟨o5, g5'⟩ := L3.opens (by decide)
  have f50 : (d3.boot [1]).now 50 = fullS 1 1 := by rw [L3.now (by omega), F50'.out]
  have k50 : (d3.boot [1]).check 50 = 0 := DiskM.on_check (i := 50) L3.off (by rw [n3]; decide)
  generalize d3.boot [1] = d4 at h22 L3 n3 o5 g5' f50 k50
  have O5 := Lib.hid o5
  have G5 := Lib.hid g5'
  have Q5 := Lib.hid f50
  have K5 := Lib.hid k50
  clear o5 g5' f50 k50 h20 h21
  go_wp2_with fail
  refine (open_yes (a := 0) (s := 40) h22 O5.out G5.out (by omega) (by omega) (L3.few _ (by decide))).mono ?_
  rintro e w14 ⟨x2, rfl, h23⟩
  go_wp2_with fail
  refine (read_to (s := fullS 1 1) 50 h23.pull2 K5.out Q5.out).mono ?_
  rintro e w15 ⟨g7, rfl, h24⟩
  go_wp2_with fail
  refine wp_region_L (fun w' => ∃ Q, Bears w' (Assn.obj g7 (.cells (cellsV (fullS 1 1)).toArray 82 (0, 0)) * (diskA p d4 * (walObj x2 p 0 40 1 * Q)))) 38
    [(true, 0), (true, 1), (true, 2), (true, 3), (true, 4), (true, 5), (true, 6), (true, 7), (true, 8), (true, 9), (true, 10), (true, 11), (true, 12), (true, 13), (true, 14), (true, 15), (true, 16), (true, 17), (true, 18), (true, 19), (true, 20), (true, 21), (true, 22), (true, 23), (false, 24), (true, 25), (true, 26), (true, 27), (true, 28), (true, 29), (true, 30), (true, 31), (true, 32), (true, 33), (false, 34), (false, 35), (true, 36), (true, 37)] [(true, 38)]
    (by kernel_rfl) (by kernel_rfl) ⟨_, h24.drew⟩ ?_
  simp only [pick, List.getElem?_cons_zero, List.getElem?_cons_succ]
  refine wpL_guarded (v := ?_) rfl (fun w' hS => ?_) ?_
  rotate_left
  · (go_simp; try with_reducible rfl)
  simp only [Act.put, List.setIfInBounds_toArray, List.set_cons_zero, List.set_cons_succ]
  refine wpL_guarded (v := ?_) rfl (fun w' hS => ?_) ?_
  rotate_left
  · (go_simp; try with_reducible rfl)
  simp only [Act.put, List.setIfInBounds_toArray, List.set_cons_zero, List.set_cons_succ]
  refine wpL_guarded (v := ?_) rfl (fun w' hS => ?_) ?_
  rotate_left
  · (go_simp; try with_reducible rfl)
  simp only [Act.put, List.setIfInBounds_toArray, List.set_cons_zero, List.set_cons_succ]
  refine wpL_guarded (v := ?_) rfl (fun w' hS => ?_) ?_
  rotate_left
  · (go_simp; try with_reducible rfl)
  simp only [Act.put, List.setIfInBounds_toArray, List.set_cons_zero, List.set_cons_succ]
  refine wpL_guarded (v := ?_) rfl (fun w' hS => ?_) ?_
  rotate_left
  · (go_simp; try with_reducible rfl)
  simp only [Act.put, List.setIfInBounds_toArray, List.set_cons_zero, List.set_cons_succ]
  refine wpL_guarded (v := ?_) rfl (fun w' hS => ?_) ?_
  rotate_left
  · (go_simp; try with_reducible rfl)
  simp only [Act.put, List.setIfInBounds_toArray, List.set_cons_zero, List.set_cons_succ]
  refine wpL_guarded (v := ?_) rfl (fun w' hS => ?_) ?_
  rotate_left
  · (go_simp; try with_reducible rfl)
  simp only [Act.put, List.setIfInBounds_toArray, List.set_cons_zero, List.set_cons_succ]
  refine wpL_guarded (v := ?_) rfl (fun w' hS => ?_) ?_
  rotate_left
  · (go_simp; try with_reducible rfl)
  simp only [Act.put, List.setIfInBounds_toArray, List.set_cons_zero, List.set_cons_succ]
  refine wpL_guarded (v := ?_) rfl (fun w' hS => ?_) ?_
  rotate_left
  · (go_simp; try with_reducible rfl)
  simp only [Act.put, List.setIfInBounds_toArray, List.set_cons_zero, List.set_cons_succ]
  refine wpL_guarded (v := ?_) rfl (fun w' hS => ?_) ?_
  rotate_left
  · (go_simp; try with_reducible rfl)
  simp only [Act.put, List.setIfInBounds_toArray, List.set_cons_zero, List.set_cons_succ]
  refine wpL_guarded (v := ?_) rfl (fun w' hS => ?_) ?_
  rotate_left
  · (go_simp; try with_reducible rfl)
  simp only [Act.put, List.setIfInBounds_toArray, List.set_cons_zero, List.set_cons_succ]
  refine wpL_guarded (v := ?_) rfl (fun w' hS => ?_) ?_
  rotate_left
  · (go_simp; try with_reducible rfl)
  simp only [Act.put, List.setIfInBounds_toArray, List.set_cons_zero, List.set_cons_succ]
  refine wpL_guarded (v := ?_) rfl (fun w' hS => ?_) ?_
  rotate_left
  · (go_simp; try with_reducible rfl)
  simp only [Act.put, List.setIfInBounds_toArray, List.set_cons_zero, List.set_cons_succ]
  refine wpL_guarded (v := ?_) rfl (fun w' hS => ?_) ?_
  rotate_left
  · (go_simp; try with_reducible rfl)
  simp only [Act.put, List.setIfInBounds_toArray, List.set_cons_zero, List.set_cons_succ]
  refine wpL_guarded (v := ?_) rfl (fun w' hS => ?_) ?_
  rotate_left
  · (go_simp; try with_reducible rfl)
  simp only [Act.put, List.setIfInBounds_toArray, List.set_cons_zero, List.set_cons_succ]
  refine wpL_guarded (v := ?_) rfl (fun w' hS => ?_) ?_
  rotate_left
  · (go_simp; try with_reducible rfl)
  simp only [Act.put, List.setIfInBounds_toArray, List.set_cons_zero, List.set_cons_succ]
  refine wpL_guarded (v := ?_) rfl (fun w' hS => ?_) ?_
  rotate_left
  · (go_simp; try with_reducible rfl)
  simp only [Act.put, List.setIfInBounds_toArray, List.set_cons_zero, List.set_cons_succ]
  refine wpL_guarded (v := ?_) rfl (fun w' hS => ?_) ?_
  rotate_left
  · (go_simp; try with_reducible rfl)
  simp only [Act.put, List.setIfInBounds_toArray, List.set_cons_zero, List.set_cons_succ]
  refine wpL_guarded (v := ?_) rfl (fun w' hS => ?_) ?_
  rotate_left
  · (go_simp; try with_reducible rfl)
  simp only [Act.put, List.setIfInBounds_toArray, List.set_cons_zero, List.set_cons_succ]
  refine wpL_guarded (v := ?_) rfl (fun w' hS => ?_) ?_
  rotate_left
  · (go_simp; try with_reducible rfl)
  simp only [Act.put, List.setIfInBounds_toArray, List.set_cons_zero, List.set_cons_succ]
  refine wpL_guarded (v := ?_) rfl (fun w' hS => ?_) ?_
  rotate_left
  · (go_simp; try with_reducible rfl)
  simp only [Act.put, List.setIfInBounds_toArray, List.set_cons_zero, List.set_cons_succ]
  refine wpL_guarded (v := ?_) rfl (fun w' hS => ?_) ?_
  rotate_left
  · (go_simp; try with_reducible rfl)
  simp only [Act.put, List.setIfInBounds_toArray, List.set_cons_zero, List.set_cons_succ]
  refine wpL_guarded (v := ?_) rfl (fun w' hS => ?_) ?_
  rotate_left
  · (go_simp; try with_reducible rfl)
  simp only [Act.put, List.setIfInBounds_toArray, List.set_cons_zero, List.set_cons_succ]
  refine wpL_guarded (v := ?_) rfl (fun w' hS => ?_) ?_
  rotate_left
  · (go_simp; try with_reducible rfl)
  simp only [Act.put, List.setIfInBounds_toArray, List.set_cons_zero, List.set_cons_succ]
  refine wpL_effG rfl ?_
  go_simp
  refine (groups_any (h24.drew.pull3)).mono ?_
  rintro e w16 ⟨rfl, rfl⟩
  refine ⟨⟨_, h24.drew⟩, ?_⟩
  refine wpL_guarded (v := ?_) rfl (fun w' hS => ?_) ?_
  rotate_left
  · (go_simp; try with_reducible rfl)
  simp only [Act.put, List.setIfInBounds_toArray, List.set_cons_zero, List.set_cons_succ]
  refine wpL_guarded (v := ?_) rfl (fun w' hS => ?_) ?_
  rotate_left
  · (go_simp; try with_reducible rfl)
  simp only [Act.put, List.setIfInBounds_toArray, List.set_cons_zero, List.set_cons_succ]
  refine wpL_guarded (v := ?_) rfl (fun w' hS => ?_) ?_
  rotate_left
  · (go_simp; try with_reducible rfl)
  simp only [Act.put, List.setIfInBounds_toArray, List.set_cons_zero, List.set_cons_succ]
  refine wpL_guarded (v := ?_) rfl (fun w' hS => ?_) ?_
  rotate_left
  · (go_simp; try with_reducible rfl)
  simp only [Act.put, List.setIfInBounds_toArray, List.set_cons_zero, List.set_cons_succ]
  refine wpL_guarded (v := ?_) rfl (fun w' hS => ?_) ?_
  rotate_left
  · (go_simp; try with_reducible rfl)
  simp only [Act.put, List.setIfInBounds_toArray, List.set_cons_zero, List.set_cons_succ]
  refine wpL_guarded (v := ?_) rfl (fun w' hS => ?_) ?_
  rotate_left
  · (go_simp; try with_reducible rfl)
  simp only [Act.put, List.setIfInBounds_toArray, List.set_cons_zero, List.set_cons_succ]
  refine wpL_guarded (v := ?_) rfl (fun w' hS => ?_) ?_
  rotate_left
  · (go_simp; try with_reducible rfl)
  simp only [Act.put, List.setIfInBounds_toArray, List.set_cons_zero, List.set_cons_succ]
  refine wpL_guarded (v := ?_) rfl (fun w' hS => ?_) ?_
  rotate_left
  · (go_simp; try with_reducible rfl)
  simp only [Act.put, List.setIfInBounds_toArray, List.set_cons_zero, List.set_cons_succ]
  refine wpL_guarded rfl (fun w' hS => exec_convert rfl rfl (run_convert_in (by obtain ⟨_, hS⟩ := hS; exact BytesIn.tells _ _ rfl _ hS))) ?_
  refine wpL_effG rfl ?_
  go_simp
  refine (wfull_any h24.drew 1 1).mono ?_
  rintro e w17 ⟨g8, rfl, h25⟩
  refine ⟨⟨_, h25.right⟩, ?_⟩
  refine wpL_effG rfl (wp_of_run (exec_convert rfl rfl (run_convert_in (BytesIn.tells _ _ rfl _ h25))) ⟨⟨_, h25.right⟩, ?_⟩)
  simp only [Act.put, List.setIfInBounds_toArray, List.set_cons_zero, List.set_cons_succ]
  refine wpL_guarded (v := ?_) rfl (fun w' hS => ?_) ?_
  rotate_left
  · (go_simp; try with_reducible rfl)
  simp only [Act.put, List.setIfInBounds_toArray, List.set_cons_zero, List.set_cons_succ]
  refine wpL_guarded (v := ?_) rfl (fun w' hS => ?_) ?_
  rotate_left
  · (go_simp; try with_reducible rfl)
  simp only [Act.put, List.setIfInBounds_toArray, List.set_cons_zero, List.set_cons_succ]
  refine wpL_nil ?_
  refine wpL_yield (v := ?_) rfl (fun w' hS => ?_) ?_
  rotate_left
  · (go_simp; try with_reducible rfl)
  simp only [Act.put, List.setIfInBounds_toArray, List.set_cons_zero]
  refine wpL_nil ?_
  go_wp2
  go_ret
  exact ⟨rfl, h25.right.right.right.right.right.right⟩

end Go.Proofs.Ytadefdmoijkclaa
