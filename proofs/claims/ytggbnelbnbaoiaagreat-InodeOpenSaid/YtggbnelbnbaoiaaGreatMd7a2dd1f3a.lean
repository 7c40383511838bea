/- Texts of this claim, put together: IW8, IW9, IW10, IW11, IW12, IW13, IW14, InoF, IW15, IW15A, IW15B, IW15C, IW15D; no condition. -/
import Derived.Test.YtggbnelbnbaoiaaGreatMf187ee2908

set_option linter.unusedSimpArgs false
set_option linter.unusedVariables false

/- Walks of the files' functions, part 8: grow, by the near block; no condition. -/
namespace Go.Proofs.YtggbnelbnbaoiaaGreat
open Go.RowKit Go.MapKept

section
variable {f s p len g xb n j : Nat} {k : List Nat} {d : DiskM} {F G : Nat → Sec} {X : Nat → NodeM} {B : Nat → Nat → UInt8} {Ls : Nat → LayM} {R : Assn} {w : World}

set_option maxRecDepth 100000 in
set_option maxHeartbeats 4000000 in
theorem grow_near (h : Bears w (nodeObj xb (X n) * (filesObj f s * (spA s p d len g k true F G * R)))) (hc : Core len G X B Ls []) (hn : n < 256) (hk : (Ls n).blk.length = j) (hj : 4 ≤ j) (hj2 : j < 36) (hb : (costN (j + 1) : Int) - costN j ≤ blkN len G) :
    Calls Tryz.prog 56 #[.pointer (some ⟨f, 0, none⟩), .pointer (some ⟨xb, 0, none⟩), .int .i64 j] w fun e w' => ∃ (q : Nat) (G' : Nat → Sec) (x' : NodeM) (L' : LayM) (k' : List Nat), e = .returned (.tuple #[.int .i64 q, .int .i64 0]) ∧
      Grown len G G' X B Ls n j x' L' k k' ∧ Bears w' (nodeObj xb x' * (filesObj f s * (spA s p d len g k' true F G' * R))) := by
  obtain ⟨hlo, hhi⟩ := h.right.right.spOk
  have hcost : (costN (j + 1) : Int) - costN j = if j = 4 then 2 else 1 := by
    unfold costN
    rw [if_pos (show 4 < j + 1 by omega), if_neg (show ¬ 36 < j + 1 by omega), if_neg (show ¬ 36 < j by omega)]
    by_cases e : j = 4
    · rw [if_pos e, if_neg (show ¬ 4 < j by omega)]; omega
    · rw [if_neg e, if_pos (show 4 < j by omega)]; omega
  rw [hcost] at hb
  have hfl : firstB len ≤ len := by unfold firstB mapsN; omega
  have hct := hc.canTake hfl (by split at hb <;> omega)
  have fc := files_cell h.right
  have hal := salloc_some h.pull3 hct
  have hsec : ∀ a b, firstB len ≤ a → b < len → a ≠ 621 + b / 512 := fun a b h1 h2 => by unfold firstB mapsN at h1; omega
  have e4 : ((j - 4 : Nat) : Int) = (j : Int) - 4 := by omega
  have d1 : decide ((j : Int) < 4) = false := decide_eq_false (by omega)
  have d2 : decide ((j : Int) < 36) = true := decide_eq_true (by omega)
  have Hal := Lib.hid hal
  by_cases h4 : j = 4
  · have hnew : ∀ q w', firstB len ≤ q → q < len → bitN G q = false → Bears w' (nodeObj xb (X n) * (filesObj f s * (spA s p d len g (q :: (621 + q / 512) :: k) true F (allocG G q) * R))) →
        Calls Tryz.prog 110 #[.pointer (some ⟨f, 0, none⟩), .pointer (some ⟨xb, 7, none⟩), .int .i64 ((j : Int) - 4), .int .i64 q] w' fun e w' => e = .returned (.int .i64 0) ∧
          ∃ (G' : Nat → Sec) (x' : NodeM) (L' : LayM) (k' : List Nat), Grown len G G' X B Ls n j x' L' k k' ∧ Bears w' (nodeObj xb x' * (filesObj f s * (spA s p d len g k' true F G' * R))) := by
      intro q w' h1 h2 h3 hN
      have hc1 := hc.alloc h1 h2 h3
      have hnear := (hc.lay n hn).near0 (by omega)
      have hb1 : blkN len (allocG G q) = blkN len G - 1 := blk_alloc' hc.g64 h1 h2 h3
      have hct1 := hc1.canTake hfl (by rw [hb1]; rw [if_pos h4] at hb; omega)
      have hnm := name_new (po := 7) (j := j - 4) (q := q) hN (by simp [hnear]) hct1 (by omega) (by omega)
      rw [e4] at hnm
      refine hnm.mono ?_
      rintro e w2 ⟨r, r1, r2, r3, rfl, hR⟩
      have hc2 := hc1.alloc r1 r2 r3
      have hqr : q ≠ r := fun e => by
        have := bitN_alloc (len := len) hc.g64 h1 q h2
        rw [if_pos rfl] at this
        rw [← e] at r3
        rw [r3] at this
        cases this
      have hz : allocG (allocG G q) r q = zeroSec := by rw [allocG_at (hsec q r h1 r2) hqr, allocG_self]
      have hg := hc2.linkNear hn (k := j) (r := r) (q := q) hk hj hj2 hz (by rw [if_pos h4]) (by omega)
      rw [allocG_self] at hg
      refine ⟨rfl, _, _, _, _, ⟨hg, by simp [hk], ?_, fun m hm => ?_, rfl, rfl, rfl, fun hf => hf.setNear (by omega), fun i hi => ?_⟩, hR⟩
      · rw [blk_updS r1, blk_alloc' hc1.g64 r1 r2 r3, hb1, hcost, if_pos h4]; omega
      · rw [inodeB_blk r1 hm hlo hhi, inodeB_alloc r1 r2 hm hlo hhi, inodeB_alloc h1 h2 hm hlo hhi]
      · simp only [List.mem_cons] at hi
        have m1 : 621 + r / 512 < firstB len := by unfold firstB mapsN; omega
        have m2 : 621 + q / 512 < firstB len := by unfold firstB mapsN; omega
        rcases hi with rfl | rfl | rfl | rfl | rfl | hi
        · right; right; unfold touchL; rw [if_pos ⟨hj, hj2⟩]; simp
        · right; right; unfold touchL; rw [if_pos ⟨hj, hj2⟩]; simp
        · exact .inr (.inl m1)
        · right; right; unfold touchL; rw [← hk, getD_last]; exact List.mem_cons_self
        · exact .inr (.inl m2)
        · exact .inl hi
    have Hnew := Lib.hid hnew
    clear hnew hal hct hc hk hcost h hb e4 h4 hsec
    go_enter Tryz.func56, Tryz.ntmps56
    go_wp2_with fail
    refine Hal.out.mono ?_
    rintro e w1 ⟨q, h1, h2, h3, rfl, hA⟩
    have hnm := Hnew.out q w1 h1 h2 h3 hA.push3
    have Hnm := Lib.hid hnm
    clear h3 hA hnm
    go_wp2_with fail
    refine Hnm.out.mono ?_
    rintro e w2 ⟨rfl, G', x', L', k', hG, hB⟩
    have HG := Lib.hid hG
    clear hG
    go_wp2_with fail
    go_ret2
    exact ⟨q, G', x', L', k', rfl, HG.out, hB⟩
  · have hnew : ∀ q w', firstB len ≤ q → q < len → bitN G q = false → Bears w' (nodeObj xb (X n) * (filesObj f s * (spA s p d len g (q :: (621 + q / 512) :: k) true F (allocG G q) * R))) →
        Calls Tryz.prog 110 #[.pointer (some ⟨f, 0, none⟩), .pointer (some ⟨xb, 7, none⟩), .int .i64 ((j : Int) - 4), .int .i64 q] w' fun e w' => e = .returned (.int .i64 0) ∧
          ∃ (G' : Nat → Sec) (x' : NodeM) (L' : LayM) (k' : List Nat), Grown len G G' X B Ls n j x' L' k k' ∧ Bears w' (nodeObj xb x' * (filesObj f s * (spA s p d len g k' true F G' * R))) := by
      intro q w' h1 h2 h3 hN
      have hc1 := hc.alloc h1 h2 h3
      have hnear := (hc.lay n hn).near (by omega)
      have hok := hc1.ownOk hn _ (LayM.mem_near (L := Ls n) (by omega))
      rw [← hnear] at hok
      have hn0 : (X n).near ≠ 0 := by have := hok.lo; unfold firstB at this; omega
      have hb1 : blkN len (allocG G q) = blkN len G - 1 := blk_alloc' hc.g64 h1 h2 h3
      have hnm := name_at (po := 7) (m := (X n).near) (j := j - 4) (q := q) hN (by simp) hn0 hok (by omega) (by omega)
      rw [e4] at hnm
      refine hnm.mono ?_
      rintro e w2 ⟨rfl, hR⟩
      have hg := hc1.linkNear hn (k := j) (r := (X n).near) (q := q) hk hj hj2 (allocG_self q) (by rw [if_neg h4]; exact ⟨rfl, rfl⟩) (by omega)
      refine ⟨rfl, _, _, _, _, ⟨hg, by simp [hk], ?_, fun m hm => ?_, rfl, rfl, rfl, fun hf => hf.setNear hf.near, fun i hi => ?_⟩, hR⟩
      · rw [blk_updS hok.lo, hb1, hcost, if_neg h4]
      · rw [inodeB_blk hok.lo hm hlo hhi, inodeB_alloc h1 h2 hm hlo hhi]
      · simp only [List.mem_cons] at hi
        have m2 : 621 + q / 512 < firstB len := by unfold firstB mapsN; omega
        rcases hi with rfl | rfl | rfl | hi
        · right; right; unfold touchL; rw [if_pos ⟨hj, hj2⟩]; simp
        · right; right; unfold touchL; rw [← hk, getD_last]; exact List.mem_cons_self
        · exact .inr (.inl m2)
        · exact .inl hi
    have Hnew := Lib.hid hnew
    clear hnew hal hct hc hk hcost h hb e4 h4 hsec
    go_enter Tryz.func56, Tryz.ntmps56
    go_wp2_with fail
    refine Hal.out.mono ?_
    rintro e w1 ⟨q, h1, h2, h3, rfl, hA⟩
    have hnm := Hnew.out q w1 h1 h2 h3 hA.push3
    have Hnm := Lib.hid hnm
    clear h3 hA hnm
    go_wp2_with fail
    refine Hnm.out.mono ?_
    rintro e w2 ⟨rfl, G', x', L', k', hG, hB⟩
    have HG := Lib.hid hG
    clear hG
    go_wp2_with fail
    go_ret2
    exact ⟨q, G', x', L', k', rfl, HG.out, hB⟩

end

end Go.Proofs.YtggbnelbnbaoiaaGreat

/- Walks of the files' functions, part 9: grow, behind the wide block; no condition. -/
namespace Go.Proofs.YtggbnelbnbaoiaaGreat
open Go.RowKit Go.MapKept

section
variable {f s p len g xb n j : Nat} {k : List Nat} {d : DiskM} {F G : Nat → Sec} {X : Nat → NodeM} {B : Nat → Nat → UInt8} {Ls : Nat → LayM} {R : Assn} {w : World}

set_option maxRecDepth 100000 in
set_option maxHeartbeats 4000000 in
theorem grow_inner (h : Bears w (nodeObj xb (X n) * (filesObj f s * (spA s p d len g k true F G * R)))) (hc : Core len G X B Ls []) (hn : n < 256) (hk : (Ls n).blk.length = j) (hj : 36 ≤ j) (hj2 : j < 256) (hm : (j - 36) % 32 ≠ 0) (hb : (costN (j + 1) : Int) - costN j ≤ blkN len G) :
    Calls Tryz.prog 56 #[.pointer (some ⟨f, 0, none⟩), .pointer (some ⟨xb, 0, none⟩), .int .i64 j] w fun e w' => ∃ (q : Nat) (G' : Nat → Sec) (x' : NodeM) (L' : LayM) (k' : List Nat), e = .returned (.tuple #[.int .i64 q, .int .i64 0]) ∧
      Grown len G G' X B Ls n j x' L' k k' ∧ Bears w' (nodeObj xb x' * (filesObj f s * (spA s p d len g k' true F G' * R))) := by
  obtain ⟨hlo, hhi⟩ := h.right.right.spOk
  have hcost : (costN (j + 1) : Int) - costN j = 1 := by
    unfold costN nIn
    rw [if_pos (show 4 < j + 1 by omega), if_pos (show 36 < j + 1 by omega)]
    rw [if_pos (show 4 < j by omega), if_pos (show 36 < j by omega)]
    omega
  rw [hcost] at hb
  have hfl : firstB len ≤ len := by unfold firstB mapsN; omega
  have hct := hc.canTake hfl (by omega)
  have fc := files_cell h.right
  have hal := salloc_some h.pull3 hct
  have d1 : decide ((j : Int) < 4) = false := decide_eq_false (by omega)
  have d2 : decide ((j : Int) < 36) = false := decide_eq_false (by omega)
  have d3 : decide (0 < ((j : Int) - 36) % 32) = true := decide_eq_true (by omega)
  have e36 : (((j - 36) / 32 : Nat) : Int) = ((j : Int) - 36) / 32 := by omega
  have e37 : (((j - 36) % 32 : Nat) : Int) = ((j : Int) - 36) % 32 := by omega
  have Hal := Lib.hid hal
  clear hal
  go_enter Tryz.func56, Tryz.ntmps56
  go_wp2_with fail
  refine Hal.out.mono ?_
  rintro e w1 ⟨q, h1, h2, h3, rfl, hA⟩
  have hN0 := hA.pull2.alloc (.cells #[.int .i64 0] 3)
  have hN := hN0.pull2
  have c8 := cell_of_obj hN.obj 8
  simp only [List.getElem?_toArray, List.getElem?_cons_zero, List.getElem?_cons_succ] at c8
  have fc1 := files_cell (hN.cast (by ac_rfl) : Bears _ (filesObj f s * (nodeObj xb (X n) * (Assn.obj w1.heap.size (.cells #[.int .i64 0] 3 (0, 0)) * (spA s p d len g (q :: (621 + q / 512) :: k) true F (allocG G q) * R)))))
  go_wp2_with fail
  have hc1 := hc.alloc h1 h2 h3
  have hwide := (hc1.lay n hn).wide (by omega)
  have hin : (Ls n).inner.length = nIn j := by rw [← hk]; exact (hc1.lay n hn).inn
  have hil : (j - 36) / 32 < (Ls n).inner.length := by rw [hin]; unfold nIn; omega
  have hokw := hc1.ownOk hn _ (LayM.mem_wide (L := Ls n) (by omega))
  have hoki := hc1.ownOk hn _ (LayM.mem_inner (L := Ls n) (by omega) hil)
  have htw := (hc1.lay n hn).wideN _ hil
  rw [← hwide] at hokw htw
  generalize hr : (Ls n).inner.getD ((j - 36) / 32) 0 = r at hoki htw
  have hN1 : Bears _ (filesObj f s * (spA s p d len g (q :: (621 + q / 512) :: k) true F (allocG G q) * (nodeObj xb (X n) * (Assn.obj w1.heap.size (.cells #[.int .i64 0] 3 (0, 0)) * R)))) := hN.cast (by ac_rfl)
  have hnm := named_any hN1 hokw.chk hokw.lo hokw.hi (j := (j - 36) / 32) (by omega) htw
  rw [e36] at hnm
  refine hnm.mono ?_
  rintro e w2 ⟨rfl, hM⟩
  have hM1 := hM.pull4
  have l0 := cell_of_obj hM1.obj 0
  have l1 := frozen_of_obj hM1.obj 0
  simp only [List.getElem?_toArray, List.getElem?_cons_zero, List.getElem?_cons_succ] at l0
  have hM2 := hM1.setCell (i := 0) (.int .i64 r)
  have l2 := cell_of_obj hM2.obj 0
  go_wp2_with fail
  have hr0 : r ≠ 0 := by have := hoki.lo; unfold firstB at this; omega
  have hq6 : q < 65536 := by omega
  have hnm2 := name_at (po := 0) (m := r) (j := (j - 36) % 32) (q := q) (hM2.cast (by ac_rfl) : Bears _ (Assn.obj w1.heap.size (.cells (#[.int .i64 0].setIfInBounds 0 (.int .i64 r)) 3 (0, 0)) * (filesObj f s * (spA s p d len g (q :: (621 + q / 512) :: k) true F (allocG G q) * (nodeObj xb (X n) * R))))) rfl hr0 hoki (by omega) hq6
  rw [e37] at hnm2
  refine hnm2.mono ?_
  rintro e w3 ⟨rfl, hT⟩
  have l3 := cell_of_obj hT.obj 0
  simp only [List.setIfInBounds_toArray, List.set_cons_zero, List.getElem?_toArray, List.getElem?_cons_zero, List.getElem?_cons_succ] at l3
  go_wp2_with fail
  go_ret2
  have hg := hc1.linkInner hn hk hj hj2 hm (allocG_self q) hq6 hr.symm
  have hgx := hg
  rw [← updF_id X n] at hgx
  refine ⟨q, _, X n, _, _, rfl, ⟨hgx, by simp [hk], ?_, fun m hm => ?_, rfl, rfl, rfl, id, fun i hi => ?_⟩, (hT.right.cast (by ac_rfl) : Bears _ (nodeObj xb (X n) * (filesObj f s * (spA s p d len g _ true F _ * R))))⟩
  · rw [blk_updS hoki.lo, blk_alloc' hc.g64 h1 h2 h3, hcost]
  · rw [inodeB_blk hoki.lo hm hlo hhi, inodeB_alloc h1 h2 hm hlo hhi]
  · simp only [List.mem_cons] at hi
    have m2 : 621 + q / 512 < firstB len := by unfold firstB mapsN; omega
    rcases hi with rfl | rfl | rfl | hi
    · right; right; unfold touchL; rw [if_pos hj]; exact List.mem_cons_of_mem _ (List.mem_append_right _ (by rw [← hr]; exact List.mem_cons_self))
    · right; right; unfold touchL; rw [← hk, getD_last]; exact List.mem_cons_self
    · exact .inr (.inl m2)
    · exact .inl hi

end

end Go.Proofs.YtggbnelbnbaoiaaGreat

/- Walks of the files' functions, part 10: grow, a new inner block; no condition. -/
namespace Go.Proofs.YtggbnelbnbaoiaaGreat
open Go.RowKit Go.MapKept

theorem Core.updE {len : Nat} {G : Nat → Sec} {X : Nat → NodeM} {B : Nat → Nat → UInt8} {Ls : Nat → LayM} {E : List Nat} (h : Core len G X B Ls E) {r : Nat} (hr : r ∈ E) {b : Sec} (hb : b.length = 64) : Core len (updS G r b) X B Ls E := by
  have hG : ∀ m, m < 256 → ∀ i ∈ (Ls m).own, updS G r b i = G i := fun m hm i hi => by
    unfold updS; rw [if_neg (fun e => by subst e; exact h.eD m hm i hr hi)]
  have hF := (h.eR r hr).1
  have hbit : ∀ i, i < 512 * mapsN len → bitN (updS G r b) i = bitN G i := fun i hi => bitN_other (by unfold firstB at hF; omega)
  refine ⟨upd64 h.g64 r hb, fun m hm => (h.lay m hm).congr (hG m hm), fun m hm => (h.data m hm).congr (hG m hm), h.rng, h.nodup, h.disj, h.eR, h.eN, h.eD, fun i h1 h2 => ?_, fun i h1 h2 => ?_⟩
  · rw [hbit i (by unfold mapsN; omega)]; exact h.bits i h1 h2
  · rw [hbit i h1]; exact h.out i h1 h2

section
variable {f s p len g xb n j : Nat} {k : List Nat} {d : DiskM} {F G : Nat → Sec} {X : Nat → NodeM} {B : Nat → Nat → UInt8} {Ls : Nat → LayM} {R : Assn} {w : World}

/-- The sectors after a block and its inner block were taken. -/
def newG (G : Nat → Sec) (q r : Nat) : Nat → Sec := updS (allocG (allocG G q) r) r (lay2 zeroSec (2 * 0) q)

theorem newG_facts {q r : Nat} (hc : Core len G X B Ls []) (h1 : firstB len ≤ q) (h2 : q < len) (h3 : bitN G q = false) (r1 : firstB len ≤ r) (r2 : r < len) (r3 : bitN (allocG G q) r = false) (hhi : len ≤ 8192) :
    Core len (newG G q r) X B Ls [r, q] ∧ newG G q r q = zeroSec ∧ two (newG G q r r) 0 = q ∧ r ≠ q := by
  have hsec : ∀ a b, firstB len ≤ a → b < len → a ≠ 621 + b / 512 := fun a b h1 h2 => by unfold firstB mapsN at h1; omega
  have hqr : q ≠ r := fun e => by
    have := bitN_alloc (len := len) hc.g64 h1 q h2
    rw [if_pos rfl] at this
    rw [← e] at r3
    rw [r3] at this
    cases this
  have hc1 := hc.alloc h1 h2 h3
  have hc2 := hc1.alloc r1 r2 r3
  refine ⟨hc2.updE (by simp) (by rw [lay2_length]; rfl), ?_, ?_, hqr.symm⟩
  · unfold newG updS
    rw [if_neg hqr, allocG_at (hsec q r h1 r2) hqr, allocG_self]
  · unfold newG updS
    rw [if_pos rfl]
    exact two_lay2 _ _ _ (by decide) (by omega)

set_option maxRecDepth 100000 in
set_option maxHeartbeats 4000000 in
/-- The last step: the wide block's number, or a new wide block. -/
theorem grow_name {q r : Nat} (h : Bears w (nodeObj xb (X n) * (filesObj f s * (spA s p d len g (r :: r :: (621 + r / 512) :: q :: (621 + q / 512) :: k) true F (newG G q r) * R)))) (hc : Core len G X B Ls []) (hn : n < 256) (hk : (Ls n).blk.length = j) (hj : 36 ≤ j) (hj2 : j < 256) (hm : (j - 36) % 32 = 0) (hb : (costN (j + 1) : Int) - costN j ≤ blkN len G)
    (h1 : firstB len ≤ q) (h2 : q < len) (h3 : bitN G q = false) (r1 : firstB len ≤ r) (r2 : r < len) (r3 : bitN (allocG G q) r = false) :
    Calls Tryz.prog 110 #[.pointer (some ⟨f, 0, none⟩), .pointer (some ⟨xb, 8, none⟩), .int .i64 (((j : Int) - 36) / 32), .int .i64 r] w fun e w' => e = .returned (.int .i64 0) ∧
      ∃ (G' : Nat → Sec) (x' : NodeM) (L' : LayM) (k' : List Nat), Grown len G G' X B Ls n j x' L' k k' ∧ Bears w' (nodeObj xb x' * (filesObj f s * (spA s p d len g k' true F G' * R))) := by
  obtain ⟨hlo, hhi⟩ := h.right.right.spOk
  have hcost : (costN (j + 1) : Int) - costN j = if j = 36 then 3 else 2 := by
    unfold costN nIn
    rw [if_pos (show 4 < j + 1 by omega), if_pos (show 36 < j + 1 by omega), if_pos (show 4 < j by omega)]
    by_cases e : j = 36
    · rw [if_pos e, if_neg (show ¬ 36 < j by omega)]; omega
    · rw [if_neg e, if_pos (show 36 < j by omega)]; omega
  rw [hcost] at hb
  have hfl : firstB len ≤ len := by unfold firstB mapsN; omega
  have e36 : (((j - 36) / 32 : Nat) : Int) = ((j : Int) - 36) / 32 := by omega
  obtain ⟨hcE, hzq, hrq, hne⟩ := newG_facts hc h1 h2 h3 r1 r2 r3 hhi
  have hb1 : blkN len (newG G q r) = blkN len G - 2 := by
    unfold newG
    rw [blk_updS r1, blk_alloc' (hc.alloc h1 h2 h3).g64 r1 r2 r3, blk_alloc' hc.g64 h1 h2 h3]; omega
  have hi1 : ∀ m, m < 256 → inodeB len (newG G q r) m = inodeB len G m := fun m hm => by
    unfold newG
    rw [inodeB_blk r1 hm hlo hhi, inodeB_alloc r1 r2 hm hlo hhi, inodeB_alloc h1 h2 hm hlo hhi]
  have hsec : ∀ a b, firstB len ≤ a → b < len → a ≠ 621 + b / 512 := fun a b h1 h2 => by unfold firstB mapsN at h1; omega
  have m1 : 621 + r / 512 < firstB len := by unfold firstB mapsN; omega
  have m2 : 621 + q / 512 < firstB len := by unfold firstB mapsN; omega
  have hinn : (Ls n).inner.length = (j - 36) / 32 := by rw [(hc.lay n hn).inn, hk]; unfold nIn; omega
  generalize hG2 : newG G q r = G2 at *
  by_cases h36 : j = 36
  · have hwide := (hc.lay n hn).wide0 (by omega)
    have hct1 := hcE.canTake hfl (by rw [hb1]; rw [if_pos h36] at hb; omega)
    have hnm := name_new (po := 8) (j := (j - 36) / 32) (q := r) h (by simp [hwide]) hct1 (by omega) (by omega)
    rw [e36] at hnm
    refine hnm.mono ?_
    rintro e w2 ⟨v, v1, v2, v3, rfl, hR⟩
    have hc3 := hcE.alloc v1 v2 v3
    have hvE := (hcE.free_not v1 v2 v3).1
    have hvr : v ≠ r := fun e => hvE (by rw [e]; simp)
    have hvq : v ≠ q := fun e => hvE (by rw [e]; simp)
    have hz : allocG G2 v q = zeroSec := by rw [allocG_at (hsec q v h1 v2) hvq.symm, hzq]
    have hr2 : two (allocG G2 v r) 0 = q := by rw [allocG_at (hsec r v r1 v2) hvr.symm, hrq]
    have hg := hc3.linkWide hn (k := j) (r := r) (v := v) (q := q) hk hj hj2 hm hz hr2 (by rw [if_pos h36]) (by omega)
    rw [allocG_self] at hg
    refine ⟨rfl, _, _, _, _, ⟨hg, by simp [hk], ?_, fun m hm => ?_, rfl, rfl, rfl, fun hf => hf.setWide (by omega), fun i hi => ?_⟩, hR⟩
    · rw [blk_updS v1, blk_alloc' hcE.g64 v1 v2 v3, hb1, hcost, if_pos h36]; omega
    · rw [inodeB_blk v1 hm hlo hhi, inodeB_alloc v1 v2 hm hlo hhi, hi1 m hm]
    · have m3 : 621 + v / 512 < firstB len := by unfold firstB mapsN; omega
      have tv : v ∈ touchL { Ls n with blk := (Ls n).blk ++ [q], wide := v, inner := (Ls n).inner ++ [r] } j := by
        unfold touchL; rw [if_pos hj]; exact List.mem_cons_of_mem _ (List.mem_append_right _ (List.mem_cons_of_mem _ List.mem_cons_self))
      have tr : r ∈ touchL { Ls n with blk := (Ls n).blk ++ [q], wide := v, inner := (Ls n).inner ++ [r] } j := by
        unfold touchL; rw [if_pos hj]; exact List.mem_cons_of_mem _ (List.mem_append_right _ (by rw [← hinn, getD_last]; exact List.mem_cons_self))
      have tq : q ∈ touchL { Ls n with blk := (Ls n).blk ++ [q], wide := v, inner := (Ls n).inner ++ [r] } j := by
        unfold touchL; rw [← hk, getD_last]; exact List.mem_cons_self
      simp only [List.mem_cons] at hi
      rcases hi with rfl | rfl | rfl | rfl | rfl | rfl | rfl | rfl | hi
      · exact .inr (.inr tv)
      · exact .inr (.inr tv)
      · exact .inr (.inl m3)
      · exact .inr (.inr tr)
      · exact .inr (.inr tr)
      · exact .inr (.inl m1)
      · exact .inr (.inr tq)
      · exact .inr (.inl m2)
      · exact .inl hi
  · have hwide := (hc.lay n hn).wide (by omega)
    have hok := hcE.ownOk hn _ (LayM.mem_wide (L := Ls n) (by omega))
    rw [← hwide] at hok
    have hw0 : (X n).wide ≠ 0 := by have := hok.lo; unfold firstB at this; omega
    have hnm := name_at (po := 8) (m := (X n).wide) (j := (j - 36) / 32) (q := r) h (by simp) hw0 hok (by omega) (by omega)
    rw [e36] at hnm
    refine hnm.mono ?_
    rintro e w2 ⟨rfl, hR⟩
    have hg := hcE.linkWide hn (k := j) (r := r) (v := (X n).wide) (q := q) hk hj hj2 hm hzq hrq (by rw [if_neg h36]; exact ⟨rfl, rfl⟩) (by omega)
    refine ⟨rfl, _, _, _, _, ⟨hg, by simp [hk], ?_, fun m hm => ?_, rfl, rfl, rfl, fun hf => hf.setWide hf.wide, fun i hi => ?_⟩, hR⟩
    · rw [blk_updS hok.lo, hb1, hcost, if_neg h36]
    · rw [inodeB_blk hok.lo hm hlo hhi, hi1 m hm]
    · generalize hv : (X n).wide = v at *
      have tv : v ∈ touchL { Ls n with blk := (Ls n).blk ++ [q], wide := v, inner := (Ls n).inner ++ [r] } j := by
        unfold touchL; rw [if_pos hj]; exact List.mem_cons_of_mem _ (List.mem_append_right _ (List.mem_cons_of_mem _ List.mem_cons_self))
      have tr : r ∈ touchL { Ls n with blk := (Ls n).blk ++ [q], wide := v, inner := (Ls n).inner ++ [r] } j := by
        unfold touchL; rw [if_pos hj]; exact List.mem_cons_of_mem _ (List.mem_append_right _ (by rw [← hinn, getD_last]; exact List.mem_cons_self))
      have tq : q ∈ touchL { Ls n with blk := (Ls n).blk ++ [q], wide := v, inner := (Ls n).inner ++ [r] } j := by
        unfold touchL; rw [← hk, getD_last]; exact List.mem_cons_self
      simp only [List.mem_cons] at hi
      rcases hi with rfl | rfl | rfl | rfl | rfl | rfl | hi
      · exact .inr (.inr tv)
      · exact .inr (.inr tr)
      · exact .inr (.inr tr)
      · exact .inr (.inl m1)
      · exact .inr (.inr tq)
      · exact .inr (.inl m2)
      · exact .inl hi

end

end Go.Proofs.YtggbnelbnbaoiaaGreat

/- Walks of the files' functions, part 11: grow with a new inner block, and grow whole; no condition. -/
namespace Go.Proofs.YtggbnelbnbaoiaaGreat
open Go.RowKit Go.MapKept

section
variable {f s p len g xb n j : Nat} {k : List Nat} {d : DiskM} {F G : Nat → Sec} {X : Nat → NodeM} {B : Nat → Nat → UInt8} {Ls : Nat → LayM} {R : Assn} {w : World}

set_option maxRecDepth 100000 in
set_option maxHeartbeats 4000000 in
theorem grow_wide (h : Bears w (nodeObj xb (X n) * (filesObj f s * (spA s p d len g k true F G * R)))) (hc : Core len G X B Ls []) (hn : n < 256) (hk : (Ls n).blk.length = j) (hj : 36 ≤ j) (hj2 : j < 256) (hm : (j - 36) % 32 = 0) (hb : (costN (j + 1) : Int) - costN j ≤ blkN len G) :
    Calls Tryz.prog 56 #[.pointer (some ⟨f, 0, none⟩), .pointer (some ⟨xb, 0, none⟩), .int .i64 j] w fun e w' => ∃ (q : Nat) (G' : Nat → Sec) (x' : NodeM) (L' : LayM) (k' : List Nat), e = .returned (.tuple #[.int .i64 q, .int .i64 0]) ∧
      Grown len G G' X B Ls n j x' L' k k' ∧ Bears w' (nodeObj xb x' * (filesObj f s * (spA s p d len g k' true F G' * R))) := by
  obtain ⟨hlo, hhi⟩ := h.right.right.spOk
  have hcost : 2 ≤ (costN (j + 1) : Int) - costN j := by
    unfold costN nIn
    rw [if_pos (show 4 < j + 1 by omega), if_pos (show 36 < j + 1 by omega), if_pos (show 4 < j by omega)]
    by_cases e : j = 36
    · rw [if_neg (show ¬ 36 < j by omega)]; omega
    · rw [if_pos (show 36 < j by omega)]; omega
  have hfl : firstB len ≤ len := by unfold firstB mapsN; omega
  have hct := hc.canTake hfl (by omega)
  have fc := files_cell h.right
  have hal := salloc_some h.pull3 hct
  have d1 : decide ((j : Int) < 4) = false := decide_eq_false (by omega)
  have d2 : decide ((j : Int) < 36) = false := decide_eq_false (by omega)
  have d3 : decide (0 < ((j : Int) - 36) % 32) = false := decide_eq_false (by omega)
  have e37 : ((j : Int) - 36) % 32 = 0 := by omega
  have Hal := Lib.hid hal
  clear hal
  go_enter Tryz.func56, Tryz.ntmps56
  go_wp2_with fail
  refine Hal.out.mono ?_
  rintro e w1 ⟨q, h1, h2, h3, rfl, hA⟩
  have hN0 := hA.pull2.alloc (.cells #[.int .i64 0] 3)
  have hN : Bears _ (Assn.obj w1.heap.size (.cells #[.int .i64 0] 3 (0, 0)) * (filesObj f s * (spA s p d len g (q :: (621 + q / 512) :: k) true F (allocG G q) * (nodeObj xb (X n) * R)))) := hN0.cast (by ac_rfl)
  have fc1 := files_cell hN.right
  have l0 := cell_of_obj hN.obj 0
  have l1 := frozen_of_obj hN.obj 0
  simp only [List.getElem?_toArray, List.getElem?_cons_zero] at l0
  have hM2 := hN.setCell (i := 0) (.int .i64 0)
  have l2 := cell_of_obj hM2.obj 0
  have hc1 := hc.alloc h1 h2 h3
  have hct1 := hc1.canTake hfl (by rw [blk_alloc' hc.g64 h1 h2 h3]; omega)
  have hnm := name_new (po := 0) (j := 0) (q := q) hN rfl hct1 (by omega) (by omega)
  rw [show ((0 : Nat) : Int) = 0 from rfl] at hnm
  have Hnm := Lib.hid hnm
  clear hnm
  go_wp2_with fail
  refine Hnm.out.mono ?_
  rintro e w2 ⟨r, r1, r2, r3, rfl, hT⟩
  have R3 := Lib.hid r3
  have hT1 : Bears _ (Assn.obj w1.heap.size (.cells (#[.int .i64 0].setIfInBounds 0 (.int .i64 r)) 3 (0, 0)) * (nodeObj xb (X n) * (filesObj f s * (spA s p d len g (r :: r :: (621 + r / 512) :: q :: (621 + q / 512) :: k) true F (newG G q r) * R)))) := hT.cast (by unfold newG; ac_rfl)
  have hloc : ∀ w' Q, Bears w' (Assn.obj w1.heap.size (.cells (#[.int .i64 0].setIfInBounds 0 (.int .i64 r)) 3 (0, 0)) * Q) → w'.cell? ⟨w1.heap.size, 0, none⟩ = some (.int .i64 r) := fun w' Q h => (cell_of_obj h.obj 0).trans (by simp)
  have l3 := hloc _ _ hT1
  have hr0 : ((r : Int) == 0) = false := by rw [beq_eq_false_iff_ne]; unfold firstB at r1; omega
  have hgn := fun w' Q (h : Bears w' (nodeObj xb (X n) * (filesObj f s * (spA s p d len g (r :: r :: (621 + r / 512) :: q :: (621 + q / 512) :: k) true F (newG G q r) * Q)))) => grow_name h hc hn hk hj hj2 hm hb h1 h2 h3 r1 r2 r3
  have Hgn := Lib.hid hgn
  have Hloc := Lib.hid hloc
  clear hgn hloc r3 h3 hT hc hb hcost Hnm Hal
  go_wp2_with fail
  refine wp_region_L (fun w' => ∃ Q, Bears w' (Assn.obj w1.heap.size (.cells (#[.int .i64 0].setIfInBounds 0 (.int .i64 r)) 3 (0, 0)) * Q)) 9
    [(true, 0), (true, 1), (true, 2), (true, 3), (true, 4), (true, 5), (true, 6), (false, 7), (true, 8)] [(true, 9)] (by kernel_rfl) (by kernel_rfl) ⟨_, hT1.drew⟩ ?_
  simp only [pick, List.getElem?_cons_zero, List.getElem?_cons_succ]
  refine wpL_yield (v := ?_) rfl (fun w' hS => ?_) ?_
  rotate_left
  · (obtain ⟨_, hS⟩ := hS; have pc := Hloc.out _ _ hS; go_simp; try with_reducible rfl)
  simp only [Act.put, List.setIfInBounds_toArray, List.set_cons_zero, List.set_cons_succ]
  refine wpL_yield (v := ?_) rfl (fun w' hS => ?_) ?_
  rotate_left
  · (obtain ⟨_, hS⟩ := hS; have pc := Hloc.out _ _ hS; go_simp; try with_reducible rfl)
  simp only [Act.put, List.setIfInBounds_toArray, List.set_cons_zero, List.set_cons_succ]
  refine wpL_yield (v := ?_) rfl (fun w' hS => ?_) ?_
  rotate_left
  · (obtain ⟨_, hS⟩ := hS; have pc := Hloc.out _ _ hS; go_simp; try with_reducible rfl)
  simp only [Act.put, List.setIfInBounds_toArray, List.set_cons_zero, List.set_cons_succ]
  refine wpL_yield (v := ?_) rfl (fun w' hS => ?_) ?_
  rotate_left
  · (obtain ⟨_, hS⟩ := hS; have pc := Hloc.out _ _ hS; go_simp; try with_reducible rfl)
  simp only [Act.put, List.setIfInBounds_toArray, List.set_cons_zero, List.set_cons_succ]
  refine wpL_yield (v := ?_) rfl (fun w' hS => ?_) ?_
  rotate_left
  · (obtain ⟨_, hS⟩ := hS; have pc := Hloc.out _ _ hS; go_simp; try with_reducible rfl)
  simp only [Act.put, List.setIfInBounds_toArray, List.set_cons_zero, List.set_cons_succ]
  refine wpL_yield (v := ?_) rfl (fun w' hS => ?_) ?_
  rotate_left
  · (obtain ⟨_, hS⟩ := hS; have pc := Hloc.out _ _ hS; go_simp; try with_reducible rfl)
  simp only [Act.put, List.setIfInBounds_toArray, List.set_cons_zero, List.set_cons_succ]
  refine wpL_yield (v := ?_) rfl (fun w' hS => ?_) ?_
  rotate_left
  · (obtain ⟨_, hS⟩ := hS; have pc := Hloc.out _ _ hS; go_simp; try with_reducible rfl)
  simp only [Act.put, List.setIfInBounds_toArray, List.set_cons_zero, List.set_cons_succ]
  refine wpL_eff rfl ?_
  go_simp
  refine (Hgn.out _ (Assn.obj w1.heap.size (.cells (#[.int .i64 0].setIfInBounds 0 (.int .i64 r)) 3 (0, 0)) * R) (hT1.drew.cast (by ac_rfl))).mono ?_
  rintro e w3 ⟨rfl, G', x', L', k', hG, hB⟩
  have HG := Lib.hid hG
  have hB1 : Bears w3 (Assn.obj w1.heap.size (.cells (#[.int .i64 0].setIfInBounds 0 (.int .i64 r)) 3 (0, 0)) * (nodeObj xb x' * (filesObj f s * (spA s p d len g k' true F G' * R)))) := hB.cast (by ac_rfl)
  clear hG
  refine ⟨⟨_, hB1⟩, ?_⟩
  refine wpL_yield (v := ?_) rfl (fun w' hS => ?_) ?_
  rotate_left
  · (go_simp; try with_reducible rfl)
  simp only [Act.put, List.setIfInBounds_toArray, List.set_cons_zero, List.set_cons_succ]
  refine wpL_nil ?_
  refine wpL_yield (v := ?_) rfl (fun w' hS => ?_) ?_
  rotate_left
  · (go_simp; try with_reducible rfl)
  simp only [Act.put, List.setIfInBounds_toArray, List.set_cons_zero]
  refine wpL_nil ?_
  go_wp2_with fail
  go_ret2
  exact ⟨q, G', x', L', k', rfl, HG.out, hB1.right⟩

/-- A file grows by its j-th block, where it has j of them and there is room. -/
theorem grow_any (h : Bears w (nodeObj xb (X n) * (filesObj f s * (spA s p d len g k true F G * R)))) (hc : Core len G X B Ls []) (hn : n < 256) (hk : (Ls n).blk.length = j) (hj : j < 256) (hb : (costN (j + 1) : Int) - costN j ≤ blkN len G) :
    Calls Tryz.prog 56 #[.pointer (some ⟨f, 0, none⟩), .pointer (some ⟨xb, 0, none⟩), .int .i64 j] w fun e w' => ∃ (q : Nat) (G' : Nat → Sec) (x' : NodeM) (L' : LayM) (k' : List Nat), e = .returned (.tuple #[.int .i64 q, .int .i64 0]) ∧
      Grown len G G' X B Ls n j x' L' k k' ∧ Bears w' (nodeObj xb x' * (filesObj f s * (spA s p d len g k' true F G' * R))) := by
  by_cases h1 : j < 4
  · exact grow_dir h hc hn hk h1 hb
  · by_cases h2 : j < 36
    · exact grow_near h hc hn hk (by omega) h2 hb
    · by_cases h3 : (j - 36) % 32 = 0
      · exact grow_wide h hc hn hk (by omega) hj h3 hb
      · exact grow_inner h hc hn hk (by omega) hj h3 hb

end

end Go.Proofs.YtggbnelbnbaoiaaGreat

/- Walks of the files' functions, part 12: Stat; no condition. -/
namespace Go.Proofs.YtggbnelbnbaoiaaGreat
open Go.RowKit Go.MapKept

section
variable {f s p len g : Nat} {k : List Nat} {d : DiskM} {op : Bool} {F G : Nat → Sec} {R : Assn} {w : World}

set_option maxRecDepth 100000 in
set_option maxHeartbeats 4000000 in
theorem istat_any (h : Bears w (filesObj f s * (spA s p d len g k op F G * R))) (n : Nat) (hn : n < 256) (hk : (dec (inodeB len G n)).kind ≠ 0) :
    Calls Tryz.prog 45 #[.pointer (some ⟨f, 0, none⟩), .int .i64 n] w fun e w' => e = .returned (.tuple #[.agg #[.int .i64 (dec (inodeB len G n)).kind, .int .i64 (dec (inodeB len G n)).links, .int .i64 (dec (inodeB len G n)).size], .int .i64 0]) ∧ Bears w' (filesObj f s * (spA s p d len g k op F G * R)) := by
  have hA := h.alloc (.cells #[.int .i64 0, .int .i64 0, .int .i64 0] 40)
  have hg := get_any (hA.cast (by ac_rfl) : Bears _ (filesObj f s * (spA s p d len g k op F G * (Assn.obj w.heap.size (.cells #[.int .i64 0, .int .i64 0, .int .i64 0] 40 (0, 0)) * R)))) n hn hk
  generalize dec (inodeB len G n) = x at hg hk ⊢
  have Hg := Lib.hid hg
  clear hg
  go_enter Tryz.func45, Tryz.ntmps45
  go_wp2_with fail
  refine Hg.out.mono ?_
  rintro e w1 ⟨rfl, h1⟩
  generalize w.heap.size = rb at h1 ⊢
  have h2 := h1.pull3.alloc (.cells #[.int .i64 x.kind, .int .i64 x.links, .int .i64 x.size, .int .i64 x.d0, .int .i64 x.d1, .int .i64 x.d2, .int .i64 x.d3, .int .i64 x.near, .int .i64 x.wide] 94)
  have c0 := cell_of_obj h2.obj 0
  have c1 := cell_of_obj h2.obj 1
  have c2 := cell_of_obj h2.obj 2
  simp only [List.getElem?_toArray, List.getElem?_cons_zero, List.getElem?_cons_succ] at c0 c1 c2
  have h3 := h2.pull2
  unfold nodeV
  go_wp2_with (refine wpList_store_obj h3 rfl rfl rfl rfl rfl (by kernel_rfl) (by intro v hv; simp at hv; rcases hv with rfl | rfl | rfl <;> rfl) ?_; intro w5 h5)
  have hr := rangeAt_of_obj h5.obj
  refine bodyPost_ret (results_cell_tmp rfl _ rfl (run_loadVar_mid w5 rb 0 40 _ _ hr Tryz.underlying40 rfl (by kernel_rfl))) rfl ?_
  exact ⟨by rfl, h5.right.right⟩

theorem build_stat (w : World) : (Instr.build 40 #[]).run Tryz.prog w = .ok (.agg #[.int .i64 0, .int .i64 0, .int .i64 0]) w := by kernel_rfl
/-- No such file. -/
def NoIno (len : Nat) (G : Nat → Sec) (n : Int) : Prop := (n < 0 ∨ 256 ≤ n) ∨ ∃ m : Nat, n = m ∧ m < 256 ∧ (dec (inodeB len G m)).kind = 0
theorem get_no (h : Bears w (filesObj f s * (spA s p d len g k op F G * R))) (n : Int) (hn : NoIno len G n) :
    Calls Tryz.prog 54 #[.pointer (some ⟨f, 0, none⟩), .int .i64 n] w fun e w' => e = .returned (.tuple #[nodeV zeroNode, .int .i64 50]) ∧ Bears w' (filesObj f s * (spA s p d len g k op F G * R)) := by
  rcases hn with hn | ⟨m, rfl, hm, hk⟩
  · exact get_out h n hn
  · exact get_none h m hm hk

set_option maxRecDepth 100000 in
set_option maxHeartbeats 4000000 in
theorem istat_no (h : Bears w (filesObj f s * (spA s p d len g k op F G * R))) (n : Int) (hn : NoIno len G n) :
    Calls Tryz.prog 45 #[.pointer (some ⟨f, 0, none⟩), .int .i64 n] w fun e w' => e = .returned (.tuple #[.agg #[.int .i64 0, .int .i64 0, .int .i64 0], .int .i64 50]) ∧ Bears w' (filesObj f s * (spA s p d len g k op F G * R)) := by
  have hA := h.alloc (.cells #[.int .i64 0, .int .i64 0, .int .i64 0] 40)
  have hA1 : Bears _ (filesObj f s * (spA s p d len g k op F G * (Assn.obj w.heap.size (.cells #[.int .i64 0, .int .i64 0, .int .i64 0] 40 (0, 0)) * R))) := hA.cast (by ac_rfl)
  have hg := get_no hA1 n hn
  have Hg := Lib.hid hg
  have Hb0 := Lib.hid build_stat
  clear hg hA1 hA hn
  go_enter Tryz.func45, Tryz.ntmps45
  go_wp2_with fail
  refine Hg.out.mono ?_
  rintro e w1 ⟨rfl, h1⟩
  generalize w.heap.size = rb at h1 ⊢
  have h2 := h1.pull3.alloc (.cells #[.int .i64 0, .int .i64 0, .int .i64 0, .int .i64 0, .int .i64 0, .int .i64 0, .int .i64 0, .int .i64 0, .int .i64 0] 94)
  have h3 := h2.pull2
  go_wp2_with (first
    | (refine wpList_op rfl (exec_build0 rfl (Hb0.out _)) ?_)
    | (refine wpList_store_obj h3 rfl rfl rfl rfl rfl (by kernel_rfl) (by intro v hv; simp at hv; rcases hv with rfl | rfl | rfl <;> rfl) ?_; intro w5 h5))
  have hr := rangeAt_of_obj h5.obj
  refine bodyPost_ret (results_cell_tmp rfl _ rfl (run_loadVar_mid w5 rb 0 40 _ _ hr Tryz.underlying40 rfl (by kernel_rfl))) rfl ?_
  exact ⟨by rfl, h5.right.right⟩

end

end Go.Proofs.YtggbnelbnbaoiaaGreat

/- Walks of the files' functions, part 13: NextInode; no condition. -/
namespace Go.Proofs.YtggbnelbnbaoiaaGreat
open Go.RowKit Go.MapKept

section
variable {s p len g : Nat} {k : List Nat} {d : DiskM} {op : Bool} {F G : Nat → Sec} {R : Assn} {w : World}

set_option maxRecDepth 100000 in
set_option maxHeartbeats 1000000 in
theorem nextIno_any (h : Bears w (spA s p d len g k op F G * R)) :
    Calls Tryz.prog 52 #[.pointer (some ⟨s, 0, none⟩)] w fun e w' => ((∃ n, n < 256 ∧ (∀ m, m < n → ifreeB len G m = false) ∧ ifreeB len G n = true ∧ e = .returned (.tuple #[.int .i64 n, .int .i64 0])) ∨ ((∀ m, m < 256 → ifreeB len G m = false) ∧ e = .returned (.tuple #[.int .i64 0, .int .i64 42]))) ∧ Bears w' (spA s p d len g k op F G * R) := by
  go_enter Tryz.func52, Tryz.ntmps52
  go_wp2_with fail
  go_loopw [5] (fun i wr => ∃ j : Nat, j ≤ 256 ∧ i = .int .i64 j ∧ (∀ m, m < j → ifreeB len G m = false) ∧ Bears wr (spA s p d len g k op F G * R)) (fun i _ => 256 - (intOf i).toNat)
  case atStart => exact ⟨0, by omega, rfl, fun m hm => by omega, h⟩
  case round =>
    clear h
    obtain ⟨j, hj, rfl, hm, h1⟩ := hrel
    by_cases hlt : j < 256
    · have hf := ifree_any h1 j hlt
      obtain ⟨b, hb⟩ : ∃ b, ifreeB len G j = b := ⟨_, rfl⟩
      rw [hb] at hf
      have Hb := Lib.hid hb
      have Hm := Lib.hid hm
      clear hb hm
      cases b with
      | true =>
        go_wp2_with fail
        refine hf.mono ?_
        rintro e w2 ⟨rfl, h2⟩
        go_wp2_with fail
        go_ret2
        exact ⟨.inl ⟨j, hlt, Hm.out, Hb.out, rfl⟩, h2⟩
      | false =>
        go_wp2_with fail
        refine hf.mono ?_
        rintro e w2 ⟨rfl, h2⟩
        go_wp2_with fail
        go_roundw
        case rel =>
          refine ⟨j + 1, hlt, by go_num, fun m h => ?_, h2⟩
          rcases Nat.lt_succ_iff_lt_or_eq.1 h with h | rfl
          · exact Hm.out m h
          · exact Hb.out
        case measure => simp [intOf]; omega
    · obtain rfl : j = 256 := by omega
      go_wp2_with fail
      go_ret2
      exact ⟨.inr ⟨hm, rfl⟩, h1⟩

end

end Go.Proofs.YtggbnelbnbaoiaaGreat

/- Walks of the files' functions, part 14: Make; no condition. -/
namespace Go.Proofs.YtggbnelbnbaoiaaGreat
open Go.RowKit Go.MapKept

section
variable {f s p len g : Nat} {k : List Nat} {d : DiskM} {F G : Nat → Sec} {R : Assn} {w : World}

def newX (kd : Nat) : NodeM := ⟨kd, 1, 0, 0, 0, 0, 0, 0, 0⟩

set_option maxRecDepth 100000 in
set_option maxHeartbeats 1000000 in
theorem make_any (h : Bears w (filesObj f s * (spA s p d len g k true F G * R))) (kd : Nat) (hkd : kd = 1 ∨ kd = 2) :
    Calls Tryz.prog 9 #[.pointer (some ⟨f, 0, none⟩), .int .i64 kd] w fun e w' => (∃ n, n < 256 ∧ (∀ m, m < n → ifreeB len G m = false) ∧ ifreeB len G n = true ∧ e = .returned (.tuple #[.int .i64 n, .int .i64 0]) ∧ Bears w' (filesObj f s * (spA s p d len g (iSec len n :: k) true F (siN len G n (encB (newX kd))).2 * R))) ∨
      ((∀ m, m < 256 → ifreeB len G m = false) ∧ e = .returned (.tuple #[.int .i64 0, .int .i64 42]) ∧ Bears w' (filesObj f s * (spA s p d len g k true F G * R))) := by
  have hcl := closed_any h
  have Hcl := Lib.hid hcl
  have hput := fun w' n (h : Bears w' (filesObj f s * (spA s p d len g k true F G * R))) (hn : n < 256) => put_any h n hn (newX kd) (by rcases hkd with rfl | rfl <;> constructor <;> decide)
  generalize encB (newX kd) = bb at hput ⊢
  have hput : ∀ w' n, Bears w' (filesObj f s * (spA s p d len g k true F G * R)) → n < 256 → Calls Tryz.prog 53 #[.pointer (some ⟨f, 0, none⟩), .int .i64 (n : Nat), .agg #[.int .i64 kd, .int .i64 1, .int .i64 0, .int .i64 0, .int .i64 0, .int .i64 0, .int .i64 0, .int .i64 0, .int .i64 0]] w' fun e w' => e = .returned (.int .i64 0) ∧ Bears w' (filesObj f s * (spA s p d len g (iSec len n :: k) true F (siN len G n bb).2 * R)) := hput
  have Hput := Lib.hid hput
  clear hcl h hput
  rcases hkd with rfl | rfl
  all_goals
    go_enter Tryz.func9, Tryz.ntmps9
    go_wp2_with fail
    refine Hcl.out.mono ?_
    rintro e w1 ⟨rfl, h1⟩
    have fc := files_cell h1
    have hnx := nextIno_any h1.pull2
    have Hnx := Lib.hid hnx
    clear hnx
    go_wp2_with fail
    refine Hnx.out.mono ?_
    rintro e w2 ⟨⟨n, hn, hlow, hfr, rfl⟩ | ⟨hall, rfl⟩, h2⟩
    · have H1 := Lib.hid hlow
      have H2 := Lib.hid hfr
      clear hlow hfr
      go_wp2_with fail
      refine (Hput.out _ n h2.pull2 hn).mono ?_
      rintro e w3 ⟨rfl, h3⟩
      go_wp2_with fail
      go_ret2
      exact .inl ⟨n, hn, H1.out, H2.out, rfl, h3⟩
    · have H1 := Lib.hid hall
      clear hall
      go_wp2_with fail
      go_ret2
      exact .inr ⟨H1.out, rfl, h2.pull2⟩

theorem make_closed (h : Bears w (filesObj f s * (spA s p d len g k false F G * R))) (kd : Int) :
    Calls Tryz.prog 9 #[.pointer (some ⟨f, 0, none⟩), .int .i64 kd] w fun e w' => e = .returned (.tuple #[.int .i64 0, .int .i64 30]) ∧ Bears w' (filesObj f s * (spA s p d len g k false F G * R)) := by
  have hcl := closed_any h
  have Hcl := Lib.hid hcl
  clear hcl h
  go_enter Tryz.func9, Tryz.ntmps9
  go_wp2_with fail
  refine Hcl.out.mono ?_
  rintro e w1 ⟨rfl, h1⟩
  go_wp2_with fail
  go_ret2
  exact ⟨rfl, h1⟩
theorem make_arg (h : Bears w (filesObj f s * (spA s p d len g k true F G * R))) (kd : Int) (h1 : kd ≠ 1) (h2 : kd ≠ 2) :
    Calls Tryz.prog 9 #[.pointer (some ⟨f, 0, none⟩), .int .i64 kd] w fun e w' => e = .returned (.tuple #[.int .i64 0, .int .i64 1]) ∧ Bears w' (filesObj f s * (spA s p d len g k true F G * R)) := by
  have hcl := closed_any h
  have Hcl := Lib.hid hcl
  have b1 : (kd != 1) = true := by simpa using h1
  have b2 : (kd != 2) = true := by simpa using h2
  clear hcl h
  go_enter Tryz.func9, Tryz.ntmps9
  go_wp2_with fail
  refine Hcl.out.mono ?_
  rintro e w1 ⟨rfl, h1⟩
  go_wp2_with fail
  go_ret2
  exact ⟨rfl, h1⟩

end

end Go.Proofs.YtggbnelbnbaoiaaGreat

/- Files, plain: what a space of files holds, in the words of bytes; no program in sight. -/
namespace Go.Proofs.YtggbnelbnbaoiaaGreat
open Go.RowKit Go.MapKept

/-- A file: its kind (0: there is none), its links, its bytes. -/
structure FileM where
  kind : Nat
  links : Nat
  data : List UInt8
def noFile : FileM := ⟨0, 0, []⟩
def byF (Fs : Nat → FileM) : Nat → Nat → UInt8 := fun m j => (Fs m).data.getD j 0
def nodF (len : Nat) (G : Nat → Sec) : Nat → NodeM := fun m => dec (inodeB len G m)

structure FsOn (len : Nat) (G : Nat → Sec) (Fs : Nat → FileM) (Ls : Nat → LayM) : Prop where
  core : Core len G (nodF len G) (byF Fs) Ls []
  kind : ∀ m, m < 256 → (nodF len G m).kind = (Fs m).kind
  links : ∀ m, m < 256 → (nodF len G m).links = (Fs m).links
  size : ∀ m, m < 256 → (nodF len G m).size = (Fs m).data.length
  max : ∀ m, m < 256 → (Fs m).data.length ≤ 16384
  blk : ∀ m, m < 256 → (Ls m).blk.length = nBlk (Fs m).data.length
  none : ∀ m, m < 256 → (Fs m).kind = 0 → Fs m = noFile
  lnk : ∀ m, m < 256 → (Fs m).kind ≠ 0 → 1 ≤ (Fs m).links

/-- Bytes, written over others. -/
def wrB (o : Nat → UInt8) (a : Nat) (b : List UInt8) (i : Nat) : Nat → UInt8 := fun j => if a ≤ j ∧ j < a + i then b.getD (j - a) 0 else o j
def wrD (l : List UInt8) (a : Nat) (b : List UInt8) : List UInt8 := (List.range (max l.length (a + b.length))).map (wrB (fun j => l.getD j 0) a b b.length)
theorem wrB_zero (o : Nat → UInt8) (a : Nat) (b : List UInt8) : wrB o a b 0 = o := by
  funext j
  unfold wrB
  rw [if_neg (by omega)]
theorem wrD_length (l : List UInt8) (a : Nat) (b : List UInt8) : (wrD l a b).length = max l.length (a + b.length) := by simp [wrD]
theorem wrD_getD (l : List UInt8) (a : Nat) (b : List UInt8) (j : Nat) : (wrD l a b).getD j 0 = wrB (fun j => l.getD j 0) a b b.length j := by
  unfold wrD
  by_cases h : j < max l.length (a + b.length)
  · rw [List.getD_eq_getElem?_getD, List.getElem?_map, List.getElem?_range h]; rfl
  · rw [List.getD_eq_getElem?_getD, List.getElem?_eq_none (by simp; omega)]
    unfold wrB
    rw [if_neg (by omega)]
    show _ = l.getD j 0
    rw [List.getD_eq_getElem?_getD, List.getElem?_eq_none (by omega)]
theorem wrB_step {o : Nat → UInt8} {a : Nat} {b : List UInt8} {i m k : Nat} (hk : (a + i) / 64 = k) (hm : (a + i) % 64 + m ≤ 64) : ∀ j, j / 64 ≠ k → wrB o a b (i + m) j = wrB o a b i j := by
  intro j hj
  unfold wrB
  by_cases h : a ≤ j ∧ j < a + i
  · rw [if_pos h, if_pos (by omega)]
  · rw [if_neg h]
    by_cases h2 : a ≤ j ∧ j < a + (i + m)
    · exfalso; omega
    · rw [if_neg h2]
/-- The block behind the step: the old one, the bytes put there. -/
theorem wrB_chunk {o : Nat → UInt8} {a : Nat} {b : List UInt8} {i m k : Nat} (hk : (a + i) / 64 = k) (hm : (a + i) % 64 + m ≤ 64) (hb : i + m ≤ b.length) :
    chunkB (wrB o a b (i + m)) k = putAt (chunkB (wrB o a b i) k) ((a + i) % 64) ((b.drop i).take m) := by
  have hl : (chunkB (wrB o a b i) k).length = 64 := chunkB_length _ _
  have hl2 : ((b.drop i).take m).length = m := by simp; omega
  refine chunk_ext (chunkB_length _ _) (by rw [putAt_length (by rw [hl, hl2]; exact hm)]; exact hl) fun j hj => ?_
  rw [chunkB_getD _ _ hj]
  unfold putAt
  rw [List.getD_eq_getElem?_getD, List.append_assoc, List.getElem?_append]
  have ht : ((chunkB (wrB o a b i) k).take ((a + i) % 64)).length = (a + i) % 64 := by rw [List.length_take, hl]; omega
  rw [ht, hl2]
  by_cases h1 : j < (a + i) % 64
  · rw [if_pos h1, List.getElem?_take, if_pos h1, ← List.getD_eq_getElem?_getD, chunkB_getD _ _ hj]
    unfold wrB
    by_cases h : a ≤ 64 * k + j ∧ 64 * k + j < a + i
    · rw [if_pos h, if_pos (by omega)]
    · rw [if_neg h, if_neg (by omega)]
  · rw [if_neg h1, List.getElem?_append, hl2]
    by_cases h2 : j - (a + i) % 64 < m
    · rw [if_pos h2, List.getElem?_take, if_pos h2, List.getElem?_drop, ← List.getD_eq_getElem?_getD]
      unfold wrB
      rw [if_pos (by omega)]
      congr 1
      omega
    · rw [if_neg h2, List.getElem?_drop, ← List.getD_eq_getElem?_getD, show (a + i) % 64 + m + (j - (a + i) % 64 - m) = j by omega, chunkB_getD _ _ hj]
      unfold wrB
      rw [if_neg (by omega), if_neg (by omega)]
/-- A file that was cut, and the noughts behind it. -/
theorem getD_take0 (l : List UInt8) (n j : Nat) : (l.take n).getD j 0 = if j < n then l.getD j 0 else 0 := by
  rw [List.getD_eq_getElem?_getD, List.getElem?_take]
  split
  · rw [← List.getD_eq_getElem?_getD]
  · rfl
theorem getD_over {l : List UInt8} {j : Nat} (h : l.length ≤ j) : l.getD j 0 = 0 := by
  rw [List.getD_eq_getElem?_getD, List.getElem?_eq_none h]; rfl
theorem cutB_take (l : List UInt8) (n : Nat) : cutB (fun j => l.getD j 0) n = fun j => (l.take n).getD j 0 := by
  funext j
  rw [getD_take0]
  rfl

/-- An inode is written. -/
theorem iSec_low {len m : Nat} (hm : m < 256) : 621 + mapsN len ≤ iSec len m ∧ iSec len m < firstB len := by
  unfold iSec firstB
  omega
theorem Core.put {len : Nat} {G : Nat → Sec} {X : Nat → NodeM} {B : Nat → Nat → UInt8} {Ls : Nat → LayM} {E : List Nat} (h : Core len G X B Ls E) {n : Nat} (hn : n < 256) {b : Sec} (hb : b.length = 64) : Core len (updS G (iSec len n) b) X B Ls E := by
  obtain ⟨i1, i2⟩ := iSec_low (len := len) hn
  have hG : ∀ m, m < 256 → ∀ i ∈ (Ls m).own, updS G (iSec len n) b i = G i := fun m hm i hi => by
    have := (h.rng m hm i hi).1
    unfold updS; rw [if_neg (by omega)]
  have hbit : ∀ i, i < 512 * mapsN len → bitN (updS G (iSec len n) b) i = bitN G i := fun i hi => bitN_other (by omega)
  refine ⟨upd64 h.g64 _ hb, fun m hm => (h.lay m hm).congr (hG m hm), fun m hm => (h.data m hm).congr (hG m hm), h.rng, h.nodup, h.disj, h.eR, h.eN, h.eD, fun i h1 h2 => ?_, fun i h1 h2 => ?_⟩
  · rw [hbit i (by unfold mapsN; omega)]; exact h.bits i h1 h2
  · rw [hbit i h1]; exact h.out i h1 h2
theorem blk_put {len n : Nat} {G : Nat → Sec} {b : Sec} (hn : n < 256) : blkN len (updS G (iSec len n) b) = blkN len G := by
  obtain ⟨i1, i2⟩ := iSec_low (len := len) hn
  unfold blkN
  have : usedTo (updS G (iSec len n) b) (mapsN len) = usedTo G (mapsN len) := by
    rw [usedTo_cnt, usedTo_cnt]
    refine cntB_congr _ (fun i hi => bitN_other (by omega))
  rw [this]
/-- Nodes and bytes of files beyond the last one do not matter. -/
theorem Core.congr {len : Nat} {G : Nat → Sec} {X X' : Nat → NodeM} {B B' : Nat → Nat → UInt8} {Ls : Nat → LayM} {E : List Nat} (h : Core len G X B Ls E) (hX : ∀ m, m < 256 → X' m = X m) (hB : ∀ m, m < 256 → B' m = B m) : Core len G X' B' Ls E :=
  ⟨h.g64, fun m hm => by rw [hX m hm]; exact h.lay m hm, fun m hm => by rw [hB m hm]; exact h.data m hm, h.rng, h.nodup, h.disj, h.eR, h.eN, h.eD, h.bits, h.out⟩

/-- A node with the same blocks. -/
structure NodeM.Same (x x' : NodeM) : Prop where
  dir : ∀ k, x'.dir k = x.dir k
  near : x'.near = x.near
  wide : x'.wide = x.wide
theorem NodeM.same_attr (x : NodeM) (a b c : Nat) : NodeM.Same x { x with kind := a, links := b, size := c } := ⟨fun k => by match k with | 0 | 1 | 2 | _ + 3 => rfl, rfl, rfl⟩
theorem LayOn.node {G : Nat → Sec} {x x' : NodeM} {L : LayM} (h : LayOn G x L) (e : NodeM.Same x x') : LayOn G x' L :=
  ⟨h.max, fun k h1 h2 => by rw [e.dir]; exact h.dir k h1 h2, fun h1 => by rw [e.near]; exact h.near h1, h.nearN, fun h1 => by rw [e.near]; exact h.near0 h1, fun h1 => by rw [e.wide]; exact h.wide h1, fun h1 => by rw [e.wide]; exact h.wide0 h1, h.inn, h.wideN, h.innN⟩
theorem Core.renode {len n : Nat} {G : Nat → Sec} {X : Nat → NodeM} {B : Nat → Nat → UInt8} {Ls : Nat → LayM} {E : List Nat} {x x' : NodeM} (h : Core len G (updF X n x) B Ls E) (e : NodeM.Same x x') : Core len G (updF X n x') B Ls E :=
  ⟨h.g64, fun m hm => by
    have := h.lay m hm
    by_cases hmn : m = n
    · subst hmn; rw [updF_self] at this ⊢; exact this.node e
    · rw [updF_ne hmn] at this ⊢; exact this, h.data, h.rng, h.nodup, h.disj, h.eR, h.eN, h.eD, h.bits, h.out⟩

/-- What is laid down at the end of each call: the node x of the file n, its bytes, its layout. -/
theorem FsOn.put {len : Nat} {G G' : Nat → Sec} {Fs : Nat → FileM} {Ls Ls' : Nat → LayM} (h : FsOn len G Fs Ls) {n : Nat} (hn : n < 256) {x : NodeM} (hx : x.Fits) {f : FileM} (hc : Core len G' (updF (nodF len G) n x) (updF (byF Fs) n (fun j => f.data.getD j 0)) Ls' [])
    (hi : ∀ m, m < 256 → inodeB len G' m = inodeB len G m) (hk : x.kind = f.kind) (hl : x.links = f.links) (hs : x.size = f.data.length) (hmx : f.data.length ≤ 16384) (hLn : (Ls' n).blk.length = nBlk f.data.length) (hL : ∀ m, m < 256 → m ≠ n → Ls' m = Ls m) (h0 : f.kind = 0 → f = noFile) (h1 : f.kind ≠ 0 → 1 ≤ f.links) :
    FsOn len (siN len G' n (encB x)).2 (updF Fs n f) Ls' := by
  have h64 := hc.g64
  rw [siN_ok (encB_length x)]
  have hat : iAt n = 0 ∨ iAt n = 32 := by unfold iAt; omega
  have hb : (putAt (G' (iSec len n)) (iAt n) (encB x)).length = 64 := putAt64 (h64 _) (by rw [encB_length]; omega)
  have hnod : ∀ m, m < 256 → nodF len (updS G' (iSec len n) (putAt (G' (iSec len n)) (iAt n) (encB x))) m = updF (nodF len G) n x m := fun m hm => by
    unfold nodF
    rw [inodeB_set h64 (encB_length x)]
    by_cases e : m = n
    · rw [if_pos e, e, updF_self, dec_enc hx]
    · rw [if_neg e, updF_ne e, hi m hm]
  have hby : ∀ m, byF (updF Fs n f) m = updF (byF Fs) n (fun j => f.data.getD j 0) m := fun m => by
    unfold byF
    by_cases e : m = n
    · rw [e, updF_self, updF_self]
    · rw [updF_ne e, updF_ne e]
  refine ⟨(hc.put hn hb).congr hnod (fun m _ => hby m), fun m hm => ?_, fun m hm => ?_, fun m hm => ?_, fun m hm => ?_, fun m hm => ?_, fun m hm => ?_, fun m hm => ?_⟩
  all_goals try rw [hnod m hm]
  all_goals by_cases e : m = n
  · subst e; rw [updF_self, updF_self]; exact hk
  · rw [updF_ne e, updF_ne e]; exact h.kind m hm
  · subst e; rw [updF_self, updF_self]; exact hl
  · rw [updF_ne e, updF_ne e]; exact h.links m hm
  · subst e; rw [updF_self, updF_self]; exact hs
  · rw [updF_ne e, updF_ne e]; exact h.size m hm
  · subst e; rw [updF_self]; exact hmx
  · rw [updF_ne e]; exact h.max m hm
  · subst e; rw [updF_self]; exact hLn
  · rw [updF_ne e, hL m hm e]; exact h.blk m hm
  · subst e; rw [updF_self]; exact h0
  · rw [updF_ne e]; exact h.none m hm
  · subst e; rw [updF_self]; exact h1
  · rw [updF_ne e]; exact h.lnk m hm

end Go.Proofs.YtggbnelbnbaoiaaGreat

/- Walks of the files' functions, part 15: shrink; no condition. -/
namespace Go.Proofs.YtggbnelbnbaoiaaGreat
open Go.RowKit Go.MapKept

def natsV (L : List Nat) : List Value := L.map fun q : Nat => .int .i64 (q : Int)
theorem natsV_at {L : List Nat} {m : Nat} (h : m < L.length) : (natsV L)[m]? = some (.int .i64 (L.getD m 0 : Nat)) := by
  unfold natsV
  rw [List.getElem?_map, List.getD_eq_getElem?_getD, List.getElem?_eq_getElem h]
  rfl
theorem natsV_length (L : List Nat) : (natsV L).length = L.length := by simp [natsV]
theorem Bears.objNats {w : World} {g : Nat} {xs : List Value} {R : Assn} (h : Bears w (Assn.obj g (.cells xs.toArray 3 (0, 0)) * R)) {n : Nat} (hn : n = xs.length) (hm : n ≤ maxLen) : Bears w (rowA 3 1 (.slice (some ⟨g, 0, none⟩) n n) n xs * R) := by
  subst hn
  obtain ⟨F, K, H, ⟨h1, rfl⟩, hR, hd, rfl⟩ := h
  exact ⟨_, _, H, ⟨⟨by simp, .inr ⟨g, xs.length, _, rfl, Nat.zero_le _, h1, Nat.le_refl _, hm, by simp, by rw [List.take_of_length_le (by simp)]⟩⟩, by funext b; simp [Value.ownBlock, eq_comm]⟩, hR, hd, rfl⟩

theorem blk_free' {G : Nat → Sec} {len n : Nat} (h64 : ∀ i, (G i).length = 64) (h2 : n < len) (hb : bitN G n = true) : blkN len (freeG G n) = blkN len G + 1 := by
  have hl : n < 512 * mapsN len := by unfold mapsN; omega
  have h := cntB_put (f := bitN G) (g := bitN (freeG G n)) (m := n) (512 * mapsN len) hl (fun i hi hne => by rw [bitN_free h64, if_neg hne])
  rw [hb, bitN_free h64, if_pos rfl, ← usedTo_cnt, ← usedTo_cnt] at h
  unfold blkN
  simp at h
  omega
theorem inodeB_free {len n m : Nat} {G : Nat → Sec} (hnl : n < len) : inodeB len (freeG G n) m = inodeB len G m := by
  have h0 : n / 512 < mapsN len := by unfold mapsN; omega
  unfold freeG
  exact inodeB_other (by unfold iSec; omega)

/-- What shrink leaves. -/
structure Shrunk (len : Nat) (G G' : Nat → Sec) (X : Nat → NodeM) (B : Nat → Nat → UInt8) (Ls : Nat → LayM) (n j : Nat) (D : List Nat) : Prop where
  core : Core len G' (updF X n (shrinkX (X n) j)) (updF B n (cutB (B n) (64 * j))) (updF Ls n (shrinkL (Ls n) j)) D
  blk : blkN len G' = blkN len G + ((goneL (Ls n) j).length - D.length : Int)
  ino : ∀ m, inodeB len G' m = inodeB len G m

section
variable {f s p len g xb n j : Nat} {k : List Nat} {d : DiskM} {F G : Nat → Sec} {X : Nat → NodeM} {B : Nat → Nat → UInt8} {Ls : Nat → LayM} {R : Assn} {w : World}

theorem Shrunk.free {G' : Nat → Sec} {q : Nat} {D : List Nat} (h : Shrunk len G G' X B Ls n j (q :: D)) : Shrunk len G (freeG G' q) X B Ls n j D := by
  have hok := h.core.exOk q (by simp)
  refine ⟨by have := h.core.free (q := q) (by simp); simpa using this, ?_, fun m => by rw [inodeB_free hok.hi, h.ino]⟩
  rw [blk_free' h.core.g64 hok.hi hok.bit, h.blk, List.length_cons]
  omega
theorem drop_getD {L : List Nat} {m : Nat} (h : m < L.length) : L.drop m = L.getD m 0 :: L.drop (m + 1) := by
  rw [List.drop_eq_getElem_cons h, List.getD_eq_getElem?_getD, List.getElem?_eq_getElem h, Option.getD_some]
theorem goneL_len (L : LayM) (j : Nat) : (goneL L j).length + costN j = costN (j + 1) := by
  unfold goneL costN nIn
  by_cases h4 : j = 4
  · subst h4; simp
  · by_cases h36 : j = 36
    · subst h36; simp
    · rw [if_neg h4]
      by_cases h5 : 36 ≤ j
      · by_cases h6 : (j - 36) % 32 = 0
        · rw [if_pos ⟨h5, h6⟩, if_neg h36, if_pos (by omega), if_pos (by omega), if_pos (by omega), if_pos (by omega)]
          simp; omega
        · rw [if_neg (fun h => h6 h.2), if_pos (by omega), if_pos (by omega), if_pos (by omega), if_pos (by omega)]
          simp; omega
      · rw [if_neg (fun h => h5 h.1), if_neg (c := 36 < j) (by omega), if_neg (c := 36 < j + 1) (by omega)]
        by_cases h6 : 4 < j
        · rw [if_pos h6, if_pos (by omega)]; simp; omega
        · rw [if_neg h6, if_neg (by omega)]; simp; omega

/-- One round of the loop. -/
theorem shrink_round {G' : Nat → Sec} {k' : List Nat} {w : World} {m : Nat} (hm : m < (goneL (Ls n) j).length) (h : Shrunk len G G' X B Ls n j ((goneL (Ls n) j).drop m)) (h3 : Bears w (filesObj f s * (spA s p d len g k' true F G' * R))) :
    Calls Tryz.prog 75 #[.pointer (some ⟨s, 0, none⟩), .int .i64 ((goneL (Ls n) j).getD m 0 : Nat)] w fun e w' => e = .returned (.int .i64 0) ∧ ∃ (G2 : Nat → Sec) (k2 : List Nat), Shrunk len G G2 X B Ls n j ((goneL (Ls n) j).drop (m + 1)) ∧
      Bears w' (filesObj f s * (spA s p d len g k2 true F G2 * R)) := by
  rw [drop_getD hm] at h
  generalize (goneL (Ls n) j).getD m 0 = q at h ⊢
  have hok := h.core.exOk q (by simp)
  refine (sfree_any h3.pull2 q rfl hok.chk hok.hi rfl).mono ?_
  rintro e w4 ⟨rfl, h4⟩
  exact ⟨rfl, _, _, h.free, h4.pull2⟩

end

end Go.Proofs.YtggbnelbnbaoiaaGreat

/- Walks of the files' functions, part 15: shrink, one block; no condition. -/
namespace Go.Proofs.YtggbnelbnbaoiaaGreat
open Go.RowKit Go.MapKept

section
variable {f s p len g xb n j : Nat} {k : List Nat} {d : DiskM} {F G : Nat → Sec} {X : Nat → NodeM} {B : Nat → Nat → UInt8} {Ls : Nat → LayM} {R : Assn} {w : World}

set_option maxRecDepth 100000 in
set_option maxHeartbeats 4000000 in
theorem shrink_one (h : Bears w (nodeObj xb (X n) * (filesObj f s * (spA s p d len g k true F G * R)))) (hc : Core len G X B Ls []) (hn : n < 256) (hk : (Ls n).blk.length = j + 1) (hj2 : j < 256) (hj : j ≠ 4 ∧ ¬ (36 ≤ j ∧ (j - 36) % 32 = 0)) :
    Calls Tryz.prog 134 #[.pointer (some ⟨f, 0, none⟩), .pointer (some ⟨xb, 0, none⟩), .int .i64 j] w fun e w' => e = .returned (.int .i64 0) ∧ ∃ (G' : Nat → Sec) (k' : List Nat),
      Shrunk len G G' X B Ls n j [] ∧ Bears w' (nodeObj xb (shrinkX (X n) j) * (filesObj f s * (spA s p d len g k' true F G' * R))) := by
  have hown : ∀ i ∈ (Ls n).own, OwnOk len G i := hc.ownOk hn
  have hbl := block_any (h.cast (by ac_rfl) : Bears _ (filesObj f s * (spA s p d len g k true F G * (nodeObj xb (X n) * R)))) (hc.lay n hn) hown (j := j) (by omega) rfl
  have c0 := cell_of_obj h.obj 0
  have c1 := cell_of_obj h.obj 1
  have c2 := cell_of_obj h.obj 2
  have c3 := cell_of_obj h.obj 3
  have c4 := cell_of_obj h.obj 4
  have c5 := cell_of_obj h.obj 5
  have c6 := cell_of_obj h.obj 6
  have c7 := cell_of_obj h.obj 7
  have c8 := cell_of_obj h.obj 8
  simp only [List.getElem?_toArray, List.getElem?_cons_zero, List.getElem?_cons_succ] at c0 c1 c2 c3 c4 c5 c6 c7 c8
  have hsh : Shrunk len G G X B Ls n j (goneL (Ls n) j) := ⟨hc.shrinks hn hk, by omega, fun _ => rfl⟩
  have hround := fun w' G' k' m Q (hm : m < (goneL (Ls n) j).length) (hs : Shrunk len G G' X B Ls n j ((goneL (Ls n) j).drop m)) (h3 : Bears w' (filesObj f s * (spA s p d len g k' true F G' * Q))) => shrink_round hm hs h3
  have d4 : ((j : Int) == 4) = false := by rw [beq_eq_false_iff_ne]; omega
  have d36 : (decide (36 ≤ (j : Int)) = false) ∨ (decide (36 ≤ (j : Int)) = true ∧ ∃ r : Nat, ((j : Int) - 36) % 32 = (r : Int) ∧ ((j : Int) - 36).tmod 32 = (r : Int) ∧ ((r : Int) == 0) = false) := by
    by_cases e : 36 ≤ j
    · right
      refine ⟨decide_eq_true (by omega), (j - 36) % 32, by omega, by rw [Int.tmod_eq_emod_of_nonneg (by omega)]; omega, ?_⟩
      rw [beq_eq_false_iff_ne]; omega
    · left; exact decide_eq_false (by omega)
  have hgl : goneL (Ls n) j = [(Ls n).blk.getD j 0] := by
    unfold goneL; rw [if_neg (by omega), if_neg (by omega)]; rfl
  have hsx : shrinkX (X n) j = X n := by unfold shrinkX; rw [if_neg (by omega), if_neg (by omega)]
  rw [hsx]
  have hll : (goneL (Ls n) j).length = 1 := by rw [hgl]; rfl
  have hnv : natsV (goneL (Ls n) j) = [.int .i64 ((Ls n).blk.getD j 0 : Nat)] := by rw [hgl]; rfl
  generalize (Ls n).blk.getD j 0 = q at hbl hnv
  clear hgl
  have hgl := hnv
  generalize goneL (Ls n) j = L at hsh hround hll hnv hgl
  have Hbl := Lib.hid hbl
  have Hround := Lib.hid hround
  have Hsh := Lib.hid hsh
  have Hnv := Lib.hid hnv
  have Hll := Lib.hid hll
  clear hsh hbl hround hnv hll hgl hown
  clear hsx
  rcases d36 with d36 | ⟨d36, r36, d37, d38, d39⟩
  all_goals
    go_enter Tryz.func134, Tryz.ntmps134
    go_wp2_with fail
    refine Hbl.out.mono ?_
    rintro e w1 ⟨rfl, h1⟩
    have h2 := (h1.alloc (.cells #[.int .i64 q] 3)).objNats (xs := [.int .i64 q]) (n := 1) rfl (by decide)
    have h2 : Bears (w1.alloc (.cells #[.int .i64 q] 3)) (rowA 3 1 (.slice (some ⟨w1.heap.size, 0, none⟩) 1 1) 1 (natsV L) * (filesObj f s * (spA s p d len g k true F G * (nodeObj xb (X n) * R)))) := by rw [Hnv.out]; exact h2
    go_wp2_with fail
    go_loopw [84] (fun i wr => ∃ m : Nat, m ≤ 1 ∧ i = .int .i64 m ∧ ∃ (G' : Nat → Sec) (k' : List Nat), Shrunk len G G' X B Ls n j (L.drop m) ∧ Bears wr (rowA 3 1 (.slice (some ⟨w1.heap.size, 0, none⟩) 1 1) 1 (natsV L) * (filesObj f s * (spA s p d len g k' true F G' * (nodeObj xb (X n) * R))))) (fun i _ => 1 - (intOf i).toNat)
    case atStart => exact ⟨0, by omega, rfl, G, k, Hsh.out, h2.cast (by ac_rfl)⟩
    case round =>
      obtain ⟨m, hm, rfl, G', k', hC, h3⟩ := hrel
      by_cases hlt : m < 1
      · have hltI : (m : Int) < 1 := by omega
        have e0 := h3.rowCell (i := m) hlt (natsV_at (by rw [Hll.out]; exact hlt))
        have fc := files_cell h3.right
        have hfr := Hround.out _ _ _ m (rowA 3 1 (.slice (some ⟨w1.heap.size, 0, none⟩) 1 1) 1 (natsV L) * (nodeObj xb (X n) * R)) (by rw [Hll.out]; exact hlt) hC (h3.cast (by ac_rfl))
        generalize L.getD m 0 = q at e0 hfr
        have Hfr := Lib.hid hfr
        clear hfr hC
        go_wp2_with fail
        refine Hfr.out.mono ?_
        rintro e w4 ⟨rfl, G2, k2, hC2, h4⟩
        have HC := Lib.hid hC2
        clear hC2
        go_wp2_with fail
        go_roundw
        case rel => exact ⟨m + 1, hlt, by go_num, _, _, HC.out, h4.cast (by ac_rfl)⟩
        case measure => simp [intOf]; omega
      · obtain rfl : m = 1 := by omega
        go_wp2_with fail
        go_ret
        rw [List.drop_of_length_le (by rw [Hll.out]; omega)] at hC
        first
          | exact ⟨rfl, G', k', hC, h3.right.cast (by ac_rfl)⟩
          | exact ⟨rfl, G', hC, k', h3.right.cast (by ac_rfl)⟩

end

end Go.Proofs.YtggbnelbnbaoiaaGreat

/- Walks of the files' functions, part 15: shrink, the near block; no condition. -/
namespace Go.Proofs.YtggbnelbnbaoiaaGreat
open Go.RowKit Go.MapKept

section
variable {f s p len g xb n j : Nat} {k : List Nat} {d : DiskM} {F G : Nat → Sec} {X : Nat → NodeM} {B : Nat → Nat → UInt8} {Ls : Nat → LayM} {R : Assn} {w : World}

set_option maxRecDepth 100000 in
set_option maxHeartbeats 4000000 in
theorem shrink_near (h : Bears w (nodeObj xb (X n) * (filesObj f s * (spA s p d len g k true F G * R)))) (hc : Core len G X B Ls []) (hn : n < 256) (hk : (Ls n).blk.length = j + 1) (hj2 : j < 256) (hj : j = 4) :
    Calls Tryz.prog 134 #[.pointer (some ⟨f, 0, none⟩), .pointer (some ⟨xb, 0, none⟩), .int .i64 j] w fun e w' => e = .returned (.int .i64 0) ∧ ∃ (G' : Nat → Sec) (k' : List Nat),
      Shrunk len G G' X B Ls n j [] ∧ Bears w' (nodeObj xb (shrinkX (X n) j) * (filesObj f s * (spA s p d len g k' true F G' * R))) := by
  have hown : ∀ i ∈ (Ls n).own, OwnOk len G i := hc.ownOk hn
  have hbl := block_any (h.cast (by ac_rfl) : Bears _ (filesObj f s * (spA s p d len g k true F G * (nodeObj xb (X n) * R)))) (hc.lay n hn) hown (j := j) (by omega) rfl
  have c0 := cell_of_obj h.obj 0
  have c1 := cell_of_obj h.obj 1
  have c2 := cell_of_obj h.obj 2
  have c3 := cell_of_obj h.obj 3
  have c4 := cell_of_obj h.obj 4
  have c5 := cell_of_obj h.obj 5
  have c6 := cell_of_obj h.obj 6
  have c7 := cell_of_obj h.obj 7
  have c8 := cell_of_obj h.obj 8
  simp only [List.getElem?_toArray, List.getElem?_cons_zero, List.getElem?_cons_succ] at c0 c1 c2 c3 c4 c5 c6 c7 c8
  have hsh : Shrunk len G G X B Ls n j (goneL (Ls n) j) := ⟨hc.shrinks hn hk, by omega, fun _ => rfl⟩
  have hround := fun w' G' k' m Q (hm : m < (goneL (Ls n) j).length) (hs : Shrunk len G G' X B Ls n j ((goneL (Ls n) j).drop m)) (h3 : Bears w' (filesObj f s * (spA s p d len g k' true F G' * Q))) => shrink_round hm hs h3
  have d4 : ((j : Int) == 4) = true := by rw [beq_iff_eq]; omega
  have hgl : goneL (Ls n) j = [(Ls n).blk.getD j 0, (X n).near] := by
    unfold goneL; rw [if_pos hj, if_neg (by omega), (hc.lay n hn).near (by omega)]; rfl
  have hsx : shrinkX (X n) j = { X n with near := 0 } := by unfold shrinkX; rw [if_pos hj]
  rw [hsx]
  have hll : (goneL (Ls n) j).length = 2 := by rw [hgl]; rfl
  have hnv : natsV (goneL (Ls n) j) = [.int .i64 ((Ls n).blk.getD j 0 : Nat)] ++ [.int .i64 ((X n).near : Nat)] := by rw [hgl]; rfl
  generalize (Ls n).blk.getD j 0 = q at hbl hnv
  clear hgl
  have hgl := hnv
  generalize goneL (Ls n) j = L at hsh hround hll hnv hgl
  have Hbl := Lib.hid hbl
  have Hround := Lib.hid hround
  have Hsh := Lib.hid hsh
  have Hnv := Lib.hid hnv
  have Hll := Lib.hid hll
  clear hsh hbl hround hnv hll hgl hown
  clear hsx hj hk hc
  obtain ⟨i0, hi0, hz0, hz1, hz2⟩ := info_parts i_int
  go_enter Tryz.func134, Tryz.ntmps134
  go_wp2_with fail
  refine Hbl.out.mono ?_
  rintro e w1 ⟨rfl, h1⟩
  have h2 := (h1.alloc (.cells #[.int .i64 q] 3)).objNats (xs := [.int .i64 q]) (n := 1) rfl (by decide)
  have b7 := cell_of_obj h2.pull4.obj 7
  simp only [List.getElem?_toArray, List.getElem?_cons_zero, List.getElem?_cons_succ] at b7
  generalize hx7 : (X n).near = nr at b7 Hnv
  have h3 := (h2.alloc (.cells #[.int .i64 nr] 3)).pull2
  have hsz : ∀ (w : World) o, (w.alloc o).heap.size = w.heap.size + 1 := fun w o => Array.size_push _
  rw [hsz] at h3
  have hnews := World.news_of_block (cs := #[.int .i64 nr]) h3.pull2.obj
  go_wp2_with (at_builtin; refine wpList_append_bears h3 rfl rfl u_ints hi0 hz0 hz1 hz2 (by simp [Value.cells]) (by decide) rfl (m := 1) rfl rfl hnews (by intro u hu; simp at hu; rcases hu with rfl; rfl) (by unfold maxLen; omega) (by omega) ?_; intro a3 c3 w3 h4; obtain ⟨rg, rfl, _⟩ := h4.rowAt (k := 0) (by decide); have h5 := h4.pull5; have b7' := frozen_of_obj h5.obj 7; have g7 := cell_of_obj h5.obj 7)
  go_wp2_with fail
  have h6 : Bears _ (nodeObj xb { X n with near := 0 } * (rowA 3 1 (.slice (some ⟨rg, 0, none⟩) 2 c3) 2 ([.int .i64 q] ++ [.int .i64 nr]) * (_ * (filesObj f s * (spA s p d len g k true F G * R))))) := h5.setCell (i := 7) (.int .i64 0)
  rw [← Hnv.out] at h6
  have h7 := h6.pull3.right
  go_loopw [84] (fun i wr => ∃ m : Nat, m ≤ 2 ∧ i = .int .i64 m ∧ ∃ (G' : Nat → Sec) (k' : List Nat), Shrunk len G G' X B Ls n j (L.drop m) ∧ Bears wr (rowA 3 1 (.slice (some ⟨rg, 0, none⟩) 2 c3) 2 (natsV L) * (filesObj f s * (spA s p d len g k' true F G' * (nodeObj xb { X n with near := 0 } * R))))) (fun i _ => 2 - (intOf i).toNat)
  case atStart => exact ⟨0, by omega, rfl, G, k, Hsh.out, h7.cast (by ac_rfl)⟩
  case round =>
    obtain ⟨m, hm, rfl, G', k', hC, h3⟩ := hrel
    by_cases hlt : m < 2
    · have hltI : (m : Int) < 2 := by omega
      have e0 := h3.rowCell (i := m) hlt (natsV_at (by rw [Hll.out]; exact hlt))
      have fc := files_cell h3.right
      have hfr := Hround.out _ _ _ m (rowA 3 1 (.slice (some ⟨rg, 0, none⟩) 2 c3) 2 (natsV L) * (nodeObj xb { X n with near := 0 } * R)) (by rw [Hll.out]; exact hlt) hC (h3.cast (by ac_rfl))
      generalize L.getD m 0 = q at e0 hfr
      have Hfr := Lib.hid hfr
      clear hfr hC
      go_wp2_with fail
      refine Hfr.out.mono ?_
      rintro e w4 ⟨rfl, G2, k2, hC2, h4⟩
      have HC := Lib.hid hC2
      clear hC2
      go_wp2_with fail
      go_roundw
      case rel => exact ⟨m + 1, hlt, by go_num, _, _, HC.out, h4.cast (by ac_rfl)⟩
      case measure => simp [intOf]; omega
    · obtain rfl : m = 2 := by omega
      go_wp2_with fail
      go_ret
      rw [List.drop_of_length_le (by rw [Hll.out]; omega)] at hC
      first
        | exact ⟨rfl, G', k', hC, h3.right.cast (by ac_rfl)⟩
        | exact ⟨rfl, G', hC, k', h3.right.cast (by ac_rfl)⟩

end

end Go.Proofs.YtggbnelbnbaoiaaGreat

/- Walks of the files' functions, part 15: shrink, the inner blocks; no condition. -/
namespace Go.Proofs.YtggbnelbnbaoiaaGreat
open Go.RowKit Go.MapKept

section
variable {f s p len g xb n j : Nat} {k : List Nat} {d : DiskM} {F G : Nat → Sec} {X : Nat → NodeM} {B : Nat → Nat → UInt8} {Ls : Nat → LayM} {R : Assn} {w : World}

set_option maxRecDepth 100000 in
set_option maxHeartbeats 4000000 in
theorem shrink_inner (h : Bears w (nodeObj xb (X n) * (filesObj f s * (spA s p d len g k true F G * R)))) (hc : Core len G X B Ls []) (hn : n < 256) (hk : (Ls n).blk.length = j + 1) (hj2 : j < 256) (hj : 36 < j ∧ (j - 36) % 32 = 0) :
    Calls Tryz.prog 134 #[.pointer (some ⟨f, 0, none⟩), .pointer (some ⟨xb, 0, none⟩), .int .i64 j] w fun e w' => e = .returned (.int .i64 0) ∧ ∃ (G' : Nat → Sec) (k' : List Nat),
      Shrunk len G G' X B Ls n j [] ∧ Bears w' (nodeObj xb (shrinkX (X n) j) * (filesObj f s * (spA s p d len g k' true F G' * R))) := by
  have hown : ∀ i ∈ (Ls n).own, OwnOk len G i := hc.ownOk hn
  have hbl := block_any (h.cast (by ac_rfl) : Bears _ (filesObj f s * (spA s p d len g k true F G * (nodeObj xb (X n) * R)))) (hc.lay n hn) hown (j := j) (by omega) rfl
  have c0 := cell_of_obj h.obj 0
  have c1 := cell_of_obj h.obj 1
  have c2 := cell_of_obj h.obj 2
  have c3 := cell_of_obj h.obj 3
  have c4 := cell_of_obj h.obj 4
  have c5 := cell_of_obj h.obj 5
  have c6 := cell_of_obj h.obj 6
  have c7 := cell_of_obj h.obj 7
  have c8 := cell_of_obj h.obj 8
  simp only [List.getElem?_toArray, List.getElem?_cons_zero, List.getElem?_cons_succ] at c0 c1 c2 c3 c4 c5 c6 c7 c8
  have hsh : Shrunk len G G X B Ls n j (goneL (Ls n) j) := ⟨hc.shrinks hn hk, by omega, fun _ => rfl⟩
  have hround := fun w' G' k' m Q (hm : m < (goneL (Ls n) j).length) (hs : Shrunk len G G' X B Ls n j ((goneL (Ls n) j).drop m)) (h3 : Bears w' (filesObj f s * (spA s p d len g k' true F G' * Q))) => shrink_round hm hs h3
  have d4 : ((j : Int) == 4) = false := by rw [beq_eq_false_iff_ne]; omega
  have d36 : decide (36 ≤ (j : Int)) = true := decide_eq_true (by omega)
  have d6 : ((j : Int) == 36) = false := by rw [beq_eq_false_iff_ne]; omega
  have q1 : ((j : Int) - 36) % 32 = 0 := by omega
  have q2 : ((j : Int) - 36).tmod 32 = 0 := by rw [Int.tmod_eq_emod_of_nonneg (by omega)]; omega
  obtain ⟨jq, hjq⟩ : ∃ q, (j - 36) / 32 = q := ⟨_, rfl⟩
  have q3 : ((j : Int) - 36) / 32 = (jq : Int) := by omega
  have q4 : ((j : Int) - 36).tdiv 32 = (jq : Int) := by rw [Int.tdiv_eq_ediv_of_nonneg (by omega)]; omega
  have hwide := (hc.lay n hn).wide (by omega)
  have hil : (j - 36) / 32 < (Ls n).inner.length := by rw [(hc.lay n hn).inn, hk]; unfold nIn; omega
  have hokw := hown _ (LayM.mem_wide (L := Ls n) (by omega))
  have htw := (hc.lay n hn).wideN _ hil
  rw [← hwide] at hokw htw
  rw [hjq] at htw hil
  have hnm := fun w' Q (h : Bears w' (filesObj f s * (spA s p d len g k true F G * Q))) => named_any h hokw.chk hokw.lo hokw.hi (j := jq) (by omega) htw
  have hgl : goneL (Ls n) j = [(Ls n).blk.getD j 0, (Ls n).inner.getD jq 0] := by
    unfold goneL; rw [if_neg (by omega), if_pos (by omega), hjq, if_neg (by omega)]; rfl
  have hsx : shrinkX (X n) j = X n := by unfold shrinkX; rw [if_neg (by omega), if_neg (by omega)]
  rw [hsx]
  have hll : (goneL (Ls n) j).length = 2 := by rw [hgl]; rfl
  have hnv : natsV (goneL (Ls n) j) = [.int .i64 ((Ls n).blk.getD j 0 : Nat)] ++ [.int .i64 ((Ls n).inner.getD jq 0 : Nat)] := by rw [hgl]; rfl
  generalize (Ls n).blk.getD j 0 = q at hbl hnv
  generalize (Ls n).inner.getD jq 0 = iq at hnm hnv
  clear hgl
  have hgl := hnv
  generalize goneL (Ls n) j = L at hsh hround hll hnv hgl
  have Hbl := Lib.hid hbl
  have Hround := Lib.hid hround
  have Hsh := Lib.hid hsh
  have Hnv := Lib.hid hnv
  have Hll := Lib.hid hll
  clear hsh hbl hround hnv hll hgl hown
  have Hnm := Lib.hid hnm
  clear hsx hj hk hc hnm hwide hokw htw hil hjq
  obtain ⟨i0, hi0, hz0, hz1, hz2⟩ := info_parts i_int
  go_enter Tryz.func134, Tryz.ntmps134
  go_wp2_with fail
  refine Hbl.out.mono ?_
  rintro e w1 ⟨rfl, h1⟩
  have h2 := (h1.alloc (.cells #[.int .i64 q] 3)).objNats (xs := [.int .i64 q]) (n := 1) rfl (by decide)
  have b8 := cell_of_obj h2.pull4.obj 8
  simp only [List.getElem?_toArray, List.getElem?_cons_zero, List.getElem?_cons_succ] at b8
  go_wp2_with fail
  have h2' : Bears _ (filesObj f s * (spA s p d len g k true F G * (rowA 3 1 (.slice (some ⟨w1.heap.size, 0, none⟩) 1 1) 1 [.int .i64 q] * (nodeObj xb (X n) * R)))) := h2.cast (by ac_rfl)
  refine (Hnm.out _ _ h2').mono ?_
  rintro e w2 ⟨rfl, h2b⟩
  have h3 := (h2b.alloc (.cells #[.int .i64 iq] 3)).pull4
  have hnews := World.news_of_block (cs := #[.int .i64 iq]) h3.pull2.obj
  go_wp2_with (at_builtin; refine wpList_append_bears h3 rfl rfl u_ints hi0 hz0 hz1 hz2 (by simp [Value.cells]) (by decide) rfl (m := 1) rfl rfl hnews (by intro u hu; simp at hu; rcases hu with rfl; rfl) (by unfold maxLen; omega) (by omega) ?_; intro a3 c3 w3 h4; obtain ⟨rg, rfl, _⟩ := h4.rowAt (k := 0) (by decide))
  have h6 := h4.pull2.right
  rw [← Hnv.out] at h6
  go_loopw [84] (fun i wr => ∃ m : Nat, m ≤ 2 ∧ i = .int .i64 m ∧ ∃ (G' : Nat → Sec) (k' : List Nat), Shrunk len G G' X B Ls n j (L.drop m) ∧ Bears wr (rowA 3 1 (.slice (some ⟨rg, 0, none⟩) 2 c3) 2 (natsV L) * (filesObj f s * (spA s p d len g k' true F G' * (nodeObj xb (X n) * R))))) (fun i _ => 2 - (intOf i).toNat)
  case atStart => exact ⟨0, by omega, rfl, G, k, Hsh.out, h6.cast (by ac_rfl)⟩
  case round =>
    obtain ⟨m, hm, rfl, G', k', hC, h3⟩ := hrel
    by_cases hlt : m < 2
    · have hltI : (m : Int) < 2 := by omega
      have e0 := h3.rowCell (i := m) hlt (natsV_at (by rw [Hll.out]; exact hlt))
      have fc := files_cell h3.right
      have hfr := Hround.out _ _ _ m (rowA 3 1 (.slice (some ⟨rg, 0, none⟩) 2 c3) 2 (natsV L) * (nodeObj xb (X n) * R)) (by rw [Hll.out]; exact hlt) hC (h3.cast (by ac_rfl))
      generalize L.getD m 0 = q at e0 hfr
      have Hfr := Lib.hid hfr
      clear hfr hC
      go_wp2_with fail
      refine Hfr.out.mono ?_
      rintro e w4 ⟨rfl, G2, k2, hC2, h4⟩
      have HC := Lib.hid hC2
      clear hC2
      go_wp2_with fail
      go_roundw
      case rel => exact ⟨m + 1, hlt, by go_num, _, _, HC.out, h4.cast (by ac_rfl)⟩
      case measure => simp [intOf]; omega
    · obtain rfl : m = 2 := by omega
      go_wp2_with fail
      go_ret
      rw [List.drop_of_length_le (by rw [Hll.out]; omega)] at hC
      first
        | exact ⟨rfl, G', k', hC, h3.right.cast (by ac_rfl)⟩
        | exact ⟨rfl, G', hC, k', h3.right.cast (by ac_rfl)⟩

end

end Go.Proofs.YtggbnelbnbaoiaaGreat

/- Walks of the files' functions, part 15: shrink, the wide block; no condition. -/
namespace Go.Proofs.YtggbnelbnbaoiaaGreat
open Go.RowKit Go.MapKept

section
variable {f s p len g xb n j : Nat} {k : List Nat} {d : DiskM} {F G : Nat → Sec} {X : Nat → NodeM} {B : Nat → Nat → UInt8} {Ls : Nat → LayM} {R : Assn} {w : World}

set_option maxRecDepth 100000 in
set_option maxHeartbeats 4000000 in
theorem shrink_wide (h : Bears w (nodeObj xb (X n) * (filesObj f s * (spA s p d len g k true F G * R)))) (hc : Core len G X B Ls []) (hn : n < 256) (hk : (Ls n).blk.length = j + 1) (hj2 : j < 256) (hj : j = 36) :
    Calls Tryz.prog 134 #[.pointer (some ⟨f, 0, none⟩), .pointer (some ⟨xb, 0, none⟩), .int .i64 j] w fun e w' => e = .returned (.int .i64 0) ∧ ∃ (G' : Nat → Sec) (k' : List Nat),
      Shrunk len G G' X B Ls n j [] ∧ Bears w' (nodeObj xb (shrinkX (X n) j) * (filesObj f s * (spA s p d len g k' true F G' * R))) := by
  have hown : ∀ i ∈ (Ls n).own, OwnOk len G i := hc.ownOk hn
  have hbl := block_any (h.cast (by ac_rfl) : Bears _ (filesObj f s * (spA s p d len g k true F G * (nodeObj xb (X n) * R)))) (hc.lay n hn) hown (j := j) (by omega) rfl
  have c0 := cell_of_obj h.obj 0
  have c1 := cell_of_obj h.obj 1
  have c2 := cell_of_obj h.obj 2
  have c3 := cell_of_obj h.obj 3
  have c4 := cell_of_obj h.obj 4
  have c5 := cell_of_obj h.obj 5
  have c6 := cell_of_obj h.obj 6
  have c7 := cell_of_obj h.obj 7
  have c8 := cell_of_obj h.obj 8
  simp only [List.getElem?_toArray, List.getElem?_cons_zero, List.getElem?_cons_succ] at c0 c1 c2 c3 c4 c5 c6 c7 c8
  have hsh : Shrunk len G G X B Ls n j (goneL (Ls n) j) := ⟨hc.shrinks hn hk, by omega, fun _ => rfl⟩
  have hround := fun w' G' k' m Q (hm : m < (goneL (Ls n) j).length) (hs : Shrunk len G G' X B Ls n j ((goneL (Ls n) j).drop m)) (h3 : Bears w' (filesObj f s * (spA s p d len g k' true F G' * Q))) => shrink_round hm hs h3
  have d4 : ((j : Int) == 4) = false := by rw [beq_eq_false_iff_ne]; omega
  have d36 : decide (36 ≤ (j : Int)) = true := decide_eq_true (by omega)
  have d6 : ((j : Int) == 36) = true := by rw [beq_iff_eq]; omega
  have q1 : ((j : Int) - 36) % 32 = 0 := by omega
  have q2 : ((j : Int) - 36).tmod 32 = 0 := by rw [Int.tmod_eq_emod_of_nonneg (by omega)]; omega
  obtain ⟨jq, hjq⟩ : ∃ q, (j - 36) / 32 = q := ⟨_, rfl⟩
  have q3 : ((j : Int) - 36) / 32 = (jq : Int) := by omega
  have q4 : ((j : Int) - 36).tdiv 32 = (jq : Int) := by rw [Int.tdiv_eq_ediv_of_nonneg (by omega)]; omega
  have hwide := (hc.lay n hn).wide (by omega)
  have hil : (j - 36) / 32 < (Ls n).inner.length := by rw [(hc.lay n hn).inn, hk]; unfold nIn; omega
  have hokw := hown _ (LayM.mem_wide (L := Ls n) (by omega))
  have htw := (hc.lay n hn).wideN _ hil
  rw [← hwide] at hokw htw
  rw [hjq] at htw hil
  have hnm := fun w' Q (h : Bears w' (filesObj f s * (spA s p d len g k true F G * Q))) => named_any h hokw.chk hokw.lo hokw.hi (j := jq) (by omega) htw
  have hgl : goneL (Ls n) j = [(Ls n).blk.getD j 0, (Ls n).inner.getD jq 0, (X n).wide] := by
    unfold goneL; rw [if_neg (by omega), if_pos (by omega), hjq, if_pos hj, hwide]; rfl
  have hsx : shrinkX (X n) j = { X n with wide := 0 } := by unfold shrinkX; rw [if_neg (by omega), if_pos hj]
  rw [hsx]
  have hll : (goneL (Ls n) j).length = 3 := by rw [hgl]; rfl
  have hnv : natsV (goneL (Ls n) j) = [.int .i64 ((Ls n).blk.getD j 0 : Nat)] ++ [.int .i64 ((Ls n).inner.getD jq 0 : Nat)] ++ [.int .i64 ((X n).wide : Nat)] := by rw [hgl]; rfl
  generalize (Ls n).blk.getD j 0 = q at hbl hnv
  generalize (Ls n).inner.getD jq 0 = iq at hnm hnv
  clear hgl
  have hgl := hnv
  generalize goneL (Ls n) j = L at hsh hround hll hnv hgl
  have Hbl := Lib.hid hbl
  have Hround := Lib.hid hround
  have Hsh := Lib.hid hsh
  have Hnv := Lib.hid hnv
  have Hll := Lib.hid hll
  clear hsh hbl hround hnv hll hgl hown
  have Hnm := Lib.hid hnm
  clear hsx hj hk hc hnm hwide hokw htw hil hjq
  obtain ⟨i0, hi0, hz0, hz1, hz2⟩ := info_parts i_int
  go_enter Tryz.func134, Tryz.ntmps134
  go_wp2_with fail
  refine Hbl.out.mono ?_
  rintro e w1 ⟨rfl, h1⟩
  have h2 := (h1.alloc (.cells #[.int .i64 q] 3)).objNats (xs := [.int .i64 q]) (n := 1) rfl (by decide)
  have b8 := cell_of_obj h2.pull4.obj 8
  simp only [List.getElem?_toArray, List.getElem?_cons_zero, List.getElem?_cons_succ] at b8
  go_wp2_with fail
  have h2' : Bears _ (filesObj f s * (spA s p d len g k true F G * (rowA 3 1 (.slice (some ⟨w1.heap.size, 0, none⟩) 1 1) 1 [.int .i64 q] * (nodeObj xb (X n) * R)))) := h2.cast (by ac_rfl)
  refine (Hnm.out _ _ h2').mono ?_
  rintro e w2 ⟨rfl, h2b⟩
  have h3 := (h2b.alloc (.cells #[.int .i64 iq] 3)).pull4
  have hnews := World.news_of_block (cs := #[.int .i64 iq]) h3.pull2.obj
  have hsz : ∀ (w : World) o, (w.alloc o).heap.size = w.heap.size + 1 := fun w o => Array.size_push _
  go_wp2_with (first
    | (at_builtin; refine wpList_append_bears h3 rfl rfl u_ints hi0 hz0 hz1 hz2 (by simp [Value.cells]) (by decide) rfl (m := 1) rfl rfl hnews (by intro u hu; simp at hu; rcases hu with rfl; rfl) (by unfold maxLen; omega) (by omega) ?_; intro a3 c3 w3 h4; obtain ⟨rg, rfl, _⟩ := h4.rowAt (k := 0) (by decide)
       have b8 := cell_of_obj h4.pull5.obj 8
       simp only [List.getElem?_toArray, List.getElem?_cons_zero, List.getElem?_cons_succ] at b8
       generalize hx8 : (X n).wide = wn at b8 Hnv
       have h5 := (h4.pull2.right.alloc (.cells #[.int .i64 wn] 3)).pull2
       have hnews2 := World.news_of_block (cs := #[.int .i64 wn]) h5.pull2.obj)
    | (at_builtin; refine wpList_append_bears h5 rfl rfl u_ints hi0 hz0 hz1 hz2 (by simp [Value.cells]) (by decide) rfl (m := 1) rfl rfl hnews2 (by intro u hu; simp at hu; rcases hu with rfl; rfl) (by unfold maxLen; omega) (by omega) ?_; intro a5 c5 w5 h6; obtain ⟨rh, rfl, _⟩ := h6.rowAt (k := 0) (by decide); have h7 := h6.pull5; have b8' := frozen_of_obj h7.obj 8; have g8 := cell_of_obj h7.obj 8))
  have h8 : Bears _ (nodeObj xb { X n with wide := 0 } * (rowA 3 1 (.slice (some ⟨rh, 0, none⟩) 3 c5) 3 ([.int .i64 q] ++ [.int .i64 iq] ++ [.int .i64 wn]) * (_ * (filesObj f s * (spA s p d len g k true F G * R))))) := h7.setCell (i := 8) (.int .i64 0)
  rw [← Hnv.out] at h8
  have h9 := h8.pull3.right
  go_loopw [84] (fun i wr => ∃ m : Nat, m ≤ 3 ∧ i = .int .i64 m ∧ ∃ (G' : Nat → Sec) (k' : List Nat), Shrunk len G G' X B Ls n j (L.drop m) ∧ Bears wr (rowA 3 1 (.slice (some ⟨rh, 0, none⟩) 3 c5) 3 (natsV L) * (filesObj f s * (spA s p d len g k' true F G' * (nodeObj xb { X n with wide := 0 } * R))))) (fun i _ => 3 - (intOf i).toNat)
  case atStart => exact ⟨0, by omega, rfl, G, k, Hsh.out, h9.cast (by ac_rfl)⟩
  case round =>
    obtain ⟨m, hm, rfl, G', k', hC, h3⟩ := hrel
    by_cases hlt : m < 3
    · have hltI : (m : Int) < 3 := by omega
      have e0 := h3.rowCell (i := m) hlt (natsV_at (by rw [Hll.out]; exact hlt))
      have fc := files_cell h3.right
      have hfr := Hround.out _ _ _ m (rowA 3 1 (.slice (some ⟨rh, 0, none⟩) 3 c5) 3 (natsV L) * (nodeObj xb { X n with wide := 0 } * R)) (by rw [Hll.out]; exact hlt) hC (h3.cast (by ac_rfl))
      generalize L.getD m 0 = q at e0 hfr
      have Hfr := Lib.hid hfr
      clear hfr hC
      go_wp2_with fail
      refine Hfr.out.mono ?_
      rintro e w4 ⟨rfl, G2, k2, hC2, h4⟩
      have HC := Lib.hid hC2
      clear hC2
      go_wp2_with fail
      go_roundw
      case rel => exact ⟨m + 1, hlt, by go_num, _, _, HC.out, h4.cast (by ac_rfl)⟩
      case measure => simp [intOf]; omega
    · obtain rfl : m = 3 := by omega
      go_wp2_with fail
      go_ret
      rw [List.drop_of_length_le (by rw [Hll.out]; omega)] at hC
      first
        | exact ⟨rfl, G', k', hC, h3.right.cast (by ac_rfl)⟩
        | exact ⟨rfl, G', hC, k', h3.right.cast (by ac_rfl)⟩

/-- A file loses its last block. -/
theorem shrink_any (h : Bears w (nodeObj xb (X n) * (filesObj f s * (spA s p d len g k true F G * R)))) (hc : Core len G X B Ls []) (hn : n < 256) (hk : (Ls n).blk.length = j + 1) (hj2 : j < 256) :
    Calls Tryz.prog 134 #[.pointer (some ⟨f, 0, none⟩), .pointer (some ⟨xb, 0, none⟩), .int .i64 j] w fun e w' => e = .returned (.int .i64 0) ∧ ∃ (G' : Nat → Sec) (k' : List Nat),
      Shrunk len G G' X B Ls n j [] ∧ Bears w' (nodeObj xb (shrinkX (X n) j) * (filesObj f s * (spA s p d len g k' true F G' * R))) := by
  by_cases h4 : j = 4
  · exact shrink_near h hc hn hk hj2 h4
  · by_cases h5 : 36 ≤ j ∧ (j - 36) % 32 = 0
    · by_cases h6 : j = 36
      · exact shrink_wide h hc hn hk hj2 h6
      · exact shrink_inner h hc hn hk hj2 ⟨by omega, h5.2⟩
    · exact shrink_one h hc hn hk hj2 ⟨h4, h5⟩

end

end Go.Proofs.YtggbnelbnbaoiaaGreat
