/- Texts of this claim, put together: AllocW5, AllocW6, AllocW7, AllocW8, AllocW9, AllocW10; no condition. -/
import Derived.Test.YtcggloceabjjdaaGreatM761c870f8f
import Derived.Laws.IdiomCopy

set_option linter.unusedSimpArgs false
set_option linter.unusedVariables false

/- Walks of the space's functions, part 5: busy, Begin, Commit, Abort, Groups, Free, Read, Write; no condition. -/
namespace Go.Proofs.YtcggloceabjjdaaGreat
open Go.RowKit Go.MapKept

theorem vwrite_neg {c p x len a s : Nat} {k : List Nat} {op : Bool} {F G : Nat → Sec} {d : DiskM} {R : Assn} {w : World} (h : Bears w (cvA c p x len a s F G k op * (diskA p d * R))) :
    Calls Tryz.prog 69 #[.pointer (some ⟨c, 0, none⟩), .int .i64 (-1), .slice none 0 0] w fun e w' => e = .returned (.int .i64 (if op = true then 10 else 30)) ∧ Bears w' (cvA c p x len a s F G k op * (diskA p d * R)) := by
  obtain ⟨cm, hV, h⟩ := Bears.cv.1 h
  have hl := hV.length
  have hw : cm.write d.len (-1) [] = (if op = true then 10 else 30, cm) := by
    unfold CacheM.write
    rw [hV.opn]
    cases op <;> simp
  refine (cwrite_to h hw (fun _ _ => ⟨none, 0, rfl, fun h => absurd rfl h⟩) (by omega)).mono ?_
  rintro e w' ⟨rfl, h2⟩
  exact ⟨rfl, Bears.cv.2 ⟨cm, hV, h2⟩⟩
theorem vwrite_len {c p x len a s : Nat} {k : List Nat} {F G : Nat → Sec} {d : DiskM} {R : Assn} {w : World} {i : Int} {b : Sec} {ad : Option Addr} {n cap : Nat} (h : Bears w (cvA c p x len a s F G k true * (diskA p d * R))) (hlen : d.len = len)
    (hb : R.Tells (fun w => BytesIn w (.slice ad n cap) b)) (hb64 : b.length ≠ 64) (hi0 : 0 ≤ i) (hi : i < len) :
    Calls Tryz.prog 69 #[.pointer (some ⟨c, 0, none⟩), .int .i64 i, .slice ad n cap] w fun e w' => e = .returned (.int .i64 11) ∧ Bears w' (cvA c p x len a s F G k true * (diskA p d * R)) := by
  obtain ⟨cm, hV, h⟩ := Bears.cv.1 h
  have hl := hV.length
  have hw : cm.write d.len i b = (11, cm) := by
    unfold CacheM.write
    rw [hV.opn, if_neg (by simp), if_neg (by rw [hlen]; omega), if_pos hb64]
  refine (cwrite_to h hw hb (by omega)).mono ?_
  rintro e w' ⟨rfl, h2⟩
  exact ⟨rfl, Bears.cv.2 ⟨cm, hV, h2⟩⟩

set_option maxRecDepth 100000 in
set_option maxHeartbeats 400000 in
theorem busy_any {s p len g : Nat} {k : List Nat} {d : DiskM} {op : Bool} {F G : Nat → Sec} {R : Assn} {w : World} (h : Bears w (spA s p d len g k op F G * R)) :
    Calls Tryz.prog 66 #[.pointer (some ⟨s, 0, none⟩)] w fun e w' => e = .returned (.bool op) ∧ Bears w' (spA s p d len g k op F G * R) := by
  obtain ⟨c, x, hok, h0⟩ := Bears.sp.1 h
  obtain ⟨c0, _, _, _, _⟩ := sp_cells h0
  have hw := vwrite_neg h0.push3
  have Hok := Lib.hid hok
  clear hok h h0
  go_enter Tryz.func66, Tryz.ntmps66
  go_wp2_with fail
  refine hw.mono ?_
  rintro e w1 ⟨rfl, h1⟩
  have h2 : Bears w1 (spA s p d len g k op F G * R) := Bears.sp.2 ⟨c, x, Hok.out, h1.cast (by ac_rfl)⟩
  cases op with
  | true =>
    go_wp2_with fail
    go_ret
    exact ⟨rfl, h2⟩
  | false =>
    go_wp2_with fail
    go_ret
    exact ⟨rfl, h2⟩

set_option maxRecDepth 100000 in
set_option maxHeartbeats 400000 in
theorem sbegin_any {s p len g : Nat} {k : List Nat} {d : DiskM} {F G : Nat → Sec} {R : Assn} {w : World} (h : Bears w (spA s p d len g k false F G * R)) :
    Calls Tryz.prog 18 #[.pointer (some ⟨s, 0, none⟩)] w fun e w' => e = .returned (.int .i64 0) ∧ Bears w' (spA s p d len g k true F G * R) := by
  obtain ⟨c, x, hok, h0⟩ := Bears.sp.1 h
  obtain ⟨c0, _, _, _, _⟩ := sp_cells h0
  go_enter Tryz.func18, Tryz.ntmps18
  go_wp2_with fail
  refine (vbegin_any h0.push2).mono ?_
  rintro e w1 ⟨rfl, h1⟩
  go_wp2_with fail
  go_ret
  exact ⟨rfl, Bears.sp.2 ⟨c, x, hok, h1.pull2⟩⟩
set_option maxRecDepth 100000 in
set_option maxHeartbeats 400000 in
theorem sbegin_no {s p len g : Nat} {k : List Nat} {d : DiskM} {F G : Nat → Sec} {R : Assn} {w : World} (h : Bears w (spA s p d len g k true F G * R)) :
    Calls Tryz.prog 18 #[.pointer (some ⟨s, 0, none⟩)] w fun e w' => e = .returned (.int .i64 30) ∧ Bears w' (spA s p d len g k true F G * R) := by
  obtain ⟨c, x, hok, h0⟩ := Bears.sp.1 h
  obtain ⟨c0, _, _, _, _⟩ := sp_cells h0
  go_enter Tryz.func18, Tryz.ntmps18
  go_wp2_with fail
  refine (vbegin_no h0.push2).mono ?_
  rintro e w1 ⟨rfl, h1⟩
  go_wp2_with fail
  go_ret
  exact ⟨rfl, Bears.sp.2 ⟨c, x, hok, h1.pull2⟩⟩

theorem SpOk.commit {len g : Nat} {d d' : DiskM} {F G : Nat → Sec} (h : SpOk len d g F G) (hL : LogOn d' 1 620 (g + 1) G) (hl : d'.len = len) : SpOk len d' (g + 1) G G := ⟨hL, hl, h.lo, h.hi, h.g64, h.g64⟩
set_option maxRecDepth 100000 in
set_option maxHeartbeats 400000 in
theorem scommit_any {s p len g : Nat} {k : List Nat} {d : DiskM} {F G : Nat → Sec} {R : Assn} {w : World} (h : Bears w (spA s p d len g k true F G * R)) (hk : Few k 600) (hf : d.fuse = -1) (hg : g < 4611686018427387904) :
    Calls Tryz.prog 21 #[.pointer (some ⟨s, 0, none⟩)] w fun e w' => ∃ d', e = .returned (.int .i64 0) ∧ d'.fuse = -1 ∧ Bears w' (spA s p d' len (g + 1) [] false G G * R) := by
  obtain ⟨c, x, hok, h0⟩ := Bears.sp.1 h
  obtain ⟨c0, _, _, _, _⟩ := sp_cells h0
  have Hok := Lib.hid hok
  clear hok h
  go_enter Tryz.func21, Tryz.ntmps21
  go_wp2_with fail
  refine (vcommit_any (h0.push2.c34.c23.cast (by ac_rfl) : Bears _ (cvA c p x len 1 620 F G k true * (walObj x p 1 620 (g : Int) * (diskA p d * (spObj s c x len * R))))) Hok.out.log Hok.out.size hf hk hg).mono ?_
  rintro e w1 ⟨d', rfl, hL, hf2, hl, h1⟩
  have hok2 := Hok.out.commit hL hl
  have Hok2 := Lib.hid hok2
  have Hf2 := Lib.hid hf2
  clear hok2 hL hf2 hl
  go_wp2_with fail
  go_ret
  exact ⟨d', rfl, Hf2.out, Bears.sp.2 ⟨c, x, Hok2.out, h1.cast (by ac_rfl)⟩⟩
set_option maxRecDepth 100000 in
set_option maxHeartbeats 400000 in
theorem scommit_no {s p len g : Nat} {k : List Nat} {d : DiskM} {F G : Nat → Sec} {R : Assn} {w : World} (h : Bears w (spA s p d len g k false F G * R)) :
    Calls Tryz.prog 21 #[.pointer (some ⟨s, 0, none⟩)] w fun e w' => e = .returned (.int .i64 30) ∧ Bears w' (spA s p d len g k false F G * R) := by
  obtain ⟨c, x, hok, h0⟩ := Bears.sp.1 h
  obtain ⟨c0, _, _, _, _⟩ := sp_cells h0
  go_enter Tryz.func21, Tryz.ntmps21
  go_wp2_with fail
  refine (vcommit_no h0.push2).mono ?_
  rintro e w1 ⟨rfl, h1⟩
  go_wp2_with fail
  go_ret
  exact ⟨rfl, Bears.sp.2 ⟨c, x, hok, h1.pull2⟩⟩
set_option maxRecDepth 100000 in
set_option maxHeartbeats 400000 in
theorem sabort_any {s p len g : Nat} {k : List Nat} {d : DiskM} {F G : Nat → Sec} {R : Assn} {w : World} (h : Bears w (spA s p d len g k true F G * R)) :
    Calls Tryz.prog 15 #[.pointer (some ⟨s, 0, none⟩)] w fun e w' => e = .returned (.int .i64 0) ∧ Bears w' (spA s p d len g [] false F F * R) := by
  obtain ⟨c, x, hok, h0⟩ := Bears.sp.1 h
  obtain ⟨c0, _, _, _, _⟩ := sp_cells h0
  go_enter Tryz.func15, Tryz.ntmps15
  go_wp2_with fail
  refine (vabort_any h0.push2).mono ?_
  rintro e w1 ⟨rfl, h1⟩
  go_wp2_with fail
  go_ret
  exact ⟨rfl, Bears.sp.2 ⟨c, x, ⟨hok.log, hok.size, hok.lo, hok.hi, hok.f64, hok.f64⟩, h1.pull2⟩⟩
set_option maxRecDepth 100000 in
set_option maxHeartbeats 400000 in
theorem sabort_no {s p len g : Nat} {k : List Nat} {d : DiskM} {F G : Nat → Sec} {R : Assn} {w : World} (h : Bears w (spA s p d len g k false F G * R)) :
    Calls Tryz.prog 15 #[.pointer (some ⟨s, 0, none⟩)] w fun e w' => e = .returned (.int .i64 30) ∧ Bears w' (spA s p d len g k false F G * R) := by
  obtain ⟨c, x, hok, h0⟩ := Bears.sp.1 h
  obtain ⟨c0, _, _, _, _⟩ := sp_cells h0
  go_enter Tryz.func15, Tryz.ntmps15
  go_wp2_with fail
  refine (vabort_no h0.push2).mono ?_
  rintro e w1 ⟨rfl, h1⟩
  go_wp2_with fail
  go_ret
  exact ⟨rfl, Bears.sp.2 ⟨c, x, hok, h1.pull2⟩⟩

set_option maxRecDepth 100000 in
set_option maxHeartbeats 400000 in
theorem sgroups_any {s p len g : Nat} {k : List Nat} {d : DiskM} {op : Bool} {F G : Nat → Sec} {R : Assn} {w : World} (h : Bears w (spA s p d len g k op F G * R)) :
    Calls Tryz.prog 24 #[.pointer (some ⟨s, 0, none⟩)] w fun e w' => e = .returned (.int .i64 g) ∧ Bears w' (spA s p d len g k op F G * R) := by
  obtain ⟨c, x, hok, h0⟩ := Bears.sp.1 h
  obtain ⟨_, c1, _, _, _⟩ := sp_cells h0
  have hgr := groups_any h0.pull4
  clear hok h0
  go_enter Tryz.func24, Tryz.ntmps24
  go_wp2_with fail
  refine hgr.mono ?_
  rintro e w1 ⟨rfl, rfl⟩
  go_wp2_with fail
  go_ret
  exact ⟨rfl, h⟩

theorem chk_range {len : Nat} {G : Nat → Sec} {n : Int} (h : chkN len G n = 0) : ∃ m : Nat, n = (m : Int) ∧ firstB len ≤ m ∧ m < len ∧ bitOf (G (621 + m / 512)) (m % 512) = true := by
  unfold chkN at h
  split at h
  · cases h
  · rename_i h1
    refine ⟨n.toNat, by omega, by omega, by omega, ?_⟩
    split at h
    · assumption
    · cases h

set_option maxRecDepth 100000 in
set_option maxHeartbeats 400000 in
theorem sfree_closed {s p len g : Nat} {k : List Nat} {d : DiskM} {F G : Nat → Sec} {R : Assn} {w : World} (h : Bears w (spA s p d len g k false F G * R)) (n : Int) :
    Calls Tryz.prog 31 #[.pointer (some ⟨s, 0, none⟩), .int .i64 n] w fun e w' => e = .returned (.int .i64 30) ∧ Bears w' (spA s p d len g k false F G * R) := by
  go_enter Tryz.func31, Tryz.ntmps31
  go_wp2_with fail
  refine (busy_any h).mono ?_
  rintro e w1 ⟨rfl, h1⟩
  go_wp2_with fail
  go_ret
  exact ⟨rfl, h1⟩
set_option maxRecDepth 100000 in
set_option maxHeartbeats 400000 in
theorem sfree_bad {s p len g : Nat} {k : List Nat} {d : DiskM} {F G : Nat → Sec} {R : Assn} {w : World} (h : Bears w (spA s p d len g k true F G * R)) (n : Int) {r : Int} (hc : chkN len G n = r) (hr : r ≠ 0) :
    Calls Tryz.prog 31 #[.pointer (some ⟨s, 0, none⟩), .int .i64 n] w fun e w' => e = .returned (.int .i64 r) ∧ Bears w' (spA s p d len g k true F G * R) := by
  have hne : (r == 0) = false := by rw [beq_eq_false_iff_ne]; exact hr
  have Hc := Lib.hid hc
  clear hr hc
  go_enter Tryz.func31, Tryz.ntmps31
  go_wp2_with fail
  refine (busy_any h).mono ?_
  rintro e w1 ⟨rfl, h1⟩
  go_wp2_with fail
  refine (check_any' h1 n).mono ?_
  rintro e w2 ⟨rfl, h2⟩
  rw [Hc.out]
  go_wp2_with fail
  go_ret
  exact ⟨rfl, h2⟩
set_option maxRecDepth 100000 in
set_option maxHeartbeats 400000 in
theorem sfree_any {s p len g : Nat} {k : List Nat} {d : DiskM} {F G : Nat → Sec} {R : Assn} {w : World} (h : Bears w (spA s p d len g k true F G * R)) {n : Int} (m : Nat) (hn : n = (m : Int)) (hc : chkN len G n = 0) (hm : m < len) {r : Sec} (hr : G (621 + m / 512) = r) :
    Calls Tryz.prog 31 #[.pointer (some ⟨s, 0, none⟩), .int .i64 n] w fun e w' => e = .returned (.int .i64 0) ∧ Bears w' (spA s p d len g ((621 + m / 512) :: k) true F (updS G (621 + m / 512) (secSet r (m % 512) false)) * R) := by
  subst hn
  have Hc := Lib.hid hc
  have Hr := Lib.hid hr
  clear hr hc
  go_enter Tryz.func31, Tryz.ntmps31
  go_wp2_with fail
  refine (busy_any h).mono ?_
  rintro e w1 ⟨rfl, h1⟩
  go_wp2_with fail
  refine (check_any' h1 (m : Int)).mono ?_
  rintro e w2 ⟨rfl, h2⟩
  rw [Hc.out]
  go_wp2_with fail
  refine (set_any h2 m hm false Hr.out).mono ?_
  rintro e w3 ⟨rfl, h3⟩
  go_wp2_with fail
  go_ret
  exact ⟨rfl, h3⟩

set_option maxRecDepth 100000 in
set_option maxHeartbeats 400000 in
theorem sread_bad {s p len g : Nat} {k : List Nat} {d : DiskM} {op : Bool} {F G : Nat → Sec} {R : Assn} {w : World} (h : Bears w (spA s p d len g k op F G * R)) (n : Int) {r : Int} (hc : chkN len G n = r) (hr : r ≠ 0) :
    Calls Tryz.prog 25 #[.pointer (some ⟨s, 0, none⟩), .int .i64 n] w fun e w' => e = .returned (.tuple #[.slice none 0 0, .int .i64 r]) ∧ Bears w' (spA s p d len g k op F G * R) := by
  have hne : (r == 0) = false := by rw [beq_eq_false_iff_ne]; exact hr
  have Hc := Lib.hid hc
  clear hr hc
  go_enter Tryz.func25, Tryz.ntmps25
  go_wp2_with fail
  refine (check_any' h n).mono ?_
  rintro e w2 ⟨rfl, h2⟩
  rw [Hc.out]
  go_wp2_with fail
  go_ret2
  exact ⟨rfl, h2⟩
set_option maxRecDepth 100000 in
set_option maxHeartbeats 400000 in
theorem sreads_any {s p len g : Nat} {k : List Nat} {d : DiskM} {op : Bool} {F G : Nat → Sec} {R : Assn} {w : World} (h : Bears w (spA s p d len g k op F G * R)) {n : Int} (m : Nat) (hn : n = (m : Int)) (hc : chkN len G n = 0) (h1 : firstB len ≤ m) (hm : m < len) {r : Sec} (hr : G m = r) :
    Calls Tryz.prog 25 #[.pointer (some ⟨s, 0, none⟩), .int .i64 n] w fun e w' => ∃ ad cap, e = .returned (.tuple #[.slice ad 64 cap, .int .i64 0]) ∧ Bears w' (rowA 5 1 (.slice ad 64 cap) 64 (cellsV r) * (spA s p d len g k op F G * R)) := by
  subst hn
  have Hc := Lib.hid hc
  have Hr := Lib.hid hr
  have hf : 621 ≤ m := by unfold firstB at h1; omega
  clear hr hc h1
  go_enter Tryz.func25, Tryz.ntmps25
  go_wp2_with fail
  refine (check_any' h (m : Int)).mono ?_
  rintro e w2 ⟨rfl, h2⟩
  rw [Hc.out]
  obtain ⟨c, x, hok, h0⟩ := Bears.sp.1 h2
  obtain ⟨c0, _, _, _, _⟩ := sp_cells h0
  have hsr := sread_any (i := (m : Int)) hok h0 (by omega) (by omega) (r := r) (by rw [Int.toNat_natCast]; exact Hr.out)
  have Hok := Lib.hid hok
  clear hok h0
  go_wp2_with fail
  refine hsr.mono ?_
  rintro e w3 ⟨ad, cap, rfl, h3⟩
  go_wp2_with fail
  go_ret2
  exact ⟨ad, cap, rfl, Bears.pull2 (Bears.sp.2 ⟨c, x, Hok.out, h3.cast (by ac_rfl)⟩)⟩

set_option maxRecDepth 100000 in
set_option maxHeartbeats 400000 in
theorem swrite_closed {s p len g : Nat} {k : List Nat} {d : DiskM} {F G : Nat → Sec} {R : Assn} {w : World} (h : Bears w (spA s p d len g k false F G * R)) (n : Int) (v : Value) :
    Calls Tryz.prog 32 #[.pointer (some ⟨s, 0, none⟩), .int .i64 n, v] w fun e w' => e = .returned (.int .i64 30) ∧ Bears w' (spA s p d len g k false F G * R) := by
  go_enter Tryz.func32, Tryz.ntmps32
  go_wp2_with fail
  refine (busy_any h).mono ?_
  rintro e w1 ⟨rfl, h1⟩
  go_wp2_with fail
  go_ret
  exact ⟨rfl, h1⟩
set_option maxRecDepth 100000 in
set_option maxHeartbeats 400000 in
theorem swrite_bad {s p len g : Nat} {k : List Nat} {d : DiskM} {F G : Nat → Sec} {R : Assn} {w : World} (h : Bears w (spA s p d len g k true F G * R)) (n : Int) (v : Value) {r : Int} (hc : chkN len G n = r) (hr : r ≠ 0) :
    Calls Tryz.prog 32 #[.pointer (some ⟨s, 0, none⟩), .int .i64 n, v] w fun e w' => e = .returned (.int .i64 r) ∧ Bears w' (spA s p d len g k true F G * R) := by
  have hne : (r == 0) = false := by rw [beq_eq_false_iff_ne]; exact hr
  have Hc := Lib.hid hc
  clear hr hc
  go_enter Tryz.func32, Tryz.ntmps32
  go_wp2_with fail
  refine (busy_any h).mono ?_
  rintro e w1 ⟨rfl, h1⟩
  go_wp2_with fail
  refine (check_any' h1 n).mono ?_
  rintro e w2 ⟨rfl, h2⟩
  rw [Hc.out]
  go_wp2_with fail
  go_ret
  exact ⟨rfl, h2⟩
/-- What a writing of bytes answers, and what is at hand behind it. -/
def wrN (G : Nat → Sec) (m : Nat) (b : Sec) : Int × (Nat → Sec) := if b.length = 64 then (0, updS G m b) else (11, G)
set_option maxRecDepth 100000 in
set_option maxHeartbeats 800000 in
theorem swrites_any {s p len g : Nat} {k : List Nat} {d : DiskM} {F G : Nat → Sec} {R : Assn} {w : World} (h : Bears w (spA s p d len g k true F G * R)) {n : Int} (m : Nat) (hn : n = (m : Int)) (hc : chkN len G n = 0) (h1 : firstB len ≤ m) (hm : m < len)
    {b : Sec} {ad : Option Addr} {bn cap : Nat} (hb : R.Tells (fun w => BytesIn w (.slice ad bn cap) b)) :
    Calls Tryz.prog 32 #[.pointer (some ⟨s, 0, none⟩), .int .i64 n, .slice ad bn cap] w fun e w' => e = .returned (.int .i64 (wrN G m b).1) ∧ Bears w' (spA s p d len g (m :: k) true F (wrN G m b).2 * R) := by
  subst hn
  have Hc := Lib.hid hc
  have hf : 621 ≤ m := by unfold firstB at h1; omega
  clear hc h1
  go_enter Tryz.func32, Tryz.ntmps32
  go_wp2_with fail
  refine (busy_any h).mono ?_
  rintro e w1 ⟨rfl, h1⟩
  go_wp2_with fail
  refine (check_any' h1 (m : Int)).mono ?_
  rintro e w2 ⟨rfl, h2⟩
  rw [Hc.out]
  obtain ⟨c, x, hok, h0⟩ := Bears.sp.1 h2
  obtain ⟨c0, _, _, _, _⟩ := sp_cells h0
  have Hok := Lib.hid hok
  have h3 := h0.push3
  clear hok h0
  by_cases hl : b.length = 64
  · have hw := vwrite_any (i := (m : Int)) h3 Hok.out.size (fun w' hw' => hb w' hw'.right.right) hl (by omega) (by omega) (by omega)
    rw [Int.toNat_natCast] at hw
    have e1 : wrN G m b = (0, updS G m b) := by unfold wrN; rw [if_pos hl]
    have E1 := Lib.hid e1
    have Hl := Lib.hid hl
    clear hl e1 h3
    go_wp2_with fail
    refine hw.mono ?_
    rintro e w4 ⟨rfl, h4⟩
    go_wp2_with fail
    go_ret
    rw [E1.out]
    exact ⟨rfl, Bears.sp.2 ⟨c, x, Hok.out.put _ Hl.out, h4.cast (by ac_rfl)⟩⟩
  · have hw := vwrite_len (i := (m : Int)) h3 Hok.out.size (fun w' hw' => hb w' hw'.right.right) hl (by omega) (by omega)
    have e1 : wrN G m b = (11, G) := by unfold wrN; rw [if_neg hl]
    have E1 := Lib.hid e1
    clear hl e1 h3
    go_wp2_with fail
    refine hw.mono ?_
    rintro e w4 ⟨rfl, h4⟩
    go_wp2_with fail
    go_ret
    rw [E1.out]
    exact ⟨rfl, Bears.sp.2 ⟨c, x, Hok.out, (h4.cvMore m).cast (by ac_rfl)⟩⟩

end Go.Proofs.YtcggloceabjjdaaGreat

/- Walks of the space's functions, part 6: inode, Inode, SetInode, free; no condition. -/
namespace Go.Proofs.YtcggloceabjjdaaGreat
open Go.RowKit Go.MapKept

theorem results_tmp4 {fn : Func} {t u v x : Tmp} (h : fn.results = #[.tmp t, .tmp u, .tmp v, .tmp x]) (tmps : Array Value) (P : Program) (w : World) :
    (results fn tmps).run P w = .ok (.tuple #[tmps.getD t undef, tmps.getD u undef, tmps.getD v undef, tmps.getD x undef]) w := by
  simp [results, h]

/-- The sector in which an inode stands. -/
def iSec (len m : Nat) : Nat := 621 + mapsN len + m / 2
def iAt (m : Nat) : Nat := m % 2 * 32
theorem iSec_lt {len m : Nat} (h1 : 1024 ≤ len) (h2 : len ≤ 8192) (hm : m < 256) : 621 ≤ iSec len m ∧ iSec len m < firstB len ∧ firstB len ≤ len := by unfold iSec firstB mapsN; omega

set_option maxRecDepth 100000 in
set_option maxHeartbeats 800000 in
theorem inode_no {s : Nat} {w : World} (n : Int) (hn : n < 0 ∨ 256 ≤ n) :
    Calls Tryz.prog 84 #[.pointer (some ⟨s, 0, none⟩), .int .i64 n] w fun e w' => e = .returned (.tuple #[.int .i64 0, .slice none 0 0, .int .i64 0, .int .i64 40]) ∧ w = w' := by
  by_cases h1 : n < 0
  · have d1 : decide (n < 0) = true := decide_eq_true h1
    go_enter Tryz.func84, Tryz.ntmps84
    go_wp2_with fail
    refine bodyPost_ret (results_tmp4 rfl _ _ _) rfl ?_
    exact ⟨rfl, rfl⟩
  · have d1 : decide (n < 0) = false := decide_eq_false h1
    have d2 : decide (n ≥ 256) = true := decide_eq_true (by omega)
    go_enter Tryz.func84, Tryz.ntmps84
    go_wp2_with fail
    refine bodyPost_ret (results_tmp4 rfl _ _ _) rfl ?_
    exact ⟨rfl, rfl⟩

set_option maxRecDepth 100000 in
set_option maxHeartbeats 800000 in
theorem inode_any {s p len g : Nat} {k : List Nat} {d : DiskM} {op : Bool} {F G : Nat → Sec} {R : Assn} {w : World} (h : Bears w (spA s p d len g k op F G * R)) (m : Nat) (hm : m < 256) {r : Sec} (hr : G (iSec len m) = r) :
    Calls Tryz.prog 84 #[.pointer (some ⟨s, 0, none⟩), .int .i64 m] w fun e w' => ∃ ad cap, e = .returned (.tuple #[.int .i64 (iSec len m), .slice ad 64 cap, .int .i64 (iAt m), .int .i64 0]) ∧
      Bears w' (rowA 5 1 (.slice ad 64 cap) 64 (cellsV r) * (spA s p d len g k op F G * R)) := by
  obtain ⟨c, x, hok, h0⟩ := Bears.sp.1 h
  obtain ⟨c0, c1, c2, c3, c4⟩ := sp_cells h0
  obtain ⟨hi1, hi2, hi3⟩ := iSec_lt hok.lo hok.hi hm
  have d1 : decide ((m : Int) < 0) = false := decide_eq_false (by omega)
  have d2 : decide ((m : Int) ≥ 256) = false := decide_eq_false (by omega)
  have q1 : (m : Int).tdiv 2 = ((m / 2 : Nat) : Int) := by rw [Int.tdiv_eq_ediv_of_nonneg (by omega)]; omega
  have q2 : (m : Int).tmod 2 = ((m % 2 : Nat) : Int) := by rw [Int.tmod_eq_emod_of_nonneg (by omega)]; omega
  have hmaps : mapsN len ≤ 16 := by unfold mapsN; have := hok.hi; omega
  obtain ⟨m2, hm2⟩ : ∃ m2, m / 2 = m2 := ⟨_, rfl⟩
  obtain ⟨m1, hm1⟩ : ∃ m1, m % 2 = m1 := ⟨_, rfl⟩
  have hm1b : m1 < 2 := by omega
  rw [hm2] at q1
  rw [hm1] at q2
  have q1' : (m : Int) / 2 = (m2 : Int) := by omega
  have q2' : (m : Int) % 2 = (m1 : Int) := by omega
  have ei : ((iSec len m : Nat) : Int) = 621 + (mapsN len : Int) + (m2 : Int) := by unfold iSec; omega
  have ea : ((iAt m : Nat) : Int) = (m1 : Int) * 32 := by unfold iAt; omega
  have hm2b : m2 < 128 := by omega
  have hsr := sread_any (i := ((iSec len m : Nat) : Int)) hok h0 (by omega) (by omega) (r := r) (by rw [Int.toNat_natCast]; exact hr)
  rw [ei] at hsr ⊢
  rw [ea]
  have Hok := Lib.hid hok
  clear hok hr h h0 hm1 hm2 ei ea hi1 hi2 hi3
  go_enter Tryz.func84, Tryz.ntmps84
  go_wp2_with fail
  refine hsr.mono ?_
  rintro e w1 ⟨ad, cap, rfl, h1⟩
  go_wp2_with fail
  refine bodyPost_ret (results_tmp4 rfl _ _ _) rfl ?_
  exact ⟨ad, cap, rfl, Bears.pull2 (Bears.sp.2 ⟨c, x, Hok.out, h1.cast (by ac_rfl)⟩)⟩

set_option maxRecDepth 100000 in
set_option maxHeartbeats 800000 in
theorem sinode_no {s p len g : Nat} {k : List Nat} {d : DiskM} {op : Bool} {F G : Nat → Sec} {R : Assn} {w : World} (h : Bears w (spA s p d len g k op F G * R)) (n : Int) (hn : n < 0 ∨ 256 ≤ n) :
    Calls Tryz.prog 45 #[.pointer (some ⟨s, 0, none⟩), .int .i64 n] w fun e w' => e = .returned (.tuple #[.slice none 0 0, .int .i64 40]) ∧ Bears w' (spA s p d len g k op F G * R) := by
  have hin := inode_no (s := s) (w := w) n hn
  clear hn
  go_enter Tryz.func45, Tryz.ntmps45
  go_wp2_with fail
  refine hin.mono ?_
  rintro e w1 ⟨rfl, rfl⟩
  go_wp2_with fail
  go_ret2
  exact ⟨rfl, h⟩
set_option maxRecDepth 100000 in
set_option maxHeartbeats 800000 in
theorem sinode_any {s p len g : Nat} {k : List Nat} {d : DiskM} {op : Bool} {F G : Nat → Sec} {R : Assn} {w : World} (h : Bears w (spA s p d len g k op F G * R)) (m : Nat) (hm : m < 256) {r : Sec} (hr : G (iSec len m) = r) :
    Calls Tryz.prog 45 #[.pointer (some ⟨s, 0, none⟩), .int .i64 m] w fun e w' => ∃ b cap, e = .returned (.tuple #[.slice (some ⟨b, iAt m, none⟩) 32 32, .int .i64 0]) ∧
      Bears w' (rowA 5 1 (.slice (some ⟨b, 0, none⟩) 64 cap) 64 (cellsV r) * (spA s p d len g k op F G * R)) := by
  have hin := inode_any h m hm hr
  have hat : iAt m = 0 ∨ iAt m = 32 := by unfold iAt; omega
  obtain ⟨am, ham⟩ : ∃ am, iAt m = am := ⟨_, rfl⟩
  rw [ham] at hin hat ⊢
  clear hr h ham hm
  go_enter Tryz.func45, Tryz.ntmps45
  go_wp2_with fail
  refine hin.mono ?_
  rintro e w1 ⟨ad, cap, rfl, h1⟩
  obtain ⟨rg, rfl, _⟩ := h1.rowAt (k := 0) (by omega)
  obtain ⟨_, cap', e1, hcap, _⟩ := h1.rowForm
  simp only [Value.slice.injEq] at e1
  obtain ⟨-, -, rfl⟩ := e1
  have hz8 : ∀ w, (Go.sizeOf 5).run Tryz.prog w = .ok 1 w := fun w => by kernel_rfl
  have Hat := Lib.hid hat
  have w32 : IntKind.i64.wrap ((am : Int) + 32) = ((am + 32 : Nat) : Int) := by rw [IntWalk.i64_in _ (by omega)]; omega
  clear hin hat
  go_wp2_with (refine wpList_op rfl (exec_slice3 (lo := am) (hi := am + 32) (mx := am + 32) rfl Tryz.underlying34 (hz8 _) rfl (by go_simp) (by go_simp) (by go_simp) (by omega) (by omega) (by have := Hat.out; omega)) ?_; rw [show am + 32 - am = 32 by omega])
  go_ret2
  exact ⟨rg, cap, rfl, h1⟩

end Go.Proofs.YtcggloceabjjdaaGreat

/- Walks of the space's functions, part 7: SetInode, free; no condition. -/
namespace Go.Proofs.YtcggloceabjjdaaGreat
open Go.RowKit Go.MapKept

theorem copy_row {w : World} {g o c dLen dCap sn sc : Nat} {l s : List UInt8} {ad : Option Addr} {R : Assn} (h : Bears w (rowA 5 1 (.slice (some ⟨g, 0, none⟩) 64 c) 64 (cellsV l) * R)) (hl : l.length = 64) (hs : R.Tells (fun w => BytesIn w (.slice ad sn sc) s))
    (hne : s ≠ []) (hn : s.length ≤ dLen) (hfit : o + s.length ≤ 64) :
    ∃ w', (Builtin.copy_ #[34, 34] 3 #[.slice (some ⟨g, o, none⟩) dLen dCap, .slice ad sn sc]).run Tryz.prog w = .ok (goInt s.length) w' ∧
      Bears w' (rowA 5 1 (.slice (some ⟨g, 0, none⟩) 64 c) 64 (cellsV (putAt l o s)) * R) := by
  obtain rfl : sn = s.length := (hs _ h.right).len
  obtain ⟨b, so, rfl, hr⟩ := (hs _ h.right).at hne
  have hrun := run_copy_cells (P := Tryz.prog) w 34 34 3 5 g o dLen dCap ⟨b, so, none⟩ s.length sc (cellsV s) u_bytes (by kernel_rfl) (by simp [Nat.min_eq_left hn])
    (fun j v hv => by
      have := hr j v hv
      unfold Addr.add
      by_cases hj : j = 0
      · subst hj; simpa using this
      · simpa [hj] using this)
    (fun j hj => by
      simp only [length_cellsV] at hj
      rw [h.rowCell (i := o + j) (by omega) (v := (cellsV l)[o + j]'(by simp; omega)) (List.getElem?_eq_getElem _)]
      rfl)
    (fun j hj => h.rowFrozen _) (oneCell_cellsV s)
  rw [length_cellsV] at hrun
  refine ⟨_, hrun, ?_⟩
  have h2 := h.rowSets (cellsV s) o (by simp; omega)
  rw [setList_cellsV (by omega)] at h2
  exact h2

set_option maxRecDepth 100000 in
set_option maxHeartbeats 800000 in
theorem setinode_closed {s p len g : Nat} {k : List Nat} {d : DiskM} {F G : Nat → Sec} {R : Assn} {w : World} (h : Bears w (spA s p d len g k false F G * R)) (n : Int) (v : Value) :
    Calls Tryz.prog 44 #[.pointer (some ⟨s, 0, none⟩), .int .i64 n, v] w fun e w' => e = .returned (.int .i64 30) ∧ Bears w' (spA s p d len g k false F G * R) := by
  go_enter Tryz.func44, Tryz.ntmps44
  go_wp2_with fail
  refine (busy_any h).mono ?_
  rintro e w1 ⟨rfl, h1⟩
  go_wp2_with fail
  go_ret
  exact ⟨rfl, h1⟩
set_option maxRecDepth 100000 in
set_option maxHeartbeats 800000 in
theorem setinode_bad {s p len g : Nat} {k : List Nat} {d : DiskM} {F G : Nat → Sec} {R : Assn} {w : World} (h : Bears w (spA s p d len g k true F G * R)) (n : Int) (v : Value) (hn : n < 0 ∨ 256 ≤ n) :
    Calls Tryz.prog 44 #[.pointer (some ⟨s, 0, none⟩), .int .i64 n, v] w fun e w' => e = .returned (.int .i64 40) ∧ Bears w' (spA s p d len g k true F G * R) := by
  have hin := fun w => inode_no (s := s) (w := w) n hn
  clear hn
  go_enter Tryz.func44, Tryz.ntmps44
  go_wp2_with fail
  refine (busy_any h).mono ?_
  rintro e w1 ⟨rfl, h1⟩
  go_wp2_with fail
  refine (hin w1).mono ?_
  rintro e w2 ⟨rfl, rfl⟩
  go_wp2_with fail
  go_ret
  exact ⟨rfl, h1⟩
/-- What the setting of an inode answers, and what is at hand behind it. -/
def siN (len : Nat) (G : Nat → Sec) (m : Nat) (b : Sec) : Int × (Nat → Sec) := if b.length = 32 then (0, updS G (iSec len m) (putAt (G (iSec len m)) (iAt m) b)) else (11, G)
theorem putAt64 {l b : Sec} {o : Nat} (hl : l.length = 64) (h : o + b.length ≤ 64) : (putAt l o b).length = 64 := by rw [putAt_length (by omega), hl]

set_option maxRecDepth 100000 in
set_option maxHeartbeats 1000000 in
theorem setinode_any {s p len g : Nat} {k : List Nat} {d : DiskM} {F G : Nat → Sec} {R : Assn} {w : World} (h : Bears w (spA s p d len g k true F G * R)) (m : Nat) (hm : m < 256) {b : Sec} {ad : Option Addr} {bn bc : Nat} (hb : R.Tells (fun w => BytesIn w (.slice ad bn bc) b)) :
    Calls Tryz.prog 44 #[.pointer (some ⟨s, 0, none⟩), .int .i64 m, .slice ad bn bc] w fun e w' => e = .returned (.int .i64 (siN len G m b).1) ∧ Bears w' (spA s p d len g (iSec len m :: k) true F (siN len G m b).2 * R) := by
  obtain ⟨hlo, hhi⟩ := h.spOk
  obtain ⟨hi1, hi2, hi3⟩ := iSec_lt hlo hhi hm
  obtain rfl : bn = b.length := (hb _ h.right).len
  have hin := fun w' (h' : Bears w' (spA s p d len g k true F G * R)) => inode_any h' m hm rfl
  have hr64 : (G (iSec len m)).length = 64 := h.sp64 _
  have hat : iAt m = 0 ∨ iAt m = 32 := by unfold iAt; omega
  obtain ⟨am, ham⟩ : ∃ am, iAt m = am := ⟨_, rfl⟩
  obtain ⟨si, hsi⟩ : ∃ si, iSec len m = si := ⟨_, rfl⟩
  have esi : siN len G m b = if b.length = 32 then (0, updS G si (putAt (G si) am b)) else (11, G) := by unfold siN; rw [hsi, ham]
  rw [esi, hsi]
  simp only [ham, hsi] at hin hr64 hat hi1 hi2
  clear ham hsi esi hm
  have H64 := Lib.hid hr64
  have Hin := Lib.hid hin
  have Hat := Lib.hid hat
  clear hr64 hin hat
  by_cases hl : b.length = 32
  · rw [if_pos hl]
    have Hl := Lib.hid hl
    have hne : b ≠ [] := by intro e; rw [e] at hl; cases hl
    have Hne := Lib.hid hne
    rw [hl] at hb ⊢
    clear hl hne
    go_enter Tryz.func44, Tryz.ntmps44
    go_wp2_with fail
    refine (busy_any h).mono ?_
    rintro e w1 ⟨rfl, h1⟩
    go_wp2_with fail
    refine (Hin.out w1 h1).mono ?_
    rintro e w2 ⟨ad2, cap, rfl, h2⟩
    obtain ⟨rg, rfl, _⟩ := h2.rowAt (k := 0) (by omega)
    obtain ⟨_, cap', e1, hcap, _⟩ := h2.rowForm
    simp only [Value.slice.injEq] at e1
    obtain ⟨-, -, rfl⟩ := e1
    have hfin : ∀ w3, Bears w3 (rowA 5 1 (.slice (some ⟨rg, 0, none⟩) 64 cap) 64 (cellsV (putAt (G si) am b)) * (spA s p d len g k true F G * R)) → ∃ c, w3.cell? ⟨s, 0, none⟩ = some (.pointer (some ⟨c, 0, none⟩)) ∧
        Calls Tryz.prog 69 #[.pointer (some ⟨c, 0, none⟩), .int .i64 si, .slice (some ⟨rg, 0, none⟩) 64 cap] w3 fun e w' => e = .returned (.int .i64 0) ∧ Bears w' (spA s p d len g (si :: k) true F (updS G si (putAt (G si) am b)) * R) := by
      intro w3 h3
      obtain ⟨c, x, hok, h4⟩ := Bears.sp.1 h3.pull2
      have hpl : (putAt (G si) am b).length = 64 := putAt64 H64.out (by have := Hat.out; have := Hl.out; omega)
      have hwr := vwrite_any (i := (si : Int)) (b := putAt (G si) am b) h4.push3 hok.size (fun w' hw' => rowA_bytes hpl.symm _ hw'.right.right) hpl (by omega) (by omega) (by omega)
      rw [Int.toNat_natCast] at hwr
      refine ⟨c, (sp_cells h4).1, hwr.mono ?_⟩
      rintro e w' ⟨rfl, h5⟩
      exact ⟨rfl, Bears.sp.2 ⟨c, x, hok.put _ hpl, (h5.cast (by ac_rfl) : Bears _ (rowA 5 1 _ 64 _ * (spObj s c x len * (cvA c p x len 1 620 F _ (_ :: k) true * (diskA p d * (walObj x p 1 620 (g : Int) * R)))))).right⟩⟩
    have Hfin := Lib.hid hfin
    clear hfin
    rcases Hat.out with rfl | rfl
    · obtain ⟨w3, hcp, h3⟩ := copy_row (o := 0) (dLen := 64) (dCap := cap) h2 H64.out hb.right Hne.out (by rw [Hl.out]; decide) (by rw [Hl.out]; decide)
      obtain ⟨c, c0, hwr⟩ := Hfin.out w3 h3
      go_wp2_with (refine wpList_op rfl (exec_copy rfl rfl rfl hcp) ?_)
      refine hwr.mono ?_
      rintro e w4 ⟨rfl, h4⟩
      go_wp2_with fail
      go_ret
      exact ⟨rfl, h4⟩
    · obtain ⟨w3, hcp, h3⟩ := copy_row (o := 32) (dLen := 32) (dCap := cap - 32) h2 H64.out hb.right Hne.out (by rw [Hl.out]; decide) (by rw [Hl.out]; decide)
      obtain ⟨c, c0, hwr⟩ := Hfin.out w3 h3
      go_wp2_with (refine wpList_op rfl (exec_copy rfl rfl rfl hcp) ?_)
      refine hwr.mono ?_
      rintro e w4 ⟨rfl, h4⟩
      go_wp2_with fail
      go_ret
      exact ⟨rfl, h4⟩
  · rw [if_neg hl]
    have hne : ((b.length : Int) != 32) = true := by rw [bne_iff_ne]; omega
    clear hl
    go_enter Tryz.func44, Tryz.ntmps44
    go_wp2_with fail
    refine (busy_any h).mono ?_
    rintro e w1 ⟨rfl, h1⟩
    go_wp2_with fail
    refine (Hin.out w1 h1).mono ?_
    rintro e w2 ⟨ad2, cap, rfl, h2⟩
    go_wp2_with fail
    go_ret
    obtain ⟨c, x, hok, h3⟩ := Bears.sp.1 h2.right
    exact ⟨rfl, Bears.sp.2 ⟨c, x, hok, (h3.pull2.cvMore _).pull2⟩⟩

/-- Is an inode free? -/
def ifreeB (len : Nat) (G : Nat → Sec) (m : Nat) : Bool := (G (iSec len m)).getD (iAt m) 0 == 0
set_option maxRecDepth 100000 in
set_option maxHeartbeats 800000 in
theorem ifree_any {s p len g : Nat} {k : List Nat} {d : DiskM} {op : Bool} {F G : Nat → Sec} {R : Assn} {w : World} (h : Bears w (spA s p d len g k op F G * R)) (m : Nat) (hm : m < 256) :
    Calls Tryz.prog 65 #[.pointer (some ⟨s, 0, none⟩), .int .i64 m] w fun e w' => e = .returned (.bool (ifreeB len G m)) ∧ Bears w' (spA s p d len g k op F G * R) := by
  have hin := sinode_any h m hm rfl
  have hr64 : (G (iSec len m)).length = 64 := h.sp64 _
  have hat : iAt m < 64 := by unfold iAt; omega
  unfold ifreeB
  obtain ⟨am, ham⟩ : ∃ am, iAt m = am := ⟨_, rfl⟩
  obtain ⟨r, hr⟩ : ∃ r, G (iSec len m) = r := ⟨_, rfl⟩
  rw [ham, hr] at hin
  rw [ham] at hat ⊢
  rw [hr] at hr64 ⊢
  obtain ⟨cb, hcb⟩ : ∃ cb, r.getD am 0 = cb := ⟨_, rfl⟩
  rw [hcb]
  have e0 : (cb == 0) = ((cb.toNat : Int) == 0) := by
    rw [Bool.eq_iff_iff, beq_iff_eq, beq_iff_eq]
    constructor
    · rintro rfl; rfl
    · intro h; exact UInt8.toNat_inj.1 (by show cb.toNat = 0; omega)
  rw [e0]
  obtain ⟨cn, hcn⟩ : ∃ cn : Int, (cb.toNat : Int) = cn := ⟨_, rfl⟩
  rw [hcn]
  have Hcn := Lib.hid hcn
  clear hcn e0
  have Hcb := Lib.hid hcb
  have H64 := Lib.hid hr64
  clear h hm ham hr hcb hr64
  go_enter Tryz.func65, Tryz.ntmps65
  go_wp2_with fail
  refine hin.mono ?_
  rintro e w1 ⟨b, cap, rfl, h1⟩
  have hcell := h1.rowCell (i := am) hat (v := byteV cb) (by simp [cellsV, H64.out, hat, ← Hcb.out])
  unfold byteV at hcell
  rw [Hcn.out] at hcell
  go_wp2_with fail
  go_ret
  exact ⟨rfl, h1.right⟩

end Go.Proofs.YtcggloceabjjdaaGreat

/- Walks of the space's functions, part 8: Blocks, Inodes; no condition. -/
namespace Go.Proofs.YtcggloceabjjdaaGreat
open Go.RowKit Go.MapKept

/-- How many bits are 1 in the first j bytes. -/
def onesTo (r : Sec) : Nat → Nat
  | 0 => 0
  | j + 1 => onesTo r j + Lib.onesCount (r.getD j 0).toNat
/-- How many bits are 1 in the first i sectors of bits. -/
def usedTo (G : Nat → Sec) : Nat → Nat
  | 0 => 0
  | i + 1 => usedTo G i + onesTo (G (621 + i)) 64
theorem ones8 : ∀ x : Fin 256, Lib.onesCount x.val ≤ 8 := by decide +kernel
theorem onesTo_le (r : Sec) : ∀ j, onesTo r j ≤ 8 * j
  | 0 => Nat.le_refl _
  | j + 1 => by
    have h1 := onesTo_le r j
    have h2 := ones8 ⟨(r.getD j 0).toNat, (r.getD j 0).toNat_lt⟩
    simp only [onesTo] at h2 ⊢
    omega
theorem usedTo_le (G : Nat → Sec) : ∀ i, usedTo G i ≤ 512 * i
  | 0 => Nat.le_refl _
  | i + 1 => by
    have h1 := usedTo_le G i
    have h2 := onesTo_le (G (621 + i)) 64
    simp only [usedTo]
    omega
def blkN (len : Nat) (G : Nat → Sec) : Int := ((len - firstB len : Nat) : Int) - usedTo G (mapsN len)
/-- How many of the first i inodes are free. -/
def ifreeTo (len : Nat) (G : Nat → Sec) : Nat → Nat
  | 0 => 0
  | i + 1 => ifreeTo len G i + (ifreeB len G i).toNat
theorem ifreeTo_le (len : Nat) (G : Nat → Sec) : ∀ i, ifreeTo len G i ≤ i
  | 0 => Nat.le_refl _
  | i + 1 => by
    have h1 := ifreeTo_le len G i
    simp only [ifreeTo]
    cases ifreeB len G i <;> simp <;> omega

set_option maxRecDepth 100000 in
set_option maxHeartbeats 1000000 in
theorem sinodes_any {s p len g : Nat} {k : List Nat} {d : DiskM} {op : Bool} {F G : Nat → Sec} {R : Assn} {w : World} (h : Bears w (spA s p d len g k op F G * R)) :
    Calls Tryz.prog 29 #[.pointer (some ⟨s, 0, none⟩)] w fun e w' => e = .returned (.int .i64 (ifreeTo len G 256)) ∧ Bears w' (spA s p d len g k op F G * R) := by
  go_enter Tryz.func29, Tryz.ntmps29
  go_wp2_with fail
  go_loopw [3, 5] (fun n i wr => ∃ j : Nat, j ≤ 256 ∧ i = .int .i64 j ∧ n = .int .i64 (ifreeTo len G j) ∧ Bears wr (spA s p d len g k op F G * R)) (fun _ i _ => 256 - (intOf i).toNat)
  case atStart => exact ⟨0, by omega, rfl, rfl, h⟩
  case round =>
    clear h
    obtain ⟨j, hj, rfl, rfl, h1⟩ := hrel
    by_cases hlt : j < 256
    · have hf := ifree_any h1 j hlt
      have hle := ifreeTo_le len G j
      have e1 : ifreeTo len G (j + 1) = ifreeTo len G j + (ifreeB len G j).toNat := rfl
      obtain ⟨b, hb⟩ : ∃ b, ifreeB len G j = b := ⟨_, rfl⟩
      rw [hb] at hf e1
      obtain ⟨q, hq⟩ : ∃ q, ifreeTo len G j = q := ⟨_, rfl⟩
      rw [hq] at e1 hle ⊢
      have E1 := Lib.hid e1
      clear e1 hb hq
      cases b with
      | true =>
        go_wp2_with fail
        refine hf.mono ?_
        rintro e w2 ⟨rfl, h2⟩
        go_wp2_with fail
        go_roundw
        case rel => exact ⟨j + 1, hlt, by go_num, by rw [E1.out]; simp, h2⟩
        case measure => simp [intOf]; omega
      | false =>
        go_wp2_with fail
        refine hf.mono ?_
        rintro e w2 ⟨rfl, h2⟩
        go_wp2_with fail
        go_roundw
        case rel => exact ⟨j + 1, hlt, by go_num, by rw [E1.out]; simp, h2⟩
        case measure => simp [intOf]; omega
    · obtain rfl : j = 256 := by omega
      go_wp2_with fail
      go_ret
      exact ⟨rfl, h1⟩

set_option maxRecDepth 100000 in
set_option maxHeartbeats 1000000 in
theorem sblocks_any {s p len g : Nat} {k : List Nat} {d : DiskM} {op : Bool} {F G : Nat → Sec} {R : Assn} {w : World} (h : Bears w (spA s p d len g k op F G * R)) :
    Calls Tryz.prog 28 #[.pointer (some ⟨s, 0, none⟩)] w fun e w' => e = .returned (.int .i64 (blkN len G)) ∧ Bears w' (spA s p d len g k op F G * R) := by
  obtain ⟨hlo, hhi⟩ := h.spOk
  have hmf : mapsN len ≤ 16 ∧ 621 + mapsN len ≤ len := by unfold mapsN; omega
  obtain ⟨hm16, hml⟩ := hmf
  have hcells : ∀ w', Bears w' (spA s p d len g k op F G * R) → ∃ c x, SpOk len d g F G ∧ Bears w' (spObj s c x len * (cvA c p x len 1 620 F G k op * (diskA p d * (walObj x p 1 620 (g : Int) * R)))) := fun w' h' => Bears.sp.1 h'
  obtain ⟨c, x, hok, h0⟩ := Bears.sp.1 h
  have hcnt : len - firstB len ≤ 8192 := by omega
  unfold blkN
  obtain ⟨cnt, hcn⟩ : ∃ cnt, len - firstB len = cnt := ⟨_, rfl⟩
  obtain ⟨_, _, c2, _, c4⟩ := sp_cells h0
  rw [hcn] at c4 hcnt ⊢
  obtain ⟨mp, hmp⟩ : ∃ mp, mapsN len = mp := ⟨_, rfl⟩
  rw [hmp] at c2 hm16 hml ⊢
  have Hc := Lib.hid hcells
  clear hcells hok h0 hcn hmp hlo
  go_enter Tryz.func28, Tryz.ntmps28
  go_wp2_with fail
  go_loopw [3, 17] (fun n i wr => ∃ j : Nat, j ≤ mp ∧ i = .int .i64 j ∧ n = .int .i64 ((cnt : Int) - usedTo G j) ∧ Bears wr (spA s p d len g k op F G * R)) (fun _ i _ => mp - (intOf i).toNat)
  case atStart => exact ⟨0, by omega, rfl, by simp [usedTo], h⟩
  case round =>
    clear h c2 c4
    obtain ⟨i, hi, rfl, rfl, h1⟩ := hrel
    have hu := usedTo_le G i
    obtain ⟨u, hu2⟩ : ∃ u, usedTo G i = u := ⟨_, rfl⟩
    have e1 : usedTo G (i + 1) = u + onesTo (G (621 + i)) 64 := by rw [← hu2]; rfl
    rw [hu2] at hu ⊢
    by_cases hlt : i < mp
    · obtain ⟨c, x, hok, h2⟩ := Hc.out _ h1
      obtain ⟨c0, _, _, _, _⟩ := sp_cells h2
      obtain ⟨r, hr⟩ : ∃ r, G (621 + i) = r := ⟨_, rfl⟩
      rw [hr] at e1
      have hsr := sread_any (i := 621 + (i : Int)) hok h2 (by omega) (by omega) (r := r) (by rw [show (621 + (i : Int)).toNat = 621 + i by omega]; exact hr)
      have hr64 : r.length = 64 := by rw [← hr]; exact h1.sp64 _
      have Hok := Lib.hid hok
      have H64 := Lib.hid hr64
      have E1 := Lib.hid e1
      clear hok hr hr64 h2 e1 hu2
      go_wp2_with fail
      refine hsr.mono ?_
      rintro e w2 ⟨ad, cap, rfl, h3⟩
      obtain ⟨rg, rfl, _⟩ := h3.rowAt (k := 0) (by omega)
      go_wp2_with fail
      go_loopw [3, 34] (fun n jv wr => ∃ j : Nat, j ≤ 64 ∧ jv = .int .i64 j ∧ n = .int .i64 ((cnt : Int) - u - onesTo r j) ∧ Bears wr (rowA 5 1 (.slice (some ⟨rg, 0, none⟩) 64 cap) 64 (cellsV r) * (spObj s c x len * (cvA c p x len 1 620 F G k op * (diskA p d * (walObj x p 1 620 (g : Int) * R)))))) (fun _ jv _ => 64 - (intOf jv).toNat)
      case atStart => exact ⟨0, by omega, rfl, by simp [onesTo], h3⟩
      case round =>
        clear h3
        obtain ⟨j, hj, rfl, rfl, h4⟩ := hrel
        have ho := onesTo_le r j
        have e2 : onesTo r (j + 1) = onesTo r j + Lib.onesCount (r.getD j 0).toNat := rfl
        obtain ⟨o, ho2⟩ : ∃ o, onesTo r j = o := ⟨_, rfl⟩
        rw [ho2] at ho e2 ⊢
        by_cases hlj : j < 64
        · obtain ⟨cb, hcb⟩ : ∃ cb, r.getD j 0 = cb := ⟨_, rfl⟩
          have hcell := h4.rowCell (i := j) hlj (v := byteV cb) (by simp [cellsV, H64.out, hlj, ← hcb])
          rw [hcb] at e2
          have hb8 := ones8 ⟨cb.toNat, cb.toNat_lt⟩
          have hcb2 := cb.toNat_lt
          unfold byteV at hcell
          simp only at hb8
          obtain ⟨cn, hcn⟩ : ∃ cn, cb.toNat = cn := ⟨_, rfl⟩
          rw [hcn] at hcell e2 hb8 hcb2
          have hoc := Go.Proofs.Tryz.bits_OnesCount8 (cn : Int) wr (by omega) (by omega)
          rw [Int.toNat_natCast] at hoc
          obtain ⟨oc, hoc2⟩ : ∃ oc, Lib.onesCount cn = oc := ⟨_, rfl⟩
          rw [hoc2] at hoc e2 hb8
          have hli : (j : Int) < 64 := by omega
          have E2 := Lib.hid e2
          clear e2 hcb hcn hoc2 ho2
          go_wp2_with fail
          refine hoc.mono ?_
          rintro e w5 ⟨rfl, rfl⟩
          go_wp2_with fail
          go_roundw
          case rel => exact ⟨j + 1, hlj, by go_num, congrArg (Value.int IntKind.i64) (by rw [E2.out]; omega), h4⟩
          case measure => simp [intOf]; omega
        · obtain rfl : j = 64 := by omega
          rw [← ho2]
          go_wp2_with fail
          go_roundw
          case rel => exact ⟨i + 1, hlt, by go_num, congrArg (Value.int IntKind.i64) (by rw [E1.out]; omega), Bears.sp.2 ⟨c, x, Hok.out, h4.right⟩⟩
          case measure => simp [intOf]; omega
    · obtain rfl : i = mp := by omega
      go_wp2_with fail
      go_ret
      exact ⟨by rw [← hu2]; rfl, h1⟩

end Go.Proofs.YtcggloceabjjdaaGreat

/- Walks of the space's functions, part 9: Alloc; no condition. -/
namespace Go.Proofs.YtcggloceabjjdaaGreat
open Go.RowKit Go.MapKept

theorem tz_spec : ∀ x : Fin 256, x.val ≠ 0 → Lib.trailingZeros8 x.val < 8 ∧ x.val.testBit (Lib.trailingZeros8 x.val) = true ∧ ∀ b : Fin 8, b.val < Lib.trailingZeros8 x.val → x.val.testBit b.val = false := by decide +kernel
theorem and_spec : ∀ x : Fin 256, x.val ≠ 0 → bits BinOp.and IntKind.u8 (x.val : Int) ((x.val : Int) - 1) = ((x.val - 2 ^ Lib.trailingZeros8 x.val : Nat) : Int) := by decide +kernel
theorem low_spec : ∀ (x : Fin 256) (b : Fin 8), x.val ≠ 0 → (x.val - 2 ^ Lib.trailingZeros8 x.val).testBit b.val = (x.val.testBit b.val && !(b.val == Lib.trailingZeros8 x.val)) := by decide +kernel
theorem not_spec : ∀ (x : Fin 256) (b : Fin 8), (255 - x.val).testBit b.val = !x.val.testBit b.val := by decide +kernel
theorem xor_spec : ∀ x : Fin 256, bits BinOp.xor IntKind.u8 IntKind.u8.max (x.val : Int) = ((255 - x.val : Nat) : Int) := by decide +kernel
theorem low_lt : ∀ x : Fin 256, x.val ≠ 0 → 2 ^ Lib.trailingZeros8 x.val ≤ x.val ∧ 0 < 2 ^ Lib.trailingZeros8 x.val := by decide +kernel

/-- Is a block's bit set? -/
def bitN (G : Nat → Sec) (n : Nat) : Bool := bitOf (G (621 + n / 512)) (n % 512)
/-- None of the blocks below N is free. -/
def FullTo (len : Nat) (G : Nat → Sec) (N : Nat) : Prop := ∀ m, m < N → firstB len ≤ m → m < len → bitN G m = true
theorem bitN_at {G : Nat → Sec} {i j b : Nat} (hj : j < 64) (hb : b < 8) : bitN G (512 * i + 8 * j + b) = ((G (621 + i)).getD j 0).toNat.testBit b := by
  unfold bitN bitOf
  rw [show (512 * i + 8 * j + b) / 512 = i by omega, show (512 * i + 8 * j + b) % 512 / 8 = j by omega, show (512 * i + 8 * j + b) % 512 % 8 = b by omega]

set_option maxRecDepth 100000 in
set_option maxHeartbeats 400000 in
theorem salloc_closed {s p len g : Nat} {k : List Nat} {d : DiskM} {F G : Nat → Sec} {R : Assn} {w : World} (h : Bears w (spA s p d len g k false F G * R)) :
    Calls Tryz.prog 30 #[.pointer (some ⟨s, 0, none⟩)] w fun e w' => e = .returned (.tuple #[.int .i64 0, .int .i64 30]) ∧ Bears w' (spA s p d len g k false F G * R) := by
  go_enter Tryz.func30, Tryz.ntmps30
  go_wp2_with fail
  refine (busy_any h).mono ?_
  rintro e w1 ⟨rfl, h1⟩
  go_wp2_with fail
  go_ret2
  exact ⟨rfl, h1⟩

set_option maxRecDepth 100000 in
set_option maxHeartbeats 4000000 in
theorem salloc_any {s p len g : Nat} {k : List Nat} {d : DiskM} {F G : Nat → Sec} {R : Assn} {w : World} (h : Bears w (spA s p d len g k true F G * R)) :
    Calls Tryz.prog 30 #[.pointer (some ⟨s, 0, none⟩)] w fun e w' =>
      (∃ n, firstB len ≤ n ∧ n < len ∧ bitN G n = false ∧ FullTo len G n ∧ e = .returned (.tuple #[.int .i64 n, .int .i64 0]) ∧
        Bears w' (spA s p d len g (n :: (621 + n / 512) :: k) true F (updS (updS G (621 + n / 512) (secSet (G (621 + n / 512)) (n % 512) true)) n zeroSec) * R)) ∨
      (FullTo len G len ∧ e = .returned (.tuple #[.int .i64 0, .int .i64 3]) ∧ Bears w' (spA s p d len g k true F G * R)) := by
  obtain ⟨hlo, hhi⟩ := h.spOk
  have hmp : mapsN len ≤ 16 ∧ 621 + mapsN len ≤ len ∧ len ≤ 512 * mapsN len := by unfold mapsN; omega
  obtain ⟨hm16, hml, hmc⟩ := hmp
  have hfl : firstB len ≤ len := by unfold firstB mapsN; omega
  have hf621 : 621 ≤ firstB len := by unfold firstB; omega
  have hopen : ∀ w', Bears w' (spA s p d len g k true F G * R) → ∃ c x, SpOk len d g F G ∧ Bears w' (spObj s c x len * (cvA c p x len 1 620 F G k true * (diskA p d * (walObj x p 1 620 (g : Int) * R)))) := fun w' h' => Bears.sp.1 h'
  have Hopen := Lib.hid hopen
  clear hopen
  go_enter Tryz.func30, Tryz.ntmps30
  go_wp2_with fail
  refine (busy_any h).mono ?_
  rintro e w1 ⟨rfl, h1⟩
  obtain ⟨c, x, hok, h0⟩ := Hopen.out _ h1
  obtain ⟨_, _, c2, _, _⟩ := sp_cells h0
  obtain ⟨mp, hmpe⟩ : ∃ mp, mapsN len = mp := ⟨_, rfl⟩
  rw [hmpe] at c2 hm16 hml hmc
  have hwr : IntKind.i64.wrap ((firstB len : Int) + ((len - firstB len : Nat) : Int)) = (len : Int) := by rw [IntWalk.i64_in _ (by omega)]; omega
  have hfull0 : FullTo len G 0 := fun m hm => absurd hm (by omega)
  clear hok h0 hmpe h
  go_wp2_with fail
  go_loopw [20] (fun iv wr => ∃ i : Nat, i ≤ mp ∧ iv = .int .i64 i ∧ FullTo len G (512 * i) ∧ Bears wr (spA s p d len g k true F G * R)) (fun iv _ => mp - (intOf iv).toNat)
  case atStart => exact ⟨0, by omega, rfl, hfull0, h1⟩
  case round =>
    clear h1 c2 hfull0
    obtain ⟨i, hi, rfl, hfu, h2⟩ := hrel
    have Hfu := Lib.hid hfu
    clear hfu
    by_cases hlt : i < mp
    · obtain ⟨c, x, hok, h3⟩ := Hopen.out _ h2
      obtain ⟨c0, _, _, _, _⟩ := sp_cells h3
      obtain ⟨r, hr⟩ : ∃ r, G (621 + i) = r := ⟨_, rfl⟩
      have hsr := sread_any (i := 621 + (i : Int)) hok h3 (by omega) (by omega) (r := r) (by rw [show (621 + (i : Int)).toNat = 621 + i by omega]; exact hr)
      have hr64 : r.length = 64 := by rw [← hr]; exact h2.sp64 _
      have Hok := Lib.hid hok
      have H64 := Lib.hid hr64
      have Hr := Lib.hid hr
      clear hok hr hr64 h3 h2
      go_wp2_with fail
      refine hsr.mono ?_
      rintro e w3 ⟨ad, cap, rfl, h4⟩
      obtain ⟨rg, rfl, _⟩ := h4.rowAt (k := 0) (by omega)
      have h5 : Bears w3 (rowA 5 1 (.slice (some ⟨rg, 0, none⟩) 64 cap) 64 (cellsV r) * (spA s p d len g k true F G * R)) := Bears.pull2 (Bears.sp.2 ⟨c, x, Hok.out, h4.cast (by ac_rfl)⟩)
      clear h4 Hok
      go_wp2_with fail
      go_loopw [38] (fun jv wr => ∃ j : Nat, j ≤ 64 ∧ jv = .int .i64 j ∧ FullTo len G (512 * i + 8 * j) ∧ Bears wr (rowA 5 1 (.slice (some ⟨rg, 0, none⟩) 64 cap) 64 (cellsV r) * (spA s p d len g k true F G * R))) (fun jv _ => 64 - (intOf jv).toNat)
      case atStart => exact ⟨0, by omega, rfl, Hfu.out, h5⟩
      case round =>
        clear h5 Hfu
        obtain ⟨j, hj, rfl, hfu, h6⟩ := hrel
        have Hfu := Lib.hid hfu
        clear hfu
        by_cases hlj : j < 64
        · obtain ⟨cb, hcb⟩ : ∃ cb, r.getD j 0 = cb := ⟨_, rfl⟩
          have hcell := h6.rowCell (i := j) hlj (v := byteV cb) (by simp [cellsV, H64.out, hlj, ← hcb])
          have hcb2 := cb.toNat_lt
          unfold byteV at hcell
          have hbit : ∀ b, b < 8 → bitN G (512 * i + 8 * j + b) = cb.toNat.testBit b := fun b hb => by rw [bitN_at hlj hb, Hr.out, hcb]
          obtain ⟨cn, hcn⟩ : ∃ cn, cb.toNat = cn := ⟨_, rfl⟩
          rw [hcn] at hcell hbit hcb2
          have hli : (j : Int) < 64 := by omega
          have Hbit := Lib.hid hbit
          have hxo := xor_spec ⟨cn, hcb2⟩
          simp only at hxo
          have Hxo := Lib.hid hxo
          clear hcb hcn hbit hxo
          go_wp2_with fail
          go_loopw [9] (fun xv wr => ∃ xn : Nat, xn < 256 ∧ xv = .int .u8 (xn : Int) ∧ (∀ b, b < 8 → xn.testBit b = true → cn.testBit b = false) ∧
            (∀ b, b < 8 → xn.testBit b = false → cn.testBit b = true ∨ 512 * i + 8 * j + b < firstB len ∨ len ≤ 512 * i + 8 * j + b) ∧
            Bears wr (rowA 5 1 (.slice (some ⟨rg, 0, none⟩) 64 cap) 64 (cellsV r) * (spA s p d len g k true F G * R))) (fun xv _ => (intOf xv).toNat)
          case atStart =>
            refine ⟨255 - cn, by omega, by rw [Hxo.out], fun b hb h1 => ?_, fun b hb h1 => ?_, h6⟩
            · have := not_spec ⟨cn, hcb2⟩ ⟨b, hb⟩; simp only at this; rw [this] at h1; simpa using h1
            · have := not_spec ⟨cn, hcb2⟩ ⟨b, hb⟩; simp only at this; rw [this] at h1; left; simpa using h1
          case round =>
            clear h6 hcell
            obtain ⟨xn, hx8, rfl, hfree, hrest, h7⟩ := hrel
            have Hfree := Lib.hid hfree
            have Hrest := Lib.hid hrest
            clear hfree hrest
            by_cases hx0 : xn = 0
            · subst hx0
              go_wp2_with fail
              go_roundw
              case rel =>
                refine ⟨j + 1, hlj, by go_num, fun m hm m1 m2 => ?_, h7⟩
                by_cases hmo : m < 512 * i + 8 * j
                · exact Hfu.out m hmo m1 m2
                · obtain ⟨b, rfl⟩ : ∃ b, m = 512 * i + 8 * j + b := ⟨m - (512 * i + 8 * j), by omega⟩
                  rw [Hbit.out b (by omega)]
                  rcases Hrest.out b (by omega) (by simp) with q | q | q
                  · exact q
                  · omega
                  · omega
              case measure => simp [intOf]; omega
            · have hne : ((xn : Int) != 0) = true := by rw [bne_iff_ne]; omega
              have htz := Go.Proofs.Tryz.bits_TrailingZeros8 (xn : Int) wr (by omega) (by omega)
              rw [Int.toNat_natCast] at htz
              obtain ⟨ht8, htb, htl⟩ := tz_spec ⟨xn, hx8⟩ hx0
              have hand := and_spec ⟨xn, hx8⟩ hx0
              have hlow := fun b => low_spec ⟨xn, hx8⟩ b hx0
              have hllt := low_lt ⟨xn, hx8⟩ hx0
              simp only at ht8 htb htl hand hlow hllt
              obtain ⟨t, ht⟩ : ∃ t, Lib.trailingZeros8 xn = t := ⟨_, rfl⟩
              rw [ht] at htz ht8 htb htl hand hllt
              simp only [ht] at hlow
              have Htb := Lib.hid htb
              have Htl := Lib.hid htl
              have Hand := Lib.hid hand
              have Hlow := Lib.hid hlow
              clear hx0 ht htb htl hand hlow
              go_wp2_with fail
              refine htz.mono ?_
              rintro e w8 ⟨rfl, rfl⟩
              go_wp2_with fail
              obtain ⟨n, hn⟩ : ∃ n : Nat, (i : Int) * 512 + 8 * j + t = n := ⟨512 * i + 8 * j + t, by omega⟩
              rw [hn]
              have hnn : n = 512 * i + 8 * j + t := by omega
              have hfulln : FullTo len G n := fun m hm m1 m2 => by
                by_cases hmo : m < 512 * i + 8 * j
                · exact Hfu.out m hmo m1 m2
                · obtain ⟨b, rfl⟩ : ∃ b, m = 512 * i + 8 * j + b := ⟨m - (512 * i + 8 * j), by omega⟩
                  rw [Hbit.out b (by omega)]
                  rcases Hrest.out b (by omega) (Htl.out ⟨b, by omega⟩ (by simp only; omega)) with q | q | q
                  · exact q
                  · omega
                  · omega
              have hbn : bitN G n = false := by rw [hnn, Hbit.out t ht8]; exact Hfree.out t ht8 Htb.out
              have hnext : n < firstB len ∨ len ≤ n → (∀ b, b < 8 → (xn - 2 ^ t).testBit b = true → cn.testBit b = false) ∧
                  (∀ b, b < 8 → (xn - 2 ^ t).testBit b = false → cn.testBit b = true ∨ 512 * i + 8 * j + b < firstB len ∨ len ≤ 512 * i + 8 * j + b) := fun hout => by
                refine ⟨fun b hb hq => ?_, fun b hb hq => ?_⟩
                · have := Hlow.out ⟨b, hb⟩
                  simp only at this
                  rw [this, Bool.and_eq_true] at hq
                  exact Hfree.out b hb hq.1
                · have := Hlow.out ⟨b, hb⟩
                  simp only at this
                  rw [this, Bool.and_eq_false_iff] at hq
                  rcases hq with hq | hq
                  · exact Hrest.out b hb hq
                  · obtain rfl : b = t := by simpa using hq
                    rw [← hnn]; exact .inr hout
              obtain ⟨y, hy⟩ : ∃ y, xn - 2 ^ t = y := ⟨_, rfl⟩
              have hyx : y < xn := by rw [← hy]; omega
              rw [hy] at hnext
              have Hy := Lib.hid hy
              have Hnn := Lib.hid hnn
              have Hfulln := Lib.hid hfulln
              have Hbn := Lib.hid hbn
              have Hnext := Lib.hid hnext
              obtain ⟨c, x, hok, h8⟩ := Bears.sp.1 h7.pull2
              have hu1 : IntKind.u8.wrap ((xn : Int) - 1) = (xn : Int) - 1 := IntWalk.u8_in _ (by omega)
              clear hy hn hnn hfulln hbn hnext htz hllt hok
              by_cases h1 : n < firstB len
              · have hd1 : decide ((n : Int) < (firstB len : Int)) = true := decide_eq_true (by omega)
                have hd1n : decide (n < firstB len) = true := decide_eq_true h1
                have H1 := Lib.hid h1
                clear h1
                refine wp_region_L (fun w' => ∃ Q, Bears w' (spObj s c x len * Q)) 19 [(true, 0), (true, 1), (true, 2), (true, 3), (true, 4), (true, 5), (true, 6), (true, 7), (true, 8), (true, 9), (true, 10), (true, 11), (true, 12), (true, 13), (true, 14), (true, 15), (true, 16), (true, 17), (true, 18)] [] (by kernel_rfl) (by kernel_rfl) ⟨_, h8.drew⟩ ?_
                simp only [pick, List.getElem?_cons_zero, List.getElem?_cons_succ]
                refine wpL_guarded (v := ?_) rfl (fun w' hS => ?_) ?_
                rotate_left
                · (obtain ⟨_, hS⟩ := hS; obtain ⟨_, _, _, c3, c4⟩ := sp_cells hS; go_simp; try with_reducible rfl)
                simp only [Act.put, List.setIfInBounds_toArray, List.set_cons_zero, List.set_cons_succ]
                refine wpL_guarded (v := ?_) rfl (fun w' hS => ?_) ?_
                rotate_left
                · (obtain ⟨_, hS⟩ := hS; obtain ⟨_, _, _, c3, c4⟩ := sp_cells hS; go_simp; try with_reducible rfl)
                simp only [Act.put, List.setIfInBounds_toArray, List.set_cons_zero, List.set_cons_succ]
                refine wpL_guarded (v := ?_) rfl (fun w' hS => ?_) ?_
                rotate_left
                · (obtain ⟨_, hS⟩ := hS; obtain ⟨_, _, _, c3, c4⟩ := sp_cells hS; go_simp; try with_reducible rfl)
                simp only [Act.put, List.setIfInBounds_toArray, List.set_cons_zero, List.set_cons_succ]
                refine wpL_guarded (v := ?_) rfl (fun w' hS => ?_) ?_
                rotate_left
                · (obtain ⟨_, hS⟩ := hS; obtain ⟨_, _, _, c3, c4⟩ := sp_cells hS; go_simp; try with_reducible rfl)
                simp only [Act.put, List.setIfInBounds_toArray, List.set_cons_zero, List.set_cons_succ]
                refine wpL_guarded (v := ?_) rfl (fun w' hS => ?_) ?_
                rotate_left
                · (obtain ⟨_, hS⟩ := hS; obtain ⟨_, _, _, c3, c4⟩ := sp_cells hS; go_simp; try with_reducible rfl)
                simp only [Act.put, List.setIfInBounds_toArray, List.set_cons_zero, List.set_cons_succ]
                refine wpL_guarded (v := ?_) rfl (fun w' hS => ?_) ?_
                rotate_left
                · (obtain ⟨_, hS⟩ := hS; obtain ⟨_, _, _, c3, c4⟩ := sp_cells hS; go_simp; try with_reducible rfl)
                simp only [Act.put, List.setIfInBounds_toArray, List.set_cons_zero, List.set_cons_succ]
                refine wpL_guarded (v := ?_) rfl (fun w' hS => ?_) ?_
                rotate_left
                · (obtain ⟨_, hS⟩ := hS; obtain ⟨_, _, _, c3, c4⟩ := sp_cells hS; go_simp; try with_reducible rfl)
                simp only [Act.put, List.setIfInBounds_toArray, List.set_cons_zero, List.set_cons_succ]
                refine wpL_skip rfl ?_
                simp only [Act.put, List.setIfInBounds_toArray, List.set_cons_zero, List.set_cons_succ]
                refine wpL_skip rfl ?_
                simp only [Act.put, List.setIfInBounds_toArray, List.set_cons_zero, List.set_cons_succ]
                refine wpL_skip rfl ?_
                simp only [Act.put, List.setIfInBounds_toArray, List.set_cons_zero, List.set_cons_succ]
                refine wpL_skip rfl ?_
                simp only [Act.put, List.setIfInBounds_toArray, List.set_cons_zero, List.set_cons_succ]
                refine wpL_skip rfl ?_
                simp only [Act.put, List.setIfInBounds_toArray, List.set_cons_zero, List.set_cons_succ]
                refine wpL_skip rfl ?_
                simp only [Act.put, List.setIfInBounds_toArray, List.set_cons_zero, List.set_cons_succ]
                refine wpL_skip rfl ?_
                simp only [Act.put, List.setIfInBounds_toArray, List.set_cons_zero, List.set_cons_succ]
                refine wpL_skip rfl ?_
                simp only [Act.put, List.setIfInBounds_toArray, List.set_cons_zero, List.set_cons_succ]
                refine wpL_skip rfl ?_
                simp only [Act.put, List.setIfInBounds_toArray, List.set_cons_zero, List.set_cons_succ]
                refine wpL_skip rfl ?_
                simp only [Act.put, List.setIfInBounds_toArray, List.set_cons_zero, List.set_cons_succ]
                refine wpL_skip rfl ?_
                simp only [Act.put, List.setIfInBounds_toArray, List.set_cons_zero, List.set_cons_succ]
                refine wpL_guarded (v := ?_) rfl (fun w' hS => ?_) ?_
                rotate_left
                · (go_simp; try with_reducible rfl)
                simp only [Act.put, List.setIfInBounds_toArray, List.set_cons_zero, List.set_cons_succ]
                refine wpL_nil ?_
                refine wpL_nil ?_
                go_wp2_with fail
                rw [Hand.out, Hy.out]
                exact ⟨⟨y, by omega, rfl, (Hnext.out (.inl H1.out)).1, (Hnext.out (.inl H1.out)).2, h7.drew⟩, by simp [intOf]; omega⟩
              · have hd1 : decide ((n : Int) < (firstB len : Int)) = false := decide_eq_false (by omega)
                have hd1n : decide (n < firstB len) = false := decide_eq_false h1
                by_cases h2 : len ≤ n
                · have hd2 : decide ((n : Int) ≥ (len : Int)) = true := decide_eq_true (by omega)
                  have hd2n : decide (len ≤ n) = true := decide_eq_true h2
                  have H2 := Lib.hid h2
                  clear h1 h2
                  refine wp_region_L (fun w' => ∃ Q, Bears w' (spObj s c x len * Q)) 19 [(true, 0), (true, 1), (true, 2), (true, 3), (true, 4), (true, 5), (true, 6), (true, 7), (true, 8), (true, 9), (true, 10), (true, 11), (true, 12), (true, 13), (true, 14), (true, 15), (true, 16), (true, 17), (true, 18)] [] (by kernel_rfl) (by kernel_rfl) ⟨_, h8.drew⟩ ?_
                  simp only [pick, List.getElem?_cons_zero, List.getElem?_cons_succ]
                  refine wpL_guarded (v := ?_) rfl (fun w' hS => ?_) ?_
                  rotate_left
                  · (obtain ⟨_, hS⟩ := hS; obtain ⟨_, _, _, c3, c4⟩ := sp_cells hS; go_simp; try with_reducible rfl)
                  simp only [Act.put, List.setIfInBounds_toArray, List.set_cons_zero, List.set_cons_succ]
                  refine wpL_guarded (v := ?_) rfl (fun w' hS => ?_) ?_
                  rotate_left
                  · (obtain ⟨_, hS⟩ := hS; obtain ⟨_, _, _, c3, c4⟩ := sp_cells hS; go_simp; try with_reducible rfl)
                  simp only [Act.put, List.setIfInBounds_toArray, List.set_cons_zero, List.set_cons_succ]
                  refine wpL_guarded (v := ?_) rfl (fun w' hS => ?_) ?_
                  rotate_left
                  · (obtain ⟨_, hS⟩ := hS; obtain ⟨_, _, _, c3, c4⟩ := sp_cells hS; go_simp; try with_reducible rfl)
                  simp only [Act.put, List.setIfInBounds_toArray, List.set_cons_zero, List.set_cons_succ]
                  refine wpL_guarded (v := ?_) rfl (fun w' hS => ?_) ?_
                  rotate_left
                  · (obtain ⟨_, hS⟩ := hS; obtain ⟨_, _, _, c3, c4⟩ := sp_cells hS; go_simp; try with_reducible rfl)
                  simp only [Act.put, List.setIfInBounds_toArray, List.set_cons_zero, List.set_cons_succ]
                  refine wpL_guarded (v := ?_) rfl (fun w' hS => ?_) ?_
                  rotate_left
                  · (obtain ⟨_, hS⟩ := hS; obtain ⟨_, _, _, c3, c4⟩ := sp_cells hS; go_simp; try with_reducible rfl)
                  simp only [Act.put, List.setIfInBounds_toArray, List.set_cons_zero, List.set_cons_succ]
                  refine wpL_guarded (v := ?_) rfl (fun w' hS => ?_) ?_
                  rotate_left
                  · (obtain ⟨_, hS⟩ := hS; obtain ⟨_, _, _, c3, c4⟩ := sp_cells hS; go_simp; try with_reducible rfl)
                  simp only [Act.put, List.setIfInBounds_toArray, List.set_cons_zero, List.set_cons_succ]
                  refine wpL_guarded (v := ?_) rfl (fun w' hS => ?_) ?_
                  rotate_left
                  · (obtain ⟨_, hS⟩ := hS; obtain ⟨_, _, _, c3, c4⟩ := sp_cells hS; go_simp; try with_reducible rfl)
                  simp only [Act.put, List.setIfInBounds_toArray, List.set_cons_zero, List.set_cons_succ]
                  refine wpL_guarded (v := ?_) rfl (fun w' hS => ?_) ?_
                  rotate_left
                  · (obtain ⟨_, hS⟩ := hS; obtain ⟨_, _, _, c3, c4⟩ := sp_cells hS; go_simp; try with_reducible rfl)
                  simp only [Act.put, List.setIfInBounds_toArray, List.set_cons_zero, List.set_cons_succ]
                  refine wpL_guarded (v := ?_) rfl (fun w' hS => ?_) ?_
                  rotate_left
                  · (obtain ⟨_, hS⟩ := hS; obtain ⟨_, _, _, c3, c4⟩ := sp_cells hS; go_simp; try with_reducible rfl)
                  simp only [Act.put, List.setIfInBounds_toArray, List.set_cons_zero, List.set_cons_succ]
                  refine wpL_guarded (v := ?_) rfl (fun w' hS => ?_) ?_
                  rotate_left
                  · (obtain ⟨_, hS⟩ := hS; obtain ⟨_, _, _, c3, c4⟩ := sp_cells hS; go_simp; try with_reducible rfl)
                  simp only [Act.put, List.setIfInBounds_toArray, List.set_cons_zero, List.set_cons_succ]
                  refine wpL_guarded (v := ?_) rfl (fun w' hS => ?_) ?_
                  rotate_left
                  · (obtain ⟨_, hS⟩ := hS; obtain ⟨_, _, _, c3, c4⟩ := sp_cells hS; go_simp; try with_reducible rfl)
                  simp only [Act.put, List.setIfInBounds_toArray, List.set_cons_zero, List.set_cons_succ]
                  refine wpL_guarded (v := ?_) rfl (fun w' hS => ?_) ?_
                  rotate_left
                  · (obtain ⟨_, hS⟩ := hS; obtain ⟨_, _, _, c3, c4⟩ := sp_cells hS; go_simp; try with_reducible rfl)
                  simp only [Act.put, List.setIfInBounds_toArray, List.set_cons_zero, List.set_cons_succ]
                  refine wpL_guarded (v := ?_) rfl (fun w' hS => ?_) ?_
                  rotate_left
                  · (obtain ⟨_, hS⟩ := hS; obtain ⟨_, _, _, c3, c4⟩ := sp_cells hS; go_simp; try with_reducible rfl)
                  simp only [Act.put, List.setIfInBounds_toArray, List.set_cons_zero, List.set_cons_succ]
                  refine wpL_guarded (v := ?_) rfl (fun w' hS => ?_) ?_
                  rotate_left
                  · (obtain ⟨_, hS⟩ := hS; obtain ⟨_, _, _, c3, c4⟩ := sp_cells hS; go_simp; try with_reducible rfl)
                  simp only [Act.put, List.setIfInBounds_toArray, List.set_cons_zero, List.set_cons_succ]
                  refine wpL_guarded (v := ?_) rfl (fun w' hS => ?_) ?_
                  rotate_left
                  · (obtain ⟨_, hS⟩ := hS; obtain ⟨_, _, _, c3, c4⟩ := sp_cells hS; go_simp; try with_reducible rfl)
                  simp only [Act.put, List.setIfInBounds_toArray, List.set_cons_zero, List.set_cons_succ]
                  refine wpL_guarded (v := ?_) rfl (fun w' hS => ?_) ?_
                  rotate_left
                  · (obtain ⟨_, hS⟩ := hS; obtain ⟨_, _, _, c3, c4⟩ := sp_cells hS; go_simp; try with_reducible rfl)
                  simp only [Act.put, List.setIfInBounds_toArray, List.set_cons_zero, List.set_cons_succ]
                  refine wpL_guarded (v := ?_) rfl (fun w' hS => ?_) ?_
                  rotate_left
                  · (obtain ⟨_, hS⟩ := hS; obtain ⟨_, _, _, c3, c4⟩ := sp_cells hS; go_simp; try with_reducible rfl)
                  simp only [Act.put, List.setIfInBounds_toArray, List.set_cons_zero, List.set_cons_succ]
                  refine wpL_guarded (v := ?_) rfl (fun w' hS => ?_) ?_
                  rotate_left
                  · (obtain ⟨_, hS⟩ := hS; obtain ⟨_, _, _, c3, c4⟩ := sp_cells hS; go_simp; try with_reducible rfl)
                  simp only [Act.put, List.setIfInBounds_toArray, List.set_cons_zero, List.set_cons_succ]
                  refine wpL_guarded (v := ?_) rfl (fun w' hS => ?_) ?_
                  rotate_left
                  · (obtain ⟨_, hS⟩ := hS; obtain ⟨_, _, _, c3, c4⟩ := sp_cells hS; go_simp; try with_reducible rfl)
                  simp only [Act.put, List.setIfInBounds_toArray, List.set_cons_zero, List.set_cons_succ]
                  refine wpL_nil ?_
                  refine wpL_nil ?_
                  go_wp2_with fail
                  rw [Hand.out, Hy.out]
                  exact ⟨⟨y, by omega, rfl, (Hnext.out (.inr H2.out)).1, (Hnext.out (.inr H2.out)).2, h7.drew⟩, by simp [intOf]; omega⟩
                · have hd2 : decide ((n : Int) ≥ (len : Int)) = false := decide_eq_false (by omega)
                  have hd2n : decide (len ≤ n) = false := decide_eq_false h2
                  have hn1 : firstB len ≤ n ∧ n < len := ⟨by omega, by omega⟩
                  have Hn1 := Lib.hid hn1
                  have hset := set_any h7.pull2.drew n (by omega) true rfl
                  have Hset := Lib.hid hset
                  clear h1 h2 hset hn1
                  refine wp_region_L (fun w' => ∃ Q, Bears w' (spObj s c x len * Q)) 19 [(true, 0), (true, 1), (true, 2), (true, 3), (true, 4), (true, 5), (true, 6), (true, 7), (true, 8), (true, 9), (true, 10), (true, 11), (true, 12), (true, 13), (true, 14), (true, 15), (true, 16), (true, 17), (true, 18)] [] (by kernel_rfl) (by kernel_rfl) ⟨_, h8.drew⟩ ?_
                  simp only [pick, List.getElem?_cons_zero, List.getElem?_cons_succ]
                  refine wpL_guarded (v := ?_) rfl (fun w' hS => ?_) ?_
                  rotate_left
                  · (obtain ⟨_, hS⟩ := hS; obtain ⟨_, _, _, c3, c4⟩ := sp_cells hS; go_simp; try with_reducible rfl)
                  simp only [Act.put, List.setIfInBounds_toArray, List.set_cons_zero, List.set_cons_succ]
                  refine wpL_guarded (v := ?_) rfl (fun w' hS => ?_) ?_
                  rotate_left
                  · (obtain ⟨_, hS⟩ := hS; obtain ⟨_, _, _, c3, c4⟩ := sp_cells hS; go_simp; try with_reducible rfl)
                  simp only [Act.put, List.setIfInBounds_toArray, List.set_cons_zero, List.set_cons_succ]
                  refine wpL_guarded (v := ?_) rfl (fun w' hS => ?_) ?_
                  rotate_left
                  · (obtain ⟨_, hS⟩ := hS; obtain ⟨_, _, _, c3, c4⟩ := sp_cells hS; go_simp; try with_reducible rfl)
                  simp only [Act.put, List.setIfInBounds_toArray, List.set_cons_zero, List.set_cons_succ]
                  refine wpL_guarded (v := ?_) rfl (fun w' hS => ?_) ?_
                  rotate_left
                  · (obtain ⟨_, hS⟩ := hS; obtain ⟨_, _, _, c3, c4⟩ := sp_cells hS; go_simp; try with_reducible rfl)
                  simp only [Act.put, List.setIfInBounds_toArray, List.set_cons_zero, List.set_cons_succ]
                  refine wpL_guarded (v := ?_) rfl (fun w' hS => ?_) ?_
                  rotate_left
                  · (obtain ⟨_, hS⟩ := hS; obtain ⟨_, _, _, c3, c4⟩ := sp_cells hS; go_simp; try with_reducible rfl)
                  simp only [Act.put, List.setIfInBounds_toArray, List.set_cons_zero, List.set_cons_succ]
                  refine wpL_guarded (v := ?_) rfl (fun w' hS => ?_) ?_
                  rotate_left
                  · (obtain ⟨_, hS⟩ := hS; obtain ⟨_, _, _, c3, c4⟩ := sp_cells hS; go_simp; try with_reducible rfl)
                  simp only [Act.put, List.setIfInBounds_toArray, List.set_cons_zero, List.set_cons_succ]
                  refine wpL_guarded (v := ?_) rfl (fun w' hS => ?_) ?_
                  rotate_left
                  · (obtain ⟨_, hS⟩ := hS; obtain ⟨_, _, _, c3, c4⟩ := sp_cells hS; go_simp; try with_reducible rfl)
                  simp only [Act.put, List.setIfInBounds_toArray, List.set_cons_zero, List.set_cons_succ]
                  refine wpL_guarded (v := ?_) rfl (fun w' hS => ?_) ?_
                  rotate_left
                  · (obtain ⟨_, hS⟩ := hS; obtain ⟨_, _, _, c3, c4⟩ := sp_cells hS; go_simp; try with_reducible rfl)
                  simp only [Act.put, List.setIfInBounds_toArray, List.set_cons_zero, List.set_cons_succ]
                  refine wpL_guarded (v := ?_) rfl (fun w' hS => ?_) ?_
                  rotate_left
                  · (obtain ⟨_, hS⟩ := hS; obtain ⟨_, _, _, c3, c4⟩ := sp_cells hS; go_simp; try with_reducible rfl)
                  simp only [Act.put, List.setIfInBounds_toArray, List.set_cons_zero, List.set_cons_succ]
                  refine wpL_guarded (v := ?_) rfl (fun w' hS => ?_) ?_
                  rotate_left
                  · (obtain ⟨_, hS⟩ := hS; obtain ⟨_, _, _, c3, c4⟩ := sp_cells hS; go_simp; try with_reducible rfl)
                  simp only [Act.put, List.setIfInBounds_toArray, List.set_cons_zero, List.set_cons_succ]
                  refine wpL_guarded (v := ?_) rfl (fun w' hS => ?_) ?_
                  rotate_left
                  · (obtain ⟨_, hS⟩ := hS; obtain ⟨_, _, _, c3, c4⟩ := sp_cells hS; go_simp; try with_reducible rfl)
                  simp only [Act.put, List.setIfInBounds_toArray, List.set_cons_zero, List.set_cons_succ]
                  refine wpL_guarded (v := ?_) rfl (fun w' hS => ?_) ?_
                  rotate_left
                  · (obtain ⟨_, hS⟩ := hS; obtain ⟨_, _, _, c3, c4⟩ := sp_cells hS; go_simp; try with_reducible rfl)
                  simp only [Act.put, List.setIfInBounds_toArray, List.set_cons_zero, List.set_cons_succ]
                  refine wpL_guarded (v := ?_) rfl (fun w' hS => ?_) ?_
                  rotate_left
                  · (obtain ⟨_, hS⟩ := hS; obtain ⟨_, _, _, c3, c4⟩ := sp_cells hS; go_simp; try with_reducible rfl)
                  simp only [Act.put, List.setIfInBounds_toArray, List.set_cons_zero, List.set_cons_succ]
                  refine wpL_guarded (v := ?_) rfl (fun w' hS => ?_) ?_
                  rotate_left
                  · (obtain ⟨_, hS⟩ := hS; obtain ⟨_, _, _, c3, c4⟩ := sp_cells hS; go_simp; try with_reducible rfl)
                  simp only [Act.put, List.setIfInBounds_toArray, List.set_cons_zero, List.set_cons_succ]
                  refine wpL_guarded (v := ?_) rfl (fun w' hS => ?_) ?_
                  rotate_left
                  · (obtain ⟨_, hS⟩ := hS; obtain ⟨_, _, _, c3, c4⟩ := sp_cells hS; go_simp; try with_reducible rfl)
                  simp only [Act.put, List.setIfInBounds_toArray, List.set_cons_zero, List.set_cons_succ]
                  refine wpL_guarded (v := ?_) rfl (fun w' hS => ?_) ?_
                  rotate_left
                  · (obtain ⟨_, hS⟩ := hS; obtain ⟨_, _, _, c3, c4⟩ := sp_cells hS; go_simp; try with_reducible rfl)
                  simp only [Act.put, List.setIfInBounds_toArray, List.set_cons_zero, List.set_cons_succ]
                  refine wpL_guarded (v := ?_) rfl (fun w' hS => ?_) ?_
                  rotate_left
                  · (obtain ⟨_, hS⟩ := hS; obtain ⟨_, _, _, c3, c4⟩ := sp_cells hS; go_simp; try with_reducible rfl)
                  simp only [Act.put, List.setIfInBounds_toArray, List.set_cons_zero, List.set_cons_succ]
                  refine wpL_guarded (v := ?_) rfl (fun w' hS => ?_) ?_
                  rotate_left
                  · (obtain ⟨_, hS⟩ := hS; obtain ⟨_, _, _, c3, c4⟩ := sp_cells hS; go_simp; try with_reducible rfl)
                  simp only [Act.put, List.setIfInBounds_toArray, List.set_cons_zero, List.set_cons_succ]
                  refine wpL_guarded (v := ?_) rfl (fun w' hS => ?_) ?_
                  rotate_left
                  · (obtain ⟨_, hS⟩ := hS; obtain ⟨_, _, _, c3, c4⟩ := sp_cells hS; go_simp; try with_reducible rfl)
                  simp only [Act.put, List.setIfInBounds_toArray, List.set_cons_zero, List.set_cons_succ]
                  refine wpL_nil ?_
                  refine wpL_nil ?_
                  go_wp2_with fail
                  refine Hset.out.mono ?_
                  rintro e w9 ⟨rfl, h9⟩
                  obtain ⟨c, x, hok, h10⟩ := Bears.sp.1 h9
                  have Hok := Lib.hid hok
                  clear hok
                  go_wp2_with (first
                    | (refine wpList_alloc_z rfl rfl (z_asec _) ?_))
                  have h11 := h10.alloc (.cells (cellsV zeroSec).toArray 71)
                  refine wp_region_L (fun w' => ∃ Q, Bears w' (spObj s c x len * Q)) 9 [(true, 0), (true, 1), (true, 2), (true, 3), (true, 4), (true, 5), (true, 6), (false, 7), (true, 8)] [(true, 9)] (by kernel_rfl) (by kernel_rfl) ⟨_, h11.right.drew⟩ ?_
                  simp only [pick, List.getElem?_cons_zero, List.getElem?_cons_succ]
                  refine wpL_guarded (v := ?_) rfl (fun w' hS => ?_) ?_
                  rotate_left
                  · (obtain ⟨_, hS⟩ := hS; obtain ⟨k0, _, _, _, _⟩ := sp_cells hS; go_simp; try with_reducible rfl)
                  simp only [Act.put, List.setIfInBounds_toArray, List.set_cons_zero, List.set_cons_succ]
                  refine wpL_guarded (v := ?_) rfl (fun w' hS => ?_) ?_
                  rotate_left
                  · (obtain ⟨_, hS⟩ := hS; obtain ⟨k0, _, _, _, _⟩ := sp_cells hS; go_simp; try with_reducible rfl)
                  simp only [Act.put, List.setIfInBounds_toArray, List.set_cons_zero, List.set_cons_succ]
                  refine wpL_guarded (v := ?_) rfl (fun w' hS => ?_) ?_
                  rotate_left
                  · (obtain ⟨_, hS⟩ := hS; obtain ⟨k0, _, _, _, _⟩ := sp_cells hS; go_simp; try with_reducible rfl)
                  simp only [Act.put, List.setIfInBounds_toArray, List.set_cons_zero, List.set_cons_succ]
                  refine wpL_guarded (v := ?_) rfl (fun w' hS => ?_) ?_
                  rotate_left
                  · (obtain ⟨_, hS⟩ := hS; obtain ⟨k0, _, _, _, _⟩ := sp_cells hS; go_simp; try with_reducible rfl)
                  simp only [Act.put, List.setIfInBounds_toArray, List.set_cons_zero, List.set_cons_succ]
                  refine wpL_guarded (v := ?_) rfl (fun w' hS => ?_) ?_
                  rotate_left
                  · (obtain ⟨_, hS⟩ := hS; obtain ⟨k0, _, _, _, _⟩ := sp_cells hS; go_simp; try with_reducible rfl)
                  simp only [Act.put, List.setIfInBounds_toArray, List.set_cons_zero, List.set_cons_succ]
                  refine wpL_guarded (v := ?_) rfl (fun w' hS => ?_) ?_
                  rotate_left
                  · (obtain ⟨_, hS⟩ := hS; obtain ⟨k0, _, _, _, _⟩ := sp_cells hS; go_simp; try with_reducible rfl)
                  simp only [Act.put, List.setIfInBounds_toArray, List.set_cons_zero, List.set_cons_succ]
                  refine wpL_guarded (v := ?_) rfl (fun w' hS => ?_) ?_
                  rotate_left
                  · (obtain ⟨_, hS⟩ := hS; obtain ⟨k0, _, _, _, _⟩ := sp_cells hS; go_simp; try with_reducible rfl)
                  simp only [Act.put, List.setIfInBounds_toArray, List.set_cons_zero, List.set_cons_succ]
                  refine wpL_effG rfl ?_
                  go_simp
                  have h12 : Bears _ (cvA c p x len 1 620 F _ (_ :: k) true * (diskA p d * (Assn.obj w9.heap.size (.cells (cellsV zeroSec).toArray 71 (0, 0)) * (spObj s c x len * (walObj x p 1 620 (g : Int) * (rowA 5 1 (.slice (some ⟨rg, 0, none⟩) 64 cap) 64 (cellsV r) * R)))))) := h11.drew.cast (by ac_rfl)
                  have hw := vwrite_any (i := (n : Int)) (b := zeroSec) (ad := some ⟨w9.heap.size, 0, none⟩) (n := 64) (cap := 64) h12 Hok.out.size (BytesIn.tells _ _ rfl) rfl (by omega) (by have := Hn1.out; omega) (by have := Hn1.out; omega)
                  rw [Int.toNat_natCast] at hw
                  refine hw.mono ?_
                  rintro e w13 ⟨rfl, h13⟩
                  have h14 : Bears w13 (spA s p d len g (n :: (621 + n / 512) :: k) true F (updS (updS G (621 + n / 512) (secSet (G (621 + n / 512)) (n % 512) true)) n zeroSec) * (Assn.obj w9.heap.size (.cells (cellsV zeroSec).toArray 71 (0, 0)) * (rowA 5 1 (.slice (some ⟨rg, 0, none⟩) 64 cap) 64 (cellsV r) * R))) :=
                    Bears.sp.2 ⟨c, x, Hok.out.put _ rfl, h13.cast (by ac_rfl)⟩
                  refine ⟨⟨_, (h13.cast (by ac_rfl) : Bears _ (spObj s c x len * (cvA c p x len 1 620 F _ (_ :: _ :: k) true * (diskA p d * (Assn.obj w9.heap.size (.cells (cellsV zeroSec).toArray 71 (0, 0)) * (walObj x p 1 620 (g : Int) * (rowA 5 1 (.slice (some ⟨rg, 0, none⟩) 64 cap) 64 (cellsV r) * R)))))))⟩, ?_⟩
                  refine wpL_guarded (v := ?_) rfl (fun w' hS => ?_) ?_
                  rotate_left
                  · (go_simp; try with_reducible rfl)
                  simp only [Act.put, List.setIfInBounds_toArray, List.set_cons_zero, List.set_cons_succ]
                  refine wpL_nil ?_
                  refine wpL_yield (v := ?_) rfl (fun w' hS => ?_) ?_
                  rotate_left
                  · (go_simp; try with_reducible rfl)
                  simp only [Act.put, List.setIfInBounds_toArray]
                  refine wpL_nil ?_
                  go_wp2_with fail
                  go_ret2
                  exact .inl ⟨n, Hn1.out.1, Hn1.out.2, Hbn.out, Hfulln.out, rfl, h14.pull2.right.pull2.right⟩
        · obtain rfl : j = 64 := by omega
          go_wp2_with fail
          go_roundw
          case rel => exact ⟨i + 1, hlt, by go_num, by have := Hfu.out; rwa [show 512 * (i + 1) = 512 * i + 8 * 64 by omega], h6.right⟩
          case measure => simp [intOf]; omega
    · obtain rfl : i = mp := by omega
      go_wp2_with fail
      go_ret2
      exact .inr ⟨fun m hm h1 h2 => Hfu.out m (by omega) h1 h2, rfl, h2⟩

end Go.Proofs.YtcggloceabjjdaaGreat

/- Walks of the space's functions, part 10: clean, Format's literals; no condition. -/
namespace Go.Proofs.YtcggloceabjjdaaGreat
open Go.RowKit Go.MapKept

structure DiskM.Plain (d : DiskM) : Prop where
  off : d.off = false
  fuse : d.fuse = -1

def DiskM.put (d : DiskM) (i : Nat) (s : Sec) : DiskM := { d with waits := d.waits ++ [(i, s)], steps := wrap64 (d.steps + 1) }
def DiskM.bar (d : DiskM) : DiskM := { d with sure := d.now, waits := [], steps := wrap64 (d.steps + 1) }

theorem DiskM.Plain.step {d : DiskM} (h : d.Plain) : d.step = (0, { d with steps := wrap64 (d.steps + 1) }) := by
  simp [DiskM.step, h.fuse]
theorem DiskM.Plain.check {d : DiskM} (h : d.Plain) {i : Nat} (hi : i < d.len) : d.check (i : Int) = 0 := by
  unfold DiskM.check
  rw [h.off, if_neg (by simp), if_neg (by omega)]
theorem DiskM.Plain.write {d : DiskM} (h : d.Plain) {i : Nat} (hi : i < d.len) {s : Sec} (hs : s.length = 64) : d.write (i : Int) s = (0, d.put i s) := by
  simp only [DiskM.write, h.check hi, hs, h.step]
  simp [DiskM.put]
theorem DiskM.Plain.write' {d : DiskM} (h : d.Plain) {i : Int} {n : Nat} (e : i = n) (hi : n < d.len) {s : Sec} (hs : s.length = 64) : d.write i s = (0, d.put n s) := by
  subst e; exact h.write hi hs
theorem DiskM.Plain.barrier {d : DiskM} (h : d.Plain) : d.barrier = (0, d.bar) := by
  simp only [DiskM.barrier, h.off, h.step]
  simp [DiskM.bar, h.off]
theorem DiskM.Plain.put {d : DiskM} (h : d.Plain) (i : Nat) (s : Sec) : (d.put i s).Plain := ⟨h.off, h.fuse⟩
theorem DiskM.Plain.bar {d : DiskM} (h : d.Plain) : d.bar.Plain := ⟨h.off, h.fuse⟩

theorem z_asec' (w : World) : (zeroValue 71).run Tryz.prog w = .ok (.agg (cellsV zeroSec).toArray) w := z_asec w
theorem now_put (d : DiskM) (i : Nat) (b : Sec) : (d.put i b).now = updS d.now i b := by
  simp [DiskM.put, DiskM.now, settle, List.foldl_append]
theorem now_bar (d : DiskM) : d.bar.now = d.now := rfl
def cleanD (d : DiskM) : Nat → DiskM
  | 0 => d
  | n + 1 => (cleanD d n).put (621 + n) zeroSec
theorem cleanD_is {d : DiskM} (h : d.Plain) : ∀ n, (cleanD d n).Plain ∧ (cleanD d n).len = d.len ∧ (cleanD d n).sure = d.sure ∧ (cleanD d n).waits.length = d.waits.length + n ∧
    (∀ i, (cleanD d n).now i = if 621 ≤ i ∧ i < 621 + n then zeroSec else d.now i)
  | 0 => ⟨h, rfl, rfl, rfl, fun i => by rw [if_neg (by omega)]; rfl⟩
  | n + 1 => by
    obtain ⟨h1, h2, h3, h4, h5⟩ := cleanD_is h n
    refine ⟨h1.put _ _, h2, h3, by simp [cleanD, DiskM.put, h4]; omega, fun i => ?_⟩
    show ((cleanD d n).put (621 + n) zeroSec).now i = _
    rw [now_put]
    unfold updS
    rw [h5]
    by_cases hi : i = 621 + n
    · rw [if_pos hi, if_pos (by omega)]
    · rw [if_neg hi]
      by_cases hj : 621 ≤ i ∧ i < 621 + n
      · rw [if_pos hj, if_pos (by omega)]
      · rw [if_neg hj, if_neg (by omega)]

set_option maxRecDepth 100000 in
set_option maxHeartbeats 1000000 in
theorem clean_any {p : Nat} {d : DiskM} {R : Assn} {w : World} (h : Bears w (diskA p d * R)) (hd : d.Plain) {f : Nat} (hf : f ≤ d.len) (hl : d.len ≤ 8192) (h621 : 621 ≤ f) (hroom : d.waits.length + 10000 < 1099511627776) :
    Calls Tryz.prog 76 #[.pointer (some ⟨p, 0, none⟩), .int .i64 f] w fun e w' => e = .returned (.int .i64 0) ∧ Bears w' (diskA p (cleanD d (f - 621)) * R) := by
  have h1 := h.alloc (.cells (cellsV zeroSec).toArray 71)
  have Hd := Lib.hid hd
  clear h hd
  go_enter Tryz.func76, Tryz.ntmps76
  go_wp2_with (first
    | (refine wpList_alloc_z rfl rfl (z_asec' _) ?_))
  go_loopw [6] (fun iv wr => ∃ k : Nat, k ≤ f - 621 ∧ iv = .int .i64 ((621 + k : Nat) : Int) ∧ Bears wr (Assn.obj w.heap.size (.cells (cellsV zeroSec).toArray 71 (0, 0)) * (diskA p (cleanD d k) * R))) (fun iv _ => f - (intOf iv).toNat)
  case atStart => exact ⟨0, by omega, rfl, h1⟩
  case round =>
    clear h1
    obtain ⟨k, hk, rfl, h2⟩ := hrel
    obtain ⟨c1, c2, c3, c4, c5⟩ := cleanD_is Hd.out k
    by_cases hlt : k < f - 621
    · have hfi : ((621 + k : Nat) : Int) < (f : Int) := by omega
      have hw := write_to (l := zeroSec) (ad := some ⟨w.heap.size, 0, none⟩) (n := 64) (cap := 64) h2.pull2 (c1.write (i := 621 + k) (by rw [c2]; omega) rfl) (BytesIn.tells _ _ rfl) (by rw [c4]; omega)
      have Hw := Lib.hid hw
      clear c1 c2 c3 c4 c5 hw
      go_wp2_with fail
      refine Hw.out.mono ?_
      rintro e w3 ⟨rfl, h3⟩
      go_wp2_with fail
      go_roundw
      case rel => exact ⟨k + 1, hlt, by go_num, h3.pull2⟩
      case measure => simp [intOf]; omega
    · obtain rfl : k = f - 621 := by omega
      have hfi : ¬ ((621 + (f - 621) : Nat) : Int) < (f : Int) := by omega
      go_wp2_with fail
      go_ret
      exact ⟨rfl, h2.right⟩

abbrev boxA (b : Nat) (v : Value) (t : TypeId) : Assn := Assn.obj b (.cells #[v] t (0, 0))
abbrev ptrB (p : Nat) : Value := .pointer (some ⟨p, 0, none⟩)

set_option maxRecDepth 100000 in
set_option maxHeartbeats 400000 in
theorem format1_any {p b z : Nat} {d : DiskM} {R : Assn} {w : World} (h : Bears w (diskA p d * (boxA b (ptrB p) 24 * (Assn.obj z (.cells (cellsV zeroSec).toArray 71 (0, 0)) * R)))) (hd : d.Plain) (hl : 0 < d.len) (hroom : d.waits.length + 10000 < 1099511627776) :
    Calls Tryz.prog 70 #[ptrB b, ptrB z] w fun e w' => e = .returned (.int .i64 0) ∧ Bears w' (diskA p (d.put 0 zeroSec) * (boxA b (ptrB p) 24 * (Assn.obj z (.cells (cellsV zeroSec).toArray 71 (0, 0)) * R))) := by
  have hw := write_to (l := zeroSec) (ad := some ⟨z, 0, none⟩) (n := 64) (cap := 64) h.drew (hd.write' (i := 0) (n := 0) rfl hl rfl) (fun w' hw' => BytesIn.tells _ _ rfl w' hw'.right) (by omega)
  have Hw := Lib.hid hw
  have c0 : w.drew.cell? ⟨b, 0, none⟩ = some (ptrB p) := cell_of_obj h.drew.pull2.obj 0
  have c0' : w.cell? ⟨b, 0, none⟩ = some (ptrB p) := cell_of_obj h.pull2.obj 0
  clear hw h hd
  go_enter Tryz.func70, Tryz.ntmps70
  go_wp2_with fail
  refine wp_region_tail 2 (by kernel_rfl) (by kernel_rfl) ?_
  simp only [List.take_succ_cons, List.take_zero, List.drop_succ_cons, List.drop_zero]
  iterate 2 still_step
  refine wpStill_nil ?_
  go_wp2_with fail
  refine Hw.out.mono ?_
  rintro e w3 ⟨rfl, h3⟩
  go_wp2_with fail
  go_ret
  exact ⟨rfl, h3⟩

set_option maxRecDepth 100000 in
set_option maxHeartbeats 400000 in
theorem format2_any {p b : Nat} {d d' : DiskM} {R : Assn} {w : World} (h : Bears w (diskA p d * (boxA b (ptrB p) 24 * R))) (heq : wFormat d 1 620 = (0, d')) (hroom : d.waits.length + 10000 < 1099511627776) :
    Calls Tryz.prog 73 #[ptrB b] w fun e w' => e = .returned (.int .i64 0) ∧ Bears w' (diskA p d' * (boxA b (ptrB p) 24 * R)) := by
  have hw := format_to h heq (by omega) (by omega) (by omega)
  have Hw := Lib.hid hw
  have c0' : w.cell? ⟨b, 0, none⟩ = some (ptrB p) := cell_of_obj h.pull2.obj 0
  clear hw h heq
  go_enter Tryz.func73, Tryz.ntmps73
  go_wp2_with fail
  refine Hw.out.mono ?_
  rintro e w3 ⟨rfl, h3⟩
  go_wp2_with fail
  go_ret
  exact ⟨rfl, h3⟩

set_option maxRecDepth 100000 in
set_option maxHeartbeats 400000 in
theorem format3_any {p b c : Nat} {d : DiskM} {R : Assn} {w : World} {f : Nat} (h : Bears w (diskA p d * (boxA b (ptrB p) 24 * (boxA c (.int .i64 f) 3 * R)))) (hd : d.Plain) (hf : f ≤ d.len) (hl : d.len ≤ 8192) (h621 : 621 ≤ f) (hroom : d.waits.length + 10000 < 1099511627776) :
    Calls Tryz.prog 75 #[ptrB b, ptrB c] w fun e w' => e = .returned (.int .i64 0) ∧ Bears w' (diskA p (cleanD d (f - 621)) * (boxA b (ptrB p) 24 * (boxA c (.int .i64 f) 3 * R))) := by
  have hw := clean_any h hd hf hl h621 hroom
  have Hw := Lib.hid hw
  have c0' : w.cell? ⟨b, 0, none⟩ = some (ptrB p) := cell_of_obj h.pull2.obj 0
  have c1' : w.cell? ⟨c, 0, none⟩ = some (.int .i64 f) := cell_of_obj h.pull3.obj 0
  clear hw h hd
  go_enter Tryz.func75, Tryz.ntmps75
  go_wp2_with fail
  refine Hw.out.mono ?_
  rintro e w3 ⟨rfl, h3⟩
  go_wp2_with fail
  go_ret
  exact ⟨rfl, h3⟩

set_option maxRecDepth 100000 in
set_option maxHeartbeats 400000 in
theorem format4_any {p b : Nat} {d : DiskM} {R : Assn} {w : World} (h : Bears w (diskA p d * (boxA b (ptrB p) 24 * R))) (hd : d.Plain) (hl : 0 < d.len) (hl2 : d.len ≤ 8192) (hroom : d.waits.length + 10000 < 1099511627776) :
    Calls Tryz.prog 77 #[ptrB b] w fun e w' => e = .returned (.int .i64 0) ∧ Bears w' (diskA p (d.put 0 (superB d.len)) * (boxA b (ptrB p) 24 * R)) := by
  have c0' : w.cell? ⟨b, 0, none⟩ = some (ptrB p) := cell_of_obj h.pull2.obj 0
  have Hd := Lib.hid hd
  clear hd
  go_enter Tryz.func77, Tryz.ntmps77
  go_wp2_with fail
  refine (len_any h).mono ?_
  rintro e w1 ⟨rfl, rfl⟩
  go_wp2_with fail
  refine (super_any h d.len (by omega)).mono ?_
  rintro e w2 ⟨rfl, h2⟩
  have h3 := h2.alloc (.cells (cellsV zeroSec).toArray 71)
  have hsz : (cellsV (superB d.len)).toArray.size = (cellsV zeroSec).toArray.size := by simp [superB_length, zeroSec]
  have hin : (Tryz.prog.info? 71).map (·.size) = some (cellsV zeroSec).toArray.size := i_asec
  have hon : ∀ v ∈ (cellsV (superB d.len)).toArray.toList, v.oneCell' = true := fun v hv => oneCell_cellsV _ v (by simpa using hv)
  have hs64 := superB_length d.len
  obtain ⟨sb, hsb⟩ : ∃ sb, superB d.len = sb := ⟨_, rfl⟩
  rw [hsb] at hsz hon hs64 ⊢
  have Hsb := Lib.hid hsb
  clear hsb h
  go_wp2_with (first
    | (refine wpList_alloc_z rfl rfl (z_asec' _) ?_)
    | (refine wpList_store_obj h3 rfl rfl rfl rfl hsz hin hon ?_; intro w4 h4))
  have hw := write_to (l := sb) (ad := some ⟨w2.heap.size, 0, none⟩) (n := 64) (cap := 64) h4.pull2.drew (Hd.out.write' (i := 0) (n := 0) rfl hl hs64) (BytesIn.tells _ _ hs64.symm) (by omega)
  have Hw := Lib.hid hw
  have c1 : w4.drew.cell? ⟨b, 0, none⟩ = some (ptrB p) := cell_of_obj h4.drew.pull3.obj 0
  clear hw
  refine wp_region_tail 2 (by kernel_rfl) (by kernel_rfl) ?_
  simp only [List.take_succ_cons, List.take_zero, List.drop_succ_cons, List.drop_zero]
  iterate 2 still_step
  refine wpStill_nil ?_
  go_wp2_with fail
  refine Hw.out.mono ?_
  rintro e w3 ⟨rfl, h3⟩
  go_wp2_with fail
  go_ret
  rw [Hsb.out]
  exact ⟨rfl, h3.pull2.right⟩

end Go.Proofs.YtcggloceabjjdaaGreat
