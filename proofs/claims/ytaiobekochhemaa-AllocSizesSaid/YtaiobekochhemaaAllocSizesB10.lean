/- Texts of this claim, put together: AllocW12, AllocW13, AllocP, AllocT, ALawA, ALawB, SizesW, RowB; no condition. -/
import Derived.Test.YtaiobekochhemaaAllocSizesB9
import Derived.ChangeKeysEq

/- Sectors that are compared; Open; no condition. -/
namespace Go.Proofs.Ytaiobekochhemaa
open Go.RowKit Go.MapKept

theorem beq_toNat (x y : UInt8) : ((x.toNat : Int) == (y.toNat : Int)) = (x == y) := by
  rw [Bool.eq_iff_iff, beq_iff_eq, beq_iff_eq]
  constructor
  · intro h
    exact UInt8.toNat_inj.1 (by omega)
  · rintro h; rw [h]
theorem all_range {a b : List UInt8} {n : Nat} (ha : a.length = n) (hb : b.length = n) : ((List.range n).all fun i => a.getD i 0 == b.getD i 0) = decide (a = b) := by
  rw [Bool.eq_iff_iff, decide_eq_true_iff, List.all_eq_true]
  constructor
  · intro h
    refine List.ext_getElem (by omega) (fun j h1 h2 => ?_)
    have := h j (by simp; omega)
    rw [beq_iff_eq] at this
    simpa [h1, h2] using this
  · rintro rfl j _
    simp

theorem run_eqItems_bytes (w : World) (d : Nat) (a b : List UInt8) (is : List Nat) (hi : ∀ i ∈ is, i < a.length ∧ i < b.length) :
    (Op.eqItems (d + 1) 5 (Try.prog.cellsOf 5) (cellsV a).toArray (cellsV b).toArray is).run Try.prog w = .ok (is.all fun i => a.getD i 0 == b.getD i 0) w := by
  induction is with
  | nil => simp [Op.eqItems]
  | cons i is ih =>
    have h1 := (hi i (by simp)).1
    have h2 := (hi i (by simp)).2
    have hc : Try.prog.cellsOf 5 = 1 := by kernel_rfl
    have p1 : (part 5 (cellsV a).toArray (i * 1)).run Try.prog w = .ok (byteV (a.getD i 0)) w := run_part_plain w (by kernel_rfl) (by simp [cellsV, h1])
    have p2 : (part 5 (cellsV b).toArray (i * 1)).run Try.prog w = .ok (byteV (b.getD i 0)) w := run_part_plain w (by kernel_rfl) (by simp [cellsV, h2])
    have p3 : (Op.equalIn (d + 1) 5 (byteV (a.getD i 0)) (byteV (b.getD i 0))).run Try.prog w = .ok (a.getD i 0 == b.getD i 0) w := by
      unfold byteV
      rw [run_equalIn_int w d 5 .u8 .u8 _ _ Try.underlying5]
      rw [beq_toNat]
    have ih' := ih (fun j hj => hi j (by simp [hj]))
    rw [hc] at ih' ⊢
    simp only [Op.eqItems, Sem.run_bind, p1, p2, p3, Result.andThen_ok, List.all_cons]
    cases a.getD i 0 == b.getD i 0
    · simp
    · simpa using ih'

theorem neq_sec (w : World) (a b : Sec) (ha : a.length = 64) (hb : b.length = 64) : (binOp .neq 94 (.agg (cellsV a).toArray) (.agg (cellsV b).toArray)).run Try.prog w = .ok (.bool (!decide (a = b))) w := by
  obtain ⟨i, hi⟩ : ∃ i, Try.prog.info? 5 = some i := Option.isSome_iff_exists.1 (by kernel_rfl)
  rw [run_neq_struct, run_equalIn_array w 9999 _ _ u_asec hi, run_eqItems_bytes w 9998 a b _ (fun j hj => by simp at hj; omega)]
  simp only [Result.andThen_ok]
  rw [all_range ha hb]

set_option maxRecDepth 100000 in
set_option maxHeartbeats 400000 in
theorem space_args {p : Nat} {d : DiskM} {R : Assn} {w : World} (h : Bears w (diskA p d * R)) (hl : d.len < 1024 ∨ 8192 < d.len) (hb : d.len ≤ 8192) :
    Calls Try.prog 16 #[ptrB p] w fun e w' => e = .returned (.tuple #[.pointer none, .int .i64 1]) ∧ w' = w := by
  have e1 : firstN (d.len : Int) = 0 := by unfold firstN; rw [if_pos (by omega)]
  have E1 := Lib.hid e1
  clear e1
  go_enter Try.func16, Try.ntmps16
  go_wp2_with fail
  refine (len_any h).mono ?_
  rintro e w1 ⟨rfl, rfl⟩
  go_wp2_with fail
  refine (first_any (d.len : Int) _ (by omega)).mono ?_
  rintro e w2 ⟨rfl, rfl⟩
  rw [E1.out]
  go_wp2_with fail
  go_ret2
  exact ⟨rfl, rfl⟩

set_option maxRecDepth 100000 in
set_option maxHeartbeats 400000 in
theorem format_args {p : Nat} {d : DiskM} {R : Assn} {w : World} (h : Bears w (diskA p d * R)) (hl : d.len < 1024 ∨ 8192 < d.len) (hb : d.len ≤ 8192) :
    Calls Try.prog 17 #[ptrB p] w fun e w' => e = .returned (.int .i64 1) ∧ Bears w' (diskA p d * R) := by
  have e1 : firstN (d.len : Int) = 0 := by unfold firstN; rw [if_pos (by omega)]
  have E1 := Lib.hid e1
  have hb1 := (h.alloc (.cells #[ptrB p] 23))
  clear e1 h
  go_enter Try.func17, Try.ntmps17
  go_wp2_with fail
  refine (len_any hb1.pull2).mono ?_
  rintro e w1 ⟨rfl, rfl⟩
  go_wp2_with fail
  refine (first_any (d.len : Int) _ (by omega)).mono ?_
  rintro e w2 ⟨rfl, rfl⟩
  rw [E1.out]
  have hb2 := hb1.alloc (.cells #[.int .i64 0] 3)
  go_wp2_with fail
  go_ret
  exact ⟨rfl, hb2.right.right⟩

set_option maxRecDepth 100000 in
set_option maxHeartbeats 1000000 in
theorem space_none {p : Nat} {d : DiskM} {R : Assn} {w : World} (h : Bears w (diskA p d * R)) (ho : d.off = false) (hlo : 1024 ≤ d.len) (hhi : d.len ≤ 8192) {s0 : Sec} (hs0 : d.now 0 = s0) (hs64 : s0.length = 64) (hne : s0 ≠ superB d.len) :
    Calls Try.prog 16 #[ptrB p] w fun e w' => e = .returned (.tuple #[.pointer none, .int .i64 4]) ∧ Bears w' (diskA p d * R) := by
  have hfn := firstN_eq hlo hhi
  have hf621 : 621 ≤ firstB d.len := by unfold firstB; omega
  have hsl := superB_length d.len
  have hnq : ∀ w, (binOp .neq 94 (.agg (cellsV s0).toArray) (.agg (cellsV (superB d.len)).toArray)).run Try.prog w = .ok (.bool true) w := fun w => by
    rw [neq_sec w _ _ hs64 hsl, decide_eq_false hne]; rfl
  have hck : d.check 0 = 0 := by unfold DiskM.check; rw [ho, if_neg (by simp), if_neg (by omega)]
  have Hnq := Lib.hid hnq
  have H64 := Lib.hid hs64
  have Hs0 := Lib.hid hs0
  have Hfn := Lib.hid hfn
  have Hne := Lib.hid hne
  clear hnq hs64 hs0 hne hfn
  go_enter Try.func16, Try.ntmps16
  go_wp2_with fail
  refine (len_any h).mono ?_
  rintro e w1 ⟨rfl, rfl⟩
  go_wp2_with fail
  refine (first_any (d.len : Int) _ (by omega)).mono ?_
  rintro e w2 ⟨rfl, rfl⟩
  rw [Hfn.out]
  go_wp2_with fail
  refine (read_to 0 h hck Hs0.out).mono ?_
  rintro e w3 ⟨g, rfl, h3⟩
  go_wp2_with fail
  have hap : ∀ w, (Instr.arrayAt 94 (.slice (some ⟨g, 0, none⟩) 64 64)).run Try.prog w = .ok (.pointer (some ⟨g, 0, none⟩)) w := fun w => by kernel_rfl
  have hcl : (Try.prog.info? 94).map (·.size) = some (cellsV s0).length := by rw [length_cellsV, H64.out]; exact i_asec
  have hon : ∀ w, (∃ Q, Bears w (diskA p d * (Assn.obj g (.cells (cellsV s0).toArray 125 (0, 0)) * Q))) → w.rangeAt g 0 (cellsV s0) := fun w ⟨_, hq⟩ => rangeAt_of_obj hq.pull2.obj
  refine wp_region_L (fun w' => ∃ Q, Bears w' (diskA p d * (Assn.obj g (.cells (cellsV s0).toArray 125 (0, 0)) * Q))) 7 [(true, 0), (true, 1), (true, 2), (true, 3), (false, 4), (false, 5), (true, 6)] [] (by kernel_rfl) (by kernel_rfl) ⟨_, h3.pull2.drew⟩ ?_
  simp only [pick, List.getElem?_cons_zero, List.getElem?_cons_succ]
  refine wpL_guarded (v := ?_) rfl (fun w' hS => ?_) ?_
  rotate_left
  · (go_simp; try with_reducible rfl)
  simp only [Act.put, List.setIfInBounds_toArray, List.set_cons_zero, List.set_cons_succ]
  refine wpL_guarded (v := ?_) rfl (fun w' hS => ?_) ?_
  rotate_left
  · (go_simp; try with_reducible rfl)
  simp only [Act.put, List.setIfInBounds_toArray, List.set_cons_zero, List.set_cons_succ]
  refine wpL_load_mid 94 _ rfl rfl g 0 rfl (cellsV s0) _ hon u_asec rfl hcl ?_
  simp only [Act.put, List.setIfInBounds_toArray, List.set_cons_zero, List.set_cons_succ]
  refine wpL_guarded (v := ?_) rfl (fun w' hS => ?_) ?_
  rotate_left
  · (go_simp; try with_reducible rfl)
  simp only [Act.put, List.setIfInBounds_toArray, List.set_cons_zero, List.set_cons_succ]
  refine wpL_effG rfl ?_
  go_simp
  refine (len_any h3.pull2.drew).mono ?_
  rintro e w4 ⟨rfl, rfl⟩
  refine ⟨⟨_, h3.pull2.drew⟩, ?_⟩
  refine wpL_effG rfl ?_
  go_simp
  refine (super_any h3.pull2.drew d.len (by omega)).mono ?_
  rintro e w5 ⟨rfl, h5⟩
  refine ⟨⟨_, h5⟩, ?_⟩
  have hnq := Hnq.out
  have heg : Try.prog.eqGuardType Try.prog.depth 94 = false := by kernel_rfl
  simp only [secV]
  refine wpL_guarded (v := ?_) rfl (fun w' hS => ?_) ?_
  rotate_left
  · (go_simp; try with_reducible rfl)
  simp only [Act.put, List.setIfInBounds_toArray, List.set_cons_zero, List.set_cons_succ]
  refine wpL_nil ?_
  refine wpL_nil ?_
  go_wp2_with fail
  go_ret2
  exact ⟨rfl, h5.pull2.right⟩

set_option maxRecDepth 100000 in
set_option maxHeartbeats 1000000 in
theorem space_opens {p g0 : Nat} {d : DiskM} {F : Nat → Sec} {R : Assn} {w : World} (h : Bears w (diskA p d * R)) (hL : LogOn d 1 620 g0 F) (hf : d.fuse = -1) (hlo : 1024 ≤ d.len) (hhi : d.len ≤ 8192) (hF : F 0 = superB d.len) (h64 : ∀ i, (F i).length = 64) (hg : g0 < 9223372036854775808) :
    Calls Try.prog 16 #[ptrB p] w fun e w' => ∃ s, e = .returned (.tuple #[ptrB s, .int .i64 0]) ∧ Bears w' (spA s p d.len g0 0 false F F * R) := by
  have ho := hL.off
  have hs0 : d.now 0 = superB d.len := by rw [hL.now (by omega)]; exact hF
  have hs64 : (superB d.len).length = 64 := superB_length _
  obtain ⟨hop, hgr⟩ := hL.opens hg
  have hfew := hL.few 20000 (by omega)
  have hsp : SpOk d.len d g0 F F := ⟨hL, rfl, hf, hlo, hhi, h64, h64⟩
  have hfn := firstN_eq hlo hhi
  have hf621 : 621 ≤ firstB d.len := by unfold firstB; omega
  have hfl : firstB d.len ≤ d.len := by unfold firstB mapsN; omega
  have hfm : firstB d.len = 621 + mapsN d.len + 128 := rfl
  have hnq : ∀ w, (binOp .neq 94 (.agg (cellsV (superB d.len)).toArray) (.agg (cellsV (superB d.len)).toArray)).run Try.prog w = .ok (.bool false) w := fun w => by
    rw [neq_sec w _ _ hs64 hs64, decide_eq_true rfl]; rfl
  have hck : d.check 0 = 0 := by unfold DiskM.check; rw [ho, if_neg (by simp), if_neg (by omega)]
  have Hnq := Lib.hid hnq
  have H64 := Lib.hid hs64
  have Hs0 := Lib.hid hs0
  have Hfn := Lib.hid hfn
  have Hop := Lib.hid hop
  have Hgr := Lib.hid hgr
  have Hsp := Lib.hid hsp
  have Hfm := Lib.hid hfm
  clear hnq hs64 hs0 hfn hop hgr hsp hF hfm hf
  go_enter Try.func16, Try.ntmps16
  go_wp2_with fail
  refine (len_any h).mono ?_
  rintro e w1 ⟨rfl, rfl⟩
  go_wp2_with fail
  refine (first_any (d.len : Int) _ (by omega)).mono ?_
  rintro e w2 ⟨rfl, rfl⟩
  rw [Hfn.out]
  go_wp2_with fail
  refine (read_to 0 h hck Hs0.out).mono ?_
  rintro e w3 ⟨g, rfl, h3⟩
  go_wp2_with fail
  have hap : ∀ w, (Instr.arrayAt 94 (.slice (some ⟨g, 0, none⟩) 64 64)).run Try.prog w = .ok (.pointer (some ⟨g, 0, none⟩)) w := fun w => by kernel_rfl
  have hcl : (Try.prog.info? 94).map (·.size) = some (cellsV (superB d.len)).length := by rw [length_cellsV, H64.out]; exact i_asec
  have hon : ∀ w, (∃ Q, Bears w (diskA p d * (Assn.obj g (.cells (cellsV (superB d.len)).toArray 125 (0, 0)) * Q))) → w.rangeAt g 0 (cellsV (superB d.len)) := fun w ⟨_, hq⟩ => rangeAt_of_obj hq.pull2.obj
  refine wp_region_L (fun w' => ∃ Q, Bears w' (diskA p d * (Assn.obj g (.cells (cellsV (superB d.len)).toArray 125 (0, 0)) * Q))) 7 [(true, 0), (true, 1), (true, 2), (true, 3), (false, 4), (false, 5), (true, 6)] [] (by kernel_rfl) (by kernel_rfl) ⟨_, h3.pull2.drew⟩ ?_
  simp only [pick, List.getElem?_cons_zero, List.getElem?_cons_succ]
  refine wpL_guarded (v := ?_) rfl (fun w' hS => ?_) ?_
  rotate_left
  · (go_simp; try with_reducible rfl)
  simp only [Act.put, List.setIfInBounds_toArray, List.set_cons_zero, List.set_cons_succ]
  refine wpL_guarded (v := ?_) rfl (fun w' hS => ?_) ?_
  rotate_left
  · (go_simp; try with_reducible rfl)
  simp only [Act.put, List.setIfInBounds_toArray, List.set_cons_zero, List.set_cons_succ]
  refine wpL_load_mid 94 _ rfl rfl g 0 rfl (cellsV (superB d.len)) _ hon u_asec rfl hcl ?_
  simp only [Act.put, List.setIfInBounds_toArray, List.set_cons_zero, List.set_cons_succ]
  refine wpL_guarded (v := ?_) rfl (fun w' hS => ?_) ?_
  rotate_left
  · (go_simp; try with_reducible rfl)
  simp only [Act.put, List.setIfInBounds_toArray, List.set_cons_zero, List.set_cons_succ]
  refine wpL_effG rfl ?_
  go_simp
  refine (len_any h3.pull2.drew).mono ?_
  rintro e w4 ⟨rfl, rfl⟩
  refine ⟨⟨_, h3.pull2.drew⟩, ?_⟩
  refine wpL_effG rfl ?_
  go_simp
  refine (super_any h3.pull2.drew d.len (by omega)).mono ?_
  rintro e w5 ⟨rfl, h5⟩
  refine ⟨⟨_, h5⟩, ?_⟩
  have hnq := Hnq.out
  have heg : Try.prog.eqGuardType Try.prog.depth 94 = false := by kernel_rfl
  simp only [secV]
  refine wpL_guarded (v := ?_) rfl (fun w' hS => ?_) ?_
  rotate_left
  · (go_simp; try with_reducible rfl)
  simp only [Act.put, List.setIfInBounds_toArray, List.set_cons_zero, List.set_cons_succ]
  refine wpL_nil ?_
  refine wpL_nil ?_
  go_wp2_with fail
  have h6 : Bears w5 (diskA p d * R) := h5.pull2.right
  refine (open_yes h6 Hop.out Hgr.out (by omega) (by omega) hfew).mono ?_
  rintro e w7 ⟨x, rfl, h7⟩
  go_wp2_with fail
  refine (cnew_ok h7 p x 64 (by omega) (by omega)).mono ?_
  rintro e w8 ⟨c, rfl, h8⟩
  go_wp2_with fail
  refine (len_any h8.pull3).mono ?_
  rintro e w9 ⟨rfl, rfl⟩
  go_wp2_with fail
  go_ret2
  have e1 : ((firstB d.len : Int) - 621 - 128) = ((mapsN d.len : Nat) : Int) := by have := Hfm.out; omega
  have e2 : ((d.len : Int) - (firstB d.len : Int)) = ((d.len - firstB d.len : Nat) : Int) := by omega
  rw [e1, e2]
  have h9 := h8.alloc (.cells #[.pointer (some ⟨c, 0, none⟩), .pointer (some ⟨x, 0, none⟩), .int .i64 (mapsN d.len), .int .i64 (firstB d.len), .int .i64 ((d.len - firstB d.len : Nat) : Int)] 97)
  have h10 : Bears _ (cacheA c p x (CacheM.new 64) * (spObj w8.heap.size c x d.len * (diskA p d * (walObj x p 1 620 (g0 : Int) * R)))) := h9.pull2.c34
  have h11 := Bears.cv.2 ⟨CacheM.new 64, CV.new (a := 1) (s := 620) (F := F) (m := 64) hhi, h10⟩
  exact ⟨w8.heap.size, rfl, Bears.sp.2 ⟨c, x, d, Hsp.out, h11.pull2⟩⟩

end Go.Proofs.Ytaiobekochhemaa

/- A new space; a transaction's bound; no condition. -/
namespace Go.Proofs.Ytaiobekochhemaa
open Go.RowKit Go.MapKept

/-- What a new space has. -/
def freshF (n : Nat) : Nat → Sec := updS (fun _ => zeroSec) 0 (superB n)
theorem freshF64 (n i : Nat) : (freshF n i).length = 64 := upd64 (fun _ => rfl) 0 (superB_length n) i

theorem DiskM.new_plain (n : Nat) : (DiskM.new n).Plain := ⟨rfl, rfl⟩
theorem fmtD7 (d d3 : DiskM) (f : Nat) : fmtD d d3 f 7 = ((cleanD d3 (f - 621)).bar.put 0 (superB d.len)).bar := rfl

theorem format_new {p n : Nat} {R : Assn} {w : World} (hlo : 1024 ≤ n) (hhi : n ≤ 8192) (h : Bears w (diskA p (DiskM.new n) * R)) :
    Calls Try.prog 17 #[ptrB p] w fun e w' => ∃ d, e = .returned (.int .i64 0) ∧ LogOn d 1 620 0 (freshF n) ∧ d.fuse = -1 ∧ d.len = n ∧ Bears w' (diskA p d * R) := by
  have hz : ∀ i, ((DiskM.new n).put 0 zeroSec).bar.now i = zeroSec := fun i => by
    rw [now_bar, now_put]
    unfold updS
    split
    · rfl
    · rfl
  obtain ⟨d3, h1, h2, h3, h4⟩ := formats (d := ((DiskM.new n).put 0 zeroSec).bar) (a := 1) (s := 620) (F := fun _ => zeroSec) rfl rfl (by decide) (by show 1 + 620 ≤ n; omega) hhi (fun i _ => hz i)
  have hp3 : d3.Plain := ⟨h2.off, h3⟩
  refine (format_space h (DiskM.new_plain n) hlo hhi (by show 0 + 10000 < 1099511627776; omega) h1 hp3 h4 h2.quiet).mono ?_
  rintro e w' ⟨rfl, h5⟩
  rw [fmtD7, show (DiskM.new n).len = n from rfl] at h5
  rw [show ((DiskM.new n).put 0 zeroSec).bar.len = n from rfl] at h4
  generalize firstB n - 621 = q at h5
  refine ⟨_, rfl, ?_, ?_, ?_, h5⟩
  · obtain ⟨c1, c2, c3, c4, c5⟩ := cleanD_is hp3 q
    have hl : ((cleanD d3 q).bar.put 0 (superB n)).bar.len = n := c2.trans h4
    have hs : ∀ i, ((cleanD d3 q).bar.put 0 (superB n)).bar.sure i = updS (cleanD d3 q).now 0 (superB n) i := fun i => by
      show ((cleanD d3 q).bar.put 0 (superB n)).now i = _
      rw [now_put, now_bar]
    refine ⟨c1.off, rfl, by decide, by rw [hl]; omega, by rw [hl]; omega, ?_, fun i hi => ?_⟩
    · rw [hs]
      unfold updS
      rw [if_neg (by decide), c5, if_neg (by omega), now_quiet h2.quiet]
      exact h2.rest.head
    · rw [hs]
      unfold freshF updS
      by_cases h0 : i = 0
      · rw [if_pos h0, if_pos h0]
      · rw [if_neg h0, if_neg h0, c5]
        split
        · rfl
        · exact h2.now (by omega)
  · exact (cleanD_is hp3 q).1.fuse
  · exact (cleanD_is hp3 q).2.1.trans h4

end Go.Proofs.Ytaiobekochhemaa

/- What a space's bits count; no program in sight. -/
namespace Go.Proofs.Ytaiobekochhemaa
open Go.RowKit Go.MapKept

/-- How many hold, below n. -/
def cntB (f : Nat → Bool) : Nat → Nat
  | 0 => 0
  | n + 1 => cntB f n + (f n).toNat
theorem cntB_add (f : Nat → Bool) (a : Nat) : ∀ b, cntB f (a + b) = cntB f a + cntB (fun i => f (a + i)) b
  | 0 => rfl
  | b + 1 => by
    show cntB f (a + b) + (f (a + b)).toNat = _
    rw [cntB_add f a b]
    simp only [cntB]
    omega
theorem cntB_congr {f g : Nat → Bool} : ∀ n, (∀ i, i < n → f i = g i) → cntB f n = cntB g n
  | 0, _ => rfl
  | n + 1, h => by
    simp only [cntB]
    rw [cntB_congr n (fun i hi => h i (by omega)), h n (by omega)]
theorem cntB_put {f g : Nat → Bool} {m : Nat} : ∀ n, m < n → (∀ i, i < n → i ≠ m → g i = f i) → cntB g n + (f m).toNat = cntB f n + (g m).toNat
  | n + 1, hm, h => by
    simp only [cntB]
    by_cases e : m = n
    · subst e
      rw [cntB_congr m (fun i hi => h i (by omega) (by omega))]
      omega
    · have := cntB_put n (by omega) (fun i hi hne => h i (by omega) hne)
      rw [h n (by omega) (fun h => e h.symm)]
      omega
theorem ones_cnt : ∀ x : Fin 256, Lib.onesCount x.val = cntB (fun b => x.val.testBit b) 8 := by decide +kernel
theorem onesTo_cnt (r : Sec) : ∀ j, onesTo r j = cntB (bitOf r) (8 * j)
  | 0 => rfl
  | j + 1 => by
    have h := ones_cnt ⟨(r.getD j 0).toNat, (r.getD j 0).toNat_lt⟩
    simp only at h
    rw [show 8 * (j + 1) = 8 * j + 8 by omega, cntB_add, ← onesTo_cnt r j]
    have e := cntB_congr (f := fun b => (r.getD j 0).toNat.testBit b) (g := fun i => bitOf r (8 * j + i)) 8 (fun i hi => by
      simp only [bitOf]
      rw [show (8 * j + i) / 8 = j by omega, show (8 * j + i) % 8 = i by omega])
    rw [← e, ← h]
    rfl
theorem usedTo_cnt (G : Nat → Sec) : ∀ i, usedTo G i = cntB (bitN G) (512 * i)
  | 0 => rfl
  | i + 1 => by
    rw [show 512 * (i + 1) = 512 * i + 512 by omega, cntB_add, ← usedTo_cnt G i]
    have e := cntB_congr (f := bitOf (G (621 + i))) (g := fun k => bitN G (512 * i + k)) 512 (fun k hk => by
      simp only [bitN]
      rw [show (512 * i + k) / 512 = i by omega, show (512 * i + k) % 512 = k by omega])
    rw [← e, show 512 = 8 * 64 from rfl, ← onesTo_cnt]
    rfl

theorem bitSet_bits : ∀ (c : Fin 256) (j b : Fin 8) (u : Bool), ((UInt8.ofNat ((c.val - (if c.val.testBit j.val then 2 ^ j.val else 0)) + (if u then 2 ^ j.val else 0))).toNat.testBit b.val) = (if b.val = j.val then u else c.val.testBit b.val) := by decide +kernel
theorem bitOf_set {r : Sec} (hr : r.length = 64) {k : Nat} (hk : k < 512) (u : Bool) (m : Nat) : bitOf (secSet r k u) m = if m = k then u else bitOf r m := by
  unfold bitOf secSet
  have h := bitSet_bits ⟨(r.getD (k / 8) 0).toNat, (r.getD (k / 8) 0).toNat_lt⟩ ⟨k % 8, by omega⟩ ⟨m % 8, by omega⟩ u
  simp only at h
  by_cases e : m / 8 = k / 8
  · have e2 : (r.set (k / 8) (bitSet (r.getD (k / 8) 0) (k % 8) u)).getD (m / 8) 0 = bitSet (r.getD (k / 8) 0) (k % 8) u := by
      rw [e]; simp [List.getD, List.getElem?_set, hr, show k / 8 < 64 by omega]
    rw [e2]
    unfold bitSet
    rw [h, e]
    by_cases e3 : m % 8 = k % 8
    · rw [if_pos e3, if_pos (by omega)]
    · rw [if_neg e3, if_neg (fun h => e3 (by rw [h]))]
  · have e2 : (r.set (k / 8) (bitSet (r.getD (k / 8) 0) (k % 8) u)).getD (m / 8) 0 = r.getD (m / 8) 0 := by
      rw [List.getD_eq_getElem?_getD, List.getElem?_set_ne (fun h => e h.symm), ← List.getD_eq_getElem?_getD]
    rw [e2, if_neg (fun h => e (by rw [h]))]
theorem bitN_set {G : Nat → Sec} (h64 : ∀ i, (G i).length = 64) (n : Nat) (u : Bool) (m : Nat) :
    bitN (updS G (621 + n / 512) (secSet (G (621 + n / 512)) (n % 512) u)) m = if m = n then u else bitN G m := by
  unfold bitN updS
  by_cases e : m / 512 = n / 512
  · rw [if_pos (by omega), bitOf_set (h64 _) (by omega), e]
    by_cases e2 : m = n
    · rw [if_pos (by omega), if_pos e2]
    · rw [if_neg (by omega), if_neg e2]
  · rw [if_neg (by omega), if_neg (fun h => e (by rw [h]))]
theorem bitN_other {G : Nat → Sec} {i : Nat} {b : Sec} {m : Nat} (h : 621 + m / 512 ≠ i) : bitN (updS G i b) m = bitN G m := by
  unfold bitN updS
  rw [if_neg h]

end Go.Proofs.Ytaiobekochhemaa

/- The space's functions, with what they answer named; no condition. -/
namespace Go.Proofs.Ytaiobekochhemaa
open Go.RowKit Go.MapKept

/-- A block that is taken, or given back. -/
def allocG (G : Nat → Sec) (n : Nat) : Nat → Sec := updS (updS G (621 + n / 512) (secSet (G (621 + n / 512)) (n % 512) true)) n zeroSec
def freeG (G : Nat → Sec) (n : Nat) : Nat → Sec := updS G (621 + n / 512) (secSet (G (621 + n / 512)) (n % 512) false)
theorem map_lt {len m : Nat} (hm : m < len) : 621 + m / 512 < 621 + mapsN len := by unfold mapsN; omega
theorem bitN_alloc {G : Nat → Sec} {len n : Nat} (h64 : ∀ i, (G i).length = 64) (hn : firstB len ≤ n) (m : Nat) (hm : m < len) : bitN (allocG G n) m = if m = n then true else bitN G m := by
  unfold allocG
  rw [bitN_other (by have := map_lt hm; unfold firstB at hn; omega), bitN_set h64]
theorem bitN_free {G : Nat → Sec} {n : Nat} (h64 : ∀ i, (G i).length = 64) (m : Nat) : bitN (freeG G n) m = if m = n then false else bitN G m := by
  unfold freeG
  rw [bitN_set h64]
theorem secSet64 {r : Sec} (h : r.length = 64) (k : Nat) (u : Bool) : (secSet r k u).length = 64 := by simp [secSet, h]
theorem alloc64 {G : Nat → Sec} (h64 : ∀ i, (G i).length = 64) (n i : Nat) : (allocG G n i).length = 64 :=
  upd64 (upd64 h64 _ (secSet64 (h64 _) _ _)) n rfl i
theorem free64 {G : Nat → Sec} (h64 : ∀ i, (G i).length = 64) (n i : Nat) : (freeG G n i).length = 64 := upd64 h64 _ (secSet64 (h64 _) _ _) i

theorem salloc_at {s p len g k : Nat} {F G : Nat → Sec} {R : Assn} {w : World} (h : Bears w (spA s p len g k true F G * R)) {n : Nat} (hn : firstB len ≤ n) (hn2 : n < len) (hf : bitN G n = false) (hfull : ∀ m, firstB len ≤ m → m < n → bitN G m = true) :
    Calls Try.prog 49 #[.pointer (some ⟨s, 0, none⟩)] w fun e w' => e = .returned (.tuple #[.int .i64 n, .int .i64 0]) ∧ Bears w' (spA s p len g (k + 2) true F (allocG G n) * R) := by
  refine (salloc_any h).mono ?_
  rintro e w' (⟨m, h1, h2, h3, h4, rfl, h5⟩ | ⟨h1, _⟩)
  · have : m = n := by
      rcases Nat.lt_trichotomy m n with q | q | q
      · have := hfull m h1 q; rw [h3] at this; cases this
      · exact q
      · have := h4 n q hn hn2; rw [hf] at this; cases this
    subst this
    exact ⟨rfl, h5⟩
  · have := h1 n hn2 hn hn2; rw [hf] at this; cases this
theorem salloc_full {s p len g k : Nat} {F G : Nat → Sec} {R : Assn} {w : World} (h : Bears w (spA s p len g k true F G * R)) (hfull : ∀ m, firstB len ≤ m → m < len → bitN G m = true) :
    Calls Try.prog 49 #[.pointer (some ⟨s, 0, none⟩)] w fun e w' => e = .returned (.tuple #[.int .i64 0, .int .i64 3]) ∧ Bears w' (spA s p len g k true F G * R) := by
  refine (salloc_any h).mono ?_
  rintro e w' (⟨m, h1, h2, h3, h4, rfl, h5⟩ | ⟨h1, rfl, h2⟩)
  · have := hfull m h1 h2; rw [h3] at this; cases this
  · exact ⟨rfl, h2⟩
theorem chk_used {len : Nat} {G : Nat → Sec} {n : Nat} (h1 : firstB len ≤ n) (h2 : n < len) (hb : bitN G n = true) : chkN len G n = 0 := by
  unfold chkN
  rw [if_neg (by omega), Int.toNat_natCast, if_pos (by unfold bitN at hb; exact hb)]
theorem chk_unused {len : Nat} {G : Nat → Sec} {n : Nat} (h1 : firstB len ≤ n) (h2 : n < len) (hb : bitN G n = false) : chkN len G n = 41 := by
  unfold chkN
  rw [if_neg (by omega), Int.toNat_natCast, if_neg (by unfold bitN at hb; rw [hb]; decide)]
theorem sfree_at {s p len g k : Nat} {F G : Nat → Sec} {R : Assn} {w : World} (h : Bears w (spA s p len g k true F G * R)) {n : Nat} (h1 : firstB len ≤ n) (h2 : n < len) (hb : bitN G n = true) :
    Calls Try.prog 51 #[.pointer (some ⟨s, 0, none⟩), .int .i64 n] w fun e w' => e = .returned (.int .i64 0) ∧ Bears w' (spA s p len g (k + 1) true F (freeG G n) * R) :=
  sfree_any h n rfl (chk_used h1 h2 hb) h2 rfl

/-- A new space's bits, blocks and inodes. -/
theorem freshF_other {n i : Nat} (h : i ≠ 0) : freshF n i = zeroSec := by unfold freshF updS; rw [if_neg h]
theorem zero_getD (i : Nat) : zeroSec.getD i 0 = 0 := by
  unfold zeroSec
  rw [List.getD_eq_getElem?_getD, List.getElem?_replicate]
  split <;> rfl
theorem bitN_fresh (n m : Nat) : bitN (freshF n) m = false := by
  unfold bitN bitOf
  rw [freshF_other (by omega), zero_getD]
  simp
theorem cntB_zero {f : Nat → Bool} (h : ∀ i, f i = false) : ∀ n, cntB f n = 0
  | 0 => rfl
  | n + 1 => by
    simp only [cntB]
    rw [cntB_zero h n, h]
    rfl
theorem blk_fresh (n m : Nat) : blkN n (freshF m) = ((n - firstB n : Nat) : Int) := by
  unfold blkN
  rw [usedTo_cnt, cntB_zero (bitN_fresh m)]
  simp
theorem ifree_fresh (n m j : Nat) : ifreeB n (freshF m) j = true := by
  unfold ifreeB
  rw [freshF_other (by unfold iSec; omega), zero_getD]
  rfl
theorem ifreeTo_fresh (n m : Nat) : ∀ j, ifreeTo n (freshF m) j = j
  | 0 => rfl
  | j + 1 => by
    simp only [ifreeTo]
    rw [ifreeTo_fresh n m j, ifree_fresh]
    rfl
theorem blk_alloc {G : Nat → Sec} {len n : Nat} (h64 : ∀ i, (G i).length = 64) (hn : firstB len ≤ n) (h2 : n < len) (h8 : 512 * mapsN len ≤ len) (hb : bitN G n = false) : blkN len (allocG G n) = blkN len G - 1 := by
  have h := cntB_put (f := bitN G) (g := bitN (allocG G n)) (m := n) (512 * mapsN len) (by unfold mapsN; omega) (fun i hi hne => by rw [bitN_alloc h64 hn i (by omega), if_neg hne])
  rw [hb, bitN_alloc h64 hn n h2, if_pos rfl, ← usedTo_cnt, ← usedTo_cnt] at h
  unfold blkN
  simp at h
  omega
theorem blk_free {G : Nat → Sec} {len n : Nat} (h64 : ∀ i, (G i).length = 64) (h2 : n < len) (hb : bitN G n = true) : blkN len (freeG G n) = blkN len G + 1 := by
  have h := cntB_put (f := bitN G) (g := bitN (freeG G n)) (m := n) (512 * mapsN len) (by unfold mapsN; omega) (fun i hi hne => by rw [bitN_free h64, if_neg hne])
  rw [hb, bitN_free h64, if_pos rfl, ← usedTo_cnt, ← usedTo_cnt] at h
  unfold blkN
  simp at h
  omega

end Go.Proofs.Ytaiobekochhemaa

/- The space's statements: ground, kind, First of the document; no condition. -/
namespace Go.Proofs.Ytaiobekochhemaa
open Go.RowKit Go.MapKept

set_option maxHeartbeats 400000 in
theorem kind4_any (c n : Int) (w : World) (h0 : -9223372036854775808 ≤ c ∧ c ≤ 9223372036854775807) (hn : 0 < n ∧ n < 9223372036854775807) :
    Calls Try.prog 50 #[.int .i64 c, .int .i64 n] w fun e w' => e = .returned (.int .i64 (if c < 0 then (-(c + 1)) % n else c % n)) ∧ w = w' := by
  obtain ⟨h0, h1⟩ := h0
  obtain ⟨hn, hn1⟩ := hn
  by_cases hc : c < 0
  · have e : -(c + 1).tmod n = (-(c + 1)) % n := by rw [← Int.neg_tmod, Int.tmod_eq_emod_of_nonneg (by omega)]
    have He := Lib.hid e
    clear e
    go_enter Try.func50, Try.ntmps50
    go_wp2
    go_ret
    refine ⟨?_, rfl⟩
    exact congrArg (fun x => Ending.returned (.int .i64 x)) He.out
  · have e : c.tmod n = c % n := Int.tmod_eq_emod_of_nonneg (by omega)
    have He := Lib.hid e
    clear e
    go_enter Try.func50, Try.ntmps50
    go_wp2
    go_ret
    refine ⟨?_, rfl⟩
    first | rfl | exact congrArg (fun x => Ending.returned (.int .i64 x)) He.out | exact congrArg (fun x => Ending.returned (.int .i64 x)) (He.out.trans (if_neg (by omega)).symm)

set_option maxRecDepth 100000 in
set_option maxHeartbeats 400000 in
theorem ground4_any {R : Assn} {w : World} (h : Bears w R) :
    Calls Try.prog 47 #[.int .i64 1024] w fun e w' => ∃ p s, e = .returned (.tuple #[ptrB p, ptrB s]) ∧ Bears w' (spA s p 1024 0 0 false (freshF 1024) (freshF 1024) * R) := by
  go_enter Try.func47, Try.ntmps47
  go_wp2_with fail
  refine (new_ok h 1024 (by omega) (by omega)).mono ?_
  rintro e w1 ⟨p, rfl, h1⟩
  go_wp2_with fail
  refine (format_new (by omega) (by omega) h1).mono ?_
  rintro e w2 ⟨d, rfl, hL, hf, hl, h2⟩
  have Hl := Lib.hid hl
  have Hf := Lib.hid hf
  clear hl hf
  go_wp2_with fail
  refine (space_opens h2 hL Hf.out (by rw [Hl.out]; omega) (by rw [Hl.out]; omega) (by rw [Hl.out]; rfl) (freshF64 1024) (by omega)).mono ?_
  rintro e w3 ⟨s, rfl, h3⟩
  rw [Hl.out] at h3
  go_wp2_with fail
  go_ret2
  exact ⟨p, s, rfl, h3⟩

set_option maxHeartbeats 400000 in
theorem rfirst_any (n : Int) (w : World) (hn : -9223372036854775808 ≤ n ∧ n ≤ 9223372036854775807) :
    Calls Try.prog 15 #[.int .i64 n] w fun e w' => e = .returned (.int .i64 (firstN n)) ∧ w = w' := by
  by_cases h : n < 1024 ∨ 8192 < n
  · have e1 : firstN n = 0 := by unfold firstN; rw [if_pos h]
    rw [e1]
    by_cases h1 : n < 1024
    · have d1 : decide (n < 1024) = true := decide_eq_true h1
      go_enter Try.func15, Try.ntmps15
      go_wp2
      go_ret
      exact ⟨rfl, rfl⟩
    · have d1 : decide (n < 1024) = false := decide_eq_false h1
      have d2 : decide (8192 < n) = true := decide_eq_true (by omega)
      go_enter Try.func15, Try.ntmps15
      go_wp2
      go_ret
      exact ⟨rfl, rfl⟩
  · have e1 : firstN n = 621 + (n + 511) / 512 + 128 := by unfold firstN; rw [if_neg h]
    rw [e1]
    have d1 : decide (n < 1024) = false := decide_eq_false (by omega)
    have d2 : decide (8192 < n) = false := decide_eq_false (by omega)
    have q1 : (n + 511).tdiv 512 = (n + 511) / 512 := Int.tdiv_eq_ediv_of_nonneg (by omega)
    clear e1
    go_enter Try.func15, Try.ntmps15
    go_wp2
    go_ret
    exact ⟨rfl, rfl⟩

end Go.Proofs.Ytaiobekochhemaa

/- The space's statements: the document's examples; no condition. -/
namespace Go.Proofs.Ytaiobekochhemaa
open Go.RowKit Go.MapKept

theorem first1023 : firstN 1023 = 0 := by decide
theorem first1024 : firstN 1024 = 751 := by decide
theorem first8192 : firstN 8192 = 765 := by decide
theorem firstB1024 : firstB 1024 = 751 := by decide

set_option maxRecDepth 100000 in
set_option maxHeartbeats 2000000 in
theorem shown4_any {R : Assn} {w : World} (h : Bears w R) :
    Calls Try.prog 12 #[] w fun e w' => e = .returned (.bool true) ∧ Bears w' R := by
  have g0 := freshF64 1024
  have b0 := bitN_fresh 1024
  have e0 : blkN 1024 (freshF 1024) = 273 := by rw [blk_fresh]; decide
  have i0 : ifreeTo 1024 (freshF 1024) 256 = 256 := ifreeTo_fresh 1024 1024 256
  obtain ⟨G0, hG0⟩ : ∃ G, freshF 1024 = G := ⟨_, rfl⟩
  rw [hG0] at g0 b0 e0 i0
  have fb := firstB1024
  have g1 := alloc64 g0 751
  have b1 : ∀ m, m < 1024 → bitN (allocG G0 751) m = if m = 751 then true else bitN G0 m := fun m hm => bitN_alloc (len := 1024) g0 (by omega) m hm
  have e1 := blk_alloc (len := 1024) (n := 751) g0 (by omega) (by omega) (by decide) (b0 751)
  obtain ⟨G1, hG1⟩ : ∃ G, allocG G0 751 = G := ⟨_, rfl⟩
  rw [hG1] at g1 b1 e1
  have g2 := alloc64 g1 752
  have b2 : ∀ m, m < 1024 → bitN (allocG G1 752) m = if m = 752 then true else bitN G1 m := fun m hm => bitN_alloc (len := 1024) g1 (by omega) m hm
  have e2 := blk_alloc (len := 1024) (n := 752) g1 (by omega) (by omega) (by decide) (by rw [b1 752 (by omega), if_neg (by omega), b0])
  obtain ⟨G2, hG2⟩ : ∃ G, allocG G1 752 = G := ⟨_, rfl⟩
  rw [hG2] at g2 b2 e2
  have g3 := free64 g2 751
  have b3 : ∀ m, bitN (freeG G2 751) m = if m = 751 then false else bitN G2 m := fun m => bitN_free g2 m
  have u2 : bitN G2 751 = true := by rw [b2 751 (by omega), if_neg (by omega), b1 751 (by omega), if_pos rfl]
  have e3 := blk_free (len := 1024) (n := 751) g2 (by omega) u2
  obtain ⟨G3, hG3⟩ : ∃ G, freeG G2 751 = G := ⟨_, rfl⟩
  rw [hG3] at g3 b3 e3
  have u3 : bitN G3 751 = false := by rw [b3 751, if_pos rfl]
  have g4 := alloc64 g3 751
  have b4 : ∀ m, m < 1024 → bitN (allocG G3 751) m = if m = 751 then true else bitN G3 m := fun m hm => bitN_alloc (len := 1024) g3 (by omega) m hm
  have e4 := blk_alloc (len := 1024) (n := 751) g3 (by omega) (by omega) (by decide) u3
  obtain ⟨G4, hG4⟩ : ∃ G, allocG G3 751 = G := ⟨_, rfl⟩
  rw [hG4] at g4 b4 e4
  have u4 : bitN G4 751 = true := by rw [b4 751 (by omega), if_pos rfl]
  have n4 : bitN G4 760 = false := by rw [b4 760 (by omega), if_neg (by omega), b3, if_neg (by omega), b2 760 (by omega), if_neg (by omega), b1 760 (by omega), if_neg (by omega), b0]
  have x4 : blkN 1024 G4 = 271 := by omega
  have c750 : chkN 1024 G4 750 = 40 := by unfold chkN; rw [if_pos (.inl (by rw [fb]; omega))]
  have c760 : chkN 1024 G4 760 = 41 := chk_unused (n := 760) (by omega) (by omega) n4
  have c751 : chkN 1024 G4 751 = 0 := chk_used (n := 751) (by omega) (by omega) u4
  have a1 : ∀ m, firstB 1024 ≤ m → m < 751 → bitN G0 m = true := fun m h1 h2 => absurd h1 (by omega)
  have a2 : ∀ m, firstB 1024 ≤ m → m < 752 → bitN G1 m = true := fun m h1 h2 => by rw [b1 m (by omega), if_pos (by omega)]
  have u1 : bitN G1 752 = false := by rw [b1 752 (by omega), if_neg (by omega), b0]
  have a4 : ∀ m, firstB 1024 ≤ m → m < 751 → bitN G3 m = true := fun m h1 h2 => absurd h1 (by omega)
  have z0 := b0 751
  have f1 : firstB 1024 ≤ 751 := by omega
  have f2 : firstB 1024 ≤ 752 := by omega
  have H := Lib.hid (And.intro hG0 (And.intro hG1 (And.intro hG2 (And.intro hG3 hG4))))
  have HE := Lib.hid (And.intro e0 (And.intro i0 x4))
  have HU := Lib.hid (And.intro z0 (And.intro u1 (And.intro u2 (And.intro u3 u4))))
  have HA := Lib.hid (And.intro a1 (And.intro a2 a4))
  have HC := Lib.hid (And.intro c750 (And.intro c760 c751))
  clear g0 b0 e0 i0 hG0 fb g1 b1 e1 hG1 g2 b2 e2 hG2 g3 b3 u2 e3 hG3 u3 g4 b4 e4 hG4 u4 n4 x4 c750 c760 c751 a1 a2 u1 a4 z0
  go_enter Try.func12, Try.ntmps12
  go_wp2_with fail
  refine (ground4_any h).mono ?_
  rintro e w1 ⟨p, s, rfl, h1⟩
  rw [H.out.1] at h1
  go_wp2_with fail
  refine (first_any 1023 _ (by omega)).mono ?_
  rintro e w2 ⟨rfl, rfl⟩
  rw [first1023]
  go_wp2_with fail
  refine (first_any 1024 _ (by omega)).mono ?_
  rintro e w3 ⟨rfl, rfl⟩
  rw [first1024]
  go_wp2_with fail
  refine (first_any 8192 _ (by omega)).mono ?_
  rintro e w4 ⟨rfl, rfl⟩
  rw [first8192]
  go_wp2_with fail
  refine (sblocks_any h1).mono ?_
  rintro e w5 ⟨rfl, h5⟩
  rw [HE.out.1]
  go_wp2_with fail
  refine (sinodes_any h5).mono ?_
  rintro e w6 ⟨rfl, h6⟩
  rw [HE.out.2.1]
  go_wp2_with fail
  refine (sgroups_any h6).mono ?_
  rintro e w7 ⟨rfl, h7⟩
  go_wp2_with fail
  refine (salloc_closed h7).mono ?_
  rintro e w8 ⟨rfl, h8⟩
  go_wp2_with fail
  refine (sbegin_any h8).mono ?_
  rintro e w9 ⟨rfl, h9⟩
  go_wp2_with fail
  refine (salloc_at (n := 751) h9 f1 (by omega) HU.out.1 HA.out.1).mono ?_
  rintro e w10 ⟨rfl, h10⟩
  rw [H.out.2.1] at h10
  go_wp2_with fail
  refine (salloc_at (n := 752) h10 f2 (by omega) HU.out.2.1 HA.out.2.1).mono ?_
  rintro e w11 ⟨rfl, h11⟩
  rw [H.out.2.2.1] at h11
  go_wp2_with fail
  refine (sfree_at (n := 751) h11 f1 (by omega) HU.out.2.2.1).mono ?_
  rintro e w12 ⟨rfl, h12⟩
  rw [H.out.2.2.2.1] at h12
  go_wp2_with fail
  refine (salloc_at (n := 751) h12 f1 (by omega) HU.out.2.2.2.1 HA.out.2.2).mono ?_
  rintro e w13 ⟨rfl, h13⟩
  rw [H.out.2.2.2.2] at h13
  go_wp2_with fail
  refine (sblocks_any h13).mono ?_
  rintro e w14 ⟨rfl, h14⟩
  rw [HE.out.2.2]
  go_wp2_with fail
  refine (sfree_bad h14 750 HC.out.1 (by decide)).mono ?_
  rintro e w15 ⟨rfl, h15⟩
  go_wp2_with fail
  refine (sfree_bad h15 760 HC.out.2.1 (by decide)).mono ?_
  rintro e w16 ⟨rfl, h16⟩
  go_wp2_with fail
  refine (sread_bad h16 760 HC.out.2.1 (by decide)).mono ?_
  rintro e w17 ⟨rfl, h17⟩
  go_wp2_with fail
  have h18 : Bears (w17.alloc (.cells #[.int .u8 1, .int .u8 2, .int .u8 3] 5)) _ := h17.alloc (.cells (cellsV [1, 2, 3]).toArray 5)
  refine (swrites_any h18.pull2 751 rfl HC.out.2.2 f1 (by omega) (b := [1, 2, 3]) (BytesIn.tells _ _ rfl)).mono ?_
  rintro e w18 ⟨rfl, h19⟩
  rw [show (wrN G4 751 [1, 2, 3]).1 = 11 from rfl]
  go_wp2_with fail
  go_ret
  exact ⟨rfl, h19.right.right⟩

end Go.Proofs.Ytaiobekochhemaa

/- AllocSizes walked; no condition. -/
namespace Go.Proofs.Ytaiobekochhemaa
open Go.RowKit Go.MapKept

theorem superB_ne (n : Nat) : zeroSec ≠ superB n := fun h => by
  have := congrArg (fun l => l.getD 0 0) h
  revert this
  show (0 : UInt8) = 101 → False
  decide

set_option maxRecDepth 100000 in
set_option maxHeartbeats 2000000 in
theorem allocSizes_walk {R : Assn} {w : World} (h : Bears w R) (n : Int) (hn : -9223372036854775808 ≤ n ∧ n ≤ 9223372036854775807) :
    Calls Try.prog 3 #[.int .i64 n] w fun e w' => e = .returned (.bool true) ∧ Bears w' R := by
  by_cases hout : n < 1 ∨ 8192 < n
  · go_enter Try.func3, Try.ntmps3
    go_wp2_with fail
    refine (shown4_any h).mono ?_
    rintro e w1 ⟨rfl, h1⟩
    go_wp2_with fail
    refine (new_no w1 n hout).mono ?_
    rintro e w2 ⟨rfl, rfl⟩
    go_wp2_with fail
    refine (first_any n _ hn).mono ?_
    rintro e w3 ⟨rfl, rfl⟩
    go_wp2_with fail
    refine (rfirst_any n _ hn).mono ?_
    rintro e w4 ⟨rfl, rfl⟩
    have hs : (firstN n != firstN n) = false := by simp
    go_wp2_with fail
    go_ret
    exact ⟨rfl, h1⟩
  · obtain ⟨m, rfl⟩ : ∃ m : Nat, n = (m : Int) := ⟨n.toNat, by omega⟩
    have hm1 : 1 ≤ m := by omega
    have hm2 : m ≤ 8192 := by omega
    have hs : (firstN (m : Int) != firstN (m : Int)) = false := by simp
    by_cases hsm : m < 1024
    · have e1 : firstN (m : Int) = 0 := by unfold firstN; rw [if_pos (by omega)]
      have E1 := Lib.hid e1
      clear e1 hout
      go_enter Try.func3, Try.ntmps3
      go_wp2_with fail
      refine (shown4_any h).mono ?_
      rintro e w1 ⟨rfl, h1⟩
      go_wp2_with fail
      refine (new_ok h1 m hm1 hm2).mono ?_
      rintro e w2 ⟨p, rfl, h2⟩
      go_wp2_with fail
      refine (first_any (m : Int) _ hn).mono ?_
      rintro e w3 ⟨rfl, rfl⟩
      go_wp2_with fail
      refine (rfirst_any (m : Int) _ hn).mono ?_
      rintro e w4 ⟨rfl, rfl⟩
      go_wp2_with fail
      refine (space_args h2 (.inl hsm) hm2).mono ?_
      rintro e w5 ⟨rfl, rfl⟩
      go_wp2_with fail
      refine (format_args h2 (.inl hsm) hm2).mono ?_
      rintro e w6 ⟨rfl, h6⟩
      go_wp2_with fail
      refine (space_args h6 (.inl hsm) hm2).mono ?_
      rintro e w7 ⟨rfl, rfl⟩
      rw [E1.out]
      go_wp2_with fail
      go_ret
      exact ⟨rfl, h6.right⟩
    · have e1 : firstN (m : Int) = firstB m := firstN_eq (by omega) hm2
      have E1 := Lib.hid e1
      have hfb : firstB m ≤ m := by unfold firstB mapsN; omega
      have hf0 : ((firstB m : Int) == 0) = false := by rw [beq_eq_false_iff_ne]; unfold firstB; omega
      have hbk : blkN m (freshF m) = (m : Int) - (firstB m : Int) := by rw [blk_fresh]; omega
      have Hbk := Lib.hid hbk
      clear e1 hbk hout
      go_enter Try.func3, Try.ntmps3
      go_wp2_with fail
      refine (shown4_any h).mono ?_
      rintro e w1 ⟨rfl, h1⟩
      go_wp2_with fail
      refine (new_ok h1 m hm1 hm2).mono ?_
      rintro e w2 ⟨p, rfl, h2⟩
      go_wp2_with fail
      refine (first_any (m : Int) _ hn).mono ?_
      rintro e w3 ⟨rfl, rfl⟩
      go_wp2_with fail
      refine (rfirst_any (m : Int) _ hn).mono ?_
      rintro e w4 ⟨rfl, rfl⟩
      go_wp2_with fail
      refine (space_none (s0 := zeroSec) h2 rfl (by show 1024 ≤ m; omega) hm2 rfl rfl (superB_ne _)).mono ?_
      rintro e w5 ⟨rfl, h5⟩
      go_wp2_with fail
      refine (format_new (by omega) hm2 h5).mono ?_
      rintro e w6 ⟨d, rfl, hL, hf, hl, h6⟩
      have Hl := Lib.hid hl
      have Hf := Lib.hid hf
      clear hl hf
      go_wp2_with fail
      refine (space_opens h6 hL Hf.out (by rw [Hl.out]; omega) (by rw [Hl.out]; exact hm2) (by rw [Hl.out]; rfl) (freshF64 m) (by omega)).mono ?_
      rintro e w7 ⟨s, rfl, h7⟩
      rw [Hl.out] at h7
      rw [E1.out]
      go_wp2_with fail
      refine (sblocks_any h7).mono ?_
      rintro e w8 ⟨rfl, h8⟩
      rw [Hbk.out]
      go_wp2_with fail
      refine (sinodes_any h8).mono ?_
      rintro e w9 ⟨rfl, h9⟩
      rw [ifreeTo_fresh]
      go_wp2_with fail
      go_ret
      exact ⟨rfl, h9.right⟩

end Go.Proofs.Ytaiobekochhemaa

/- From the readings of a row to what a walk is told of its slices; no condition. -/
namespace Go.Proofs.Ytaiobekochhemaa
open Go.RowKit

theorem old_tells {W : World} {p : World → Prop} (h : ∀ w, (∀ b, b < W.heap.size → w.heap[b]? = W.heap[b]?) → p w) : (Assn.old W.heap.size W).Tells p := by
  rintro w ⟨F, rfl, h0, _, _, _, h4⟩
  exact h w h4

/-- The form in which a slice of integers comes in. -/
abbrev RowIn (k : IntKind) (w : World) (a : Option Addr) (len cap : Nat) (zs : List Int) : Prop :=
  (a = none ∧ len = 0 ∧ cap = 0 ∧ zs = []) ∨
  ∃ x, a = some x ∧ len ≤ cap ∧ cap ≤ maxLen ∧ zs.length = cap ∧ (∀ i, i < zs.length → w.cell? (x.add i) = some (.int k (zs.getD i 0))) ∧ ∀ n ∈ zs, (Lit.int k n).wf = true

theorem addr_of_cell {w : World} {x : Addr} {v : Value} (h : w.cell? x = some v) : x = ⟨x.block, x.off, none⟩ := by
  unfold World.cell? at h
  split at h
  · cases hs : x.spot with
    | none => cases x; simp_all
    | some s => simp [hs] at h
  · cases h

theorem row_range {k : IntKind} {W : World} {a : Option Addr} {len cap : Nat} {zs : List Int} (h : RowIn k W a len cap zs) (hl : 0 < len) :
    ∃ b o, a = some ⟨b, o, none⟩ ∧ b < W.heap.size ∧ W.rangeAt b o ((zs.take len).map (Value.int k)) := by
  rcases h with ⟨_, h0, _⟩ | ⟨x, rfl, hlc, _, hz, hc, _⟩
  · omega
  · have h0 := hc 0 (by omega)
    have e0 : x.add 0 = x := by simp [Addr.add]
    rw [e0] at h0
    have ex := addr_of_cell h0
    refine ⟨x.block, x.off, by rw [← ex], World.block_lt_of_cell? W x h0, fun j v hv => ?_⟩
    rw [List.getElem?_map, List.getElem?_take] at hv
    split at hv
    · rename_i hj
      have hj' : j < zs.length := by omega
      have := hc j hj'
      rw [ex, Addr.add_mid] at this
      rw [this]
      rw [List.getElem?_eq_getElem hj'] at hv
      simp only [Option.map_some, Option.some.injEq] at hv
      rw [← hv, List.getD_eq_getElem?_getD, List.getElem?_eq_getElem hj']
      rfl
    · cases hv

theorem range_old {W w : World} {b o : Nat} {cs : List Value} (h : W.rangeAt b o cs) (hb : b < W.heap.size) (hw : ∀ b, b < W.heap.size → w.heap[b]? = W.heap[b]?) : w.rangeAt b o cs :=
  rangeAt_block h (hw b hb)

theorem row_bytes {W : World} {a : Option Addr} {len cap : Nat} {zs : List Int} (h : RowIn .u8 W a len cap zs) :
    ∃ l : List UInt8, l.length = len ∧ (Assn.old W.heap.size W).Tells (fun w => BytesIn w (.slice a len cap) l) ∧ len ≤ 9223372036854775807 := by
  have hlen : (zs.take len).length = len ∧ len ≤ 9223372036854775807 := by
    rcases h with ⟨_, rfl, _, rfl⟩ | ⟨x, _, hlc, hm, hz, _, _⟩
    · simp
    · unfold maxLen at hm
      simp; omega
  have hwf : ∀ n ∈ zs.take len, 0 ≤ n ∧ n ≤ 255 := by
    intro n hn
    rcases h with ⟨_, _, _, rfl⟩ | ⟨x, _, _, _, _, _, hw⟩
    · simp at hn
    · have := hw n (List.mem_of_mem_take hn)
      simp [Lit.wf, IntKind.min, IntKind.max, IntKind.signed, IntKind.bits] at this
      omega
  refine ⟨(zs.take len).map (fun n => UInt8.ofNat n.toNat), by simpa using hlen.1, old_tells (fun w hw => ?_), hlen.2⟩
  have hl2 : ((zs.take len).map (fun n => UInt8.ofNat n.toNat)).length = len := by simpa using hlen.1
  refine ⟨a, cap, by rw [hl2], fun hne => ?_⟩
  have hpos : 0 < len := by rw [← hl2]; exact List.length_pos_iff.2 hne
  obtain ⟨b, o, ha, hb, hr⟩ := row_range h hpos
  refine ⟨b, o, ha, ?_⟩
  have e : cellsV ((zs.take len).map (fun n => UInt8.ofNat n.toNat)) = (zs.take len).map (Value.int .u8) := by
    unfold cellsV
    rw [List.map_map]
    refine List.map_congr_left (fun n hn => ?_)
    have := hwf n hn
    simp only [Function.comp_apply, byteV]
    congr 1
    rw [UInt8.toNat_ofNat_of_lt' (by show n.toNat < 256; omega)]
    omega
  rw [e]
  exact range_old hr hb hw

theorem row_ints {W : World} {a : Option Addr} {len cap : Nat} {zs : List Int} (h : RowIn .i64 W a len cap zs) :
    ∃ l : List Int, l.length = len ∧ (Assn.old W.heap.size W).Tells (fun w => IntsIn w (.slice a len cap) l) ∧ len ≤ 9223372036854775807 ∧ ∀ x ∈ l, -9223372036854775808 ≤ x ∧ x ≤ 9223372036854775807 := by
  have hlen : (zs.take len).length = len ∧ len ≤ 9223372036854775807 := by
    rcases h with ⟨_, rfl, _, rfl⟩ | ⟨x, _, hlc, hm, hz, _, _⟩
    · simp
    · unfold maxLen at hm
      simp; omega
  refine ⟨zs.take len, hlen.1, old_tells (fun w hw => ?_), hlen.2, fun n hn => ?_⟩
  · refine ⟨a, cap, by rw [hlen.1], fun hne => ?_⟩
    have hpos : 0 < len := by rw [← hlen.1]; exact List.length_pos_iff.2 hne
    obtain ⟨b, o, ha, hb, hr⟩ := row_range h hpos
    exact ⟨b, o, ha, range_old hr hb hw⟩
  · rcases h with ⟨_, _, _, rfl⟩ | ⟨x, _, _, _, _, _, hw⟩
    · simp at hn
    · have := hw n (List.mem_of_mem_take hn)
      simp [Lit.wf, IntKind.min, IntKind.max, IntKind.signed, IntKind.bits] at this
      omega

theorem old_below {W w' : World} (h : Bears w' (Assn.old W.heap.size W)) : Below W.heap.size W w' := by
  obtain ⟨F, rfl, h0, h1, h2, h3, h4⟩ := h
  exact ⟨h1, h2, h3, h0, h4⟩

end Go.Proofs.Ytaiobekochhemaa
