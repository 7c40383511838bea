/- Texts of this claim, put together: AllocW12, AllocW13, AllocP, AllocT, AllocU, Buf, AllocS, ALawA, ALawB, ADoes, FullM, RowB; no condition. -/
import Derived.Test.YtaiobekochhemaaAllocApartB9
import Derived.ChangeKeysEq
import Derived.Laws.Append
import Derived.Laws.AppendOwn

/- Sectors that are compared; Open; no condition. -/
namespace Go.Proofs.Ytaiobekochhemaa
open Go.RowKit Go.MapKept

theorem beq_toNat (x y : UInt8) : ((x.toNat : Int) == (y.toNat : Int)) = (x == y) := by
  rw [Bool.eq_iff_iff, beq_iff_eq, beq_iff_eq]
  constructor
  · intro h
    exact UInt8.toNat_inj.1 (by omega)
  · rintro h; rw [h]
theorem all_range {a b : List UInt8} {n : Nat} (ha : a.length = n) (hb : b.length = n) : ((List.range n).all fun i => a.getD i 0 == b.getD i 0) = decide (a = b) := by
  rw [Bool.eq_iff_iff, decide_eq_true_iff, List.all_eq_true]
  constructor
  · intro h
    refine List.ext_getElem (by omega) (fun j h1 h2 => ?_)
    have := h j (by simp; omega)
    rw [beq_iff_eq] at this
    simpa [h1, h2] using this
  · rintro rfl j _
    simp

theorem run_eqItems_bytes (w : World) (d : Nat) (a b : List UInt8) (is : List Nat) (hi : ∀ i ∈ is, i < a.length ∧ i < b.length) :
    (Op.eqItems (d + 1) 5 (Try.prog.cellsOf 5) (cellsV a).toArray (cellsV b).toArray is).run Try.prog w = .ok (is.all fun i => a.getD i 0 == b.getD i 0) w := by
  induction is with
  | nil => simp [Op.eqItems]
  | cons i is ih =>
    have h1 := (hi i (by simp)).1
    have h2 := (hi i (by simp)).2
    have hc : Try.prog.cellsOf 5 = 1 := by kernel_rfl
    have p1 : (part 5 (cellsV a).toArray (i * 1)).run Try.prog w = .ok (byteV (a.getD i 0)) w := run_part_plain w (by kernel_rfl) (by simp [cellsV, h1])
    have p2 : (part 5 (cellsV b).toArray (i * 1)).run Try.prog w = .ok (byteV (b.getD i 0)) w := run_part_plain w (by kernel_rfl) (by simp [cellsV, h2])
    have p3 : (Op.equalIn (d + 1) 5 (byteV (a.getD i 0)) (byteV (b.getD i 0))).run Try.prog w = .ok (a.getD i 0 == b.getD i 0) w := by
      unfold byteV
      rw [run_equalIn_int w d 5 .u8 .u8 _ _ Try.underlying5]
      rw [beq_toNat]
    have ih' := ih (fun j hj => hi j (by simp [hj]))
    rw [hc] at ih' ⊢
    simp only [Op.eqItems, Sem.run_bind, p1, p2, p3, Result.andThen_ok, List.all_cons]
    cases a.getD i 0 == b.getD i 0
    · simp
    · simpa using ih'

theorem neq_sec (w : World) (a b : Sec) (ha : a.length = 64) (hb : b.length = 64) : (binOp .neq 94 (.agg (cellsV a).toArray) (.agg (cellsV b).toArray)).run Try.prog w = .ok (.bool (!decide (a = b))) w := by
  obtain ⟨i, hi⟩ : ∃ i, Try.prog.info? 5 = some i := Option.isSome_iff_exists.1 (by kernel_rfl)
  rw [run_neq_struct, run_equalIn_array w 9999 _ _ u_asec hi, run_eqItems_bytes w 9998 a b _ (fun j hj => by simp at hj; omega)]
  simp only [Result.andThen_ok]
  rw [all_range ha hb]

set_option maxRecDepth 100000 in
set_option maxHeartbeats 400000 in
theorem space_args {p : Nat} {d : DiskM} {R : Assn} {w : World} (h : Bears w (diskA p d * R)) (hl : d.len < 1024 ∨ 8192 < d.len) (hb : d.len ≤ 8192) :
    Calls Try.prog 16 #[ptrB p] w fun e w' => e = .returned (.tuple #[.pointer none, .int .i64 1]) ∧ w' = w := by
  have e1 : firstN (d.len : Int) = 0 := by unfold firstN; rw [if_pos (by omega)]
  have E1 := Lib.hid e1
  clear e1
  go_enter Try.func16, Try.ntmps16
  go_wp2_with fail
  refine (len_any h).mono ?_
  rintro e w1 ⟨rfl, rfl⟩
  go_wp2_with fail
  refine (first_any (d.len : Int) _ (by omega)).mono ?_
  rintro e w2 ⟨rfl, rfl⟩
  rw [E1.out]
  go_wp2_with fail
  go_ret2
  exact ⟨rfl, rfl⟩

set_option maxRecDepth 100000 in
set_option maxHeartbeats 400000 in
theorem format_args {p : Nat} {d : DiskM} {R : Assn} {w : World} (h : Bears w (diskA p d * R)) (hl : d.len < 1024 ∨ 8192 < d.len) (hb : d.len ≤ 8192) :
    Calls Try.prog 17 #[ptrB p] w fun e w' => e = .returned (.int .i64 1) ∧ Bears w' (diskA p d * R) := by
  have e1 : firstN (d.len : Int) = 0 := by unfold firstN; rw [if_pos (by omega)]
  have E1 := Lib.hid e1
  have hb1 := (h.alloc (.cells #[ptrB p] 23))
  clear e1 h
  go_enter Try.func17, Try.ntmps17
  go_wp2_with fail
  refine (len_any hb1.pull2).mono ?_
  rintro e w1 ⟨rfl, rfl⟩
  go_wp2_with fail
  refine (first_any (d.len : Int) _ (by omega)).mono ?_
  rintro e w2 ⟨rfl, rfl⟩
  rw [E1.out]
  have hb2 := hb1.alloc (.cells #[.int .i64 0] 3)
  go_wp2_with fail
  go_ret
  exact ⟨rfl, hb2.right.right⟩

set_option maxRecDepth 100000 in
set_option maxHeartbeats 1000000 in
theorem space_none {p : Nat} {d : DiskM} {R : Assn} {w : World} (h : Bears w (diskA p d * R)) (ho : d.off = false) (hlo : 1024 ≤ d.len) (hhi : d.len ≤ 8192) {s0 : Sec} (hs0 : d.now 0 = s0) (hs64 : s0.length = 64) (hne : s0 ≠ superB d.len) :
    Calls Try.prog 16 #[ptrB p] w fun e w' => e = .returned (.tuple #[.pointer none, .int .i64 4]) ∧ Bears w' (diskA p d * R) := by
  have hfn := firstN_eq hlo hhi
  have hf621 : 621 ≤ firstB d.len := by unfold firstB; omega
  have hsl := superB_length d.len
  have hnq : ∀ w, (binOp .neq 94 (.agg (cellsV s0).toArray) (.agg (cellsV (superB d.len)).toArray)).run Try.prog w = .ok (.bool true) w := fun w => by
    rw [neq_sec w _ _ hs64 hsl, decide_eq_false hne]; rfl
  have hck : d.check 0 = 0 := by unfold DiskM.check; rw [ho, if_neg (by simp), if_neg (by omega)]
  have Hnq := Lib.hid hnq
  have H64 := Lib.hid hs64
  have Hs0 := Lib.hid hs0
  have Hfn := Lib.hid hfn
  have Hne := Lib.hid hne
  clear hnq hs64 hs0 hne hfn
  go_enter Try.func16, Try.ntmps16
  go_wp2_with fail
  refine (len_any h).mono ?_
  rintro e w1 ⟨rfl, rfl⟩
  go_wp2_with fail
  refine (first_any (d.len : Int) _ (by omega)).mono ?_
  rintro e w2 ⟨rfl, rfl⟩
  rw [Hfn.out]
  go_wp2_with fail
  refine (read_to 0 h hck Hs0.out).mono ?_
  rintro e w3 ⟨g, rfl, h3⟩
  go_wp2_with fail
  have hap : ∀ w, (Instr.arrayAt 94 (.slice (some ⟨g, 0, none⟩) 64 64)).run Try.prog w = .ok (.pointer (some ⟨g, 0, none⟩)) w := fun w => by kernel_rfl
  have hcl : (Try.prog.info? 94).map (·.size) = some (cellsV s0).length := by rw [length_cellsV, H64.out]; exact i_asec
  have hon : ∀ w, (∃ Q, Bears w (diskA p d * (Assn.obj g (.cells (cellsV s0).toArray 125 (0, 0)) * Q))) → w.rangeAt g 0 (cellsV s0) := fun w ⟨_, hq⟩ => rangeAt_of_obj hq.pull2.obj
  refine wp_region_L (fun w' => ∃ Q, Bears w' (diskA p d * (Assn.obj g (.cells (cellsV s0).toArray 125 (0, 0)) * Q))) 7 [(true, 0), (true, 1), (true, 2), (true, 3), (false, 4), (false, 5), (true, 6)] [] (by kernel_rfl) (by kernel_rfl) ⟨_, h3.pull2.drew⟩ ?_
  simp only [pick, List.getElem?_cons_zero, List.getElem?_cons_succ]
  refine wpL_guarded (v := ?_) rfl (fun w' hS => ?_) ?_
  rotate_left
  · (go_simp; try with_reducible rfl)
  simp only [Act.put, List.setIfInBounds_toArray, List.set_cons_zero, List.set_cons_succ]
  refine wpL_guarded (v := ?_) rfl (fun w' hS => ?_) ?_
  rotate_left
  · (go_simp; try with_reducible rfl)
  simp only [Act.put, List.setIfInBounds_toArray, List.set_cons_zero, List.set_cons_succ]
  refine wpL_load_mid 94 _ rfl rfl g 0 rfl (cellsV s0) _ hon u_asec rfl hcl ?_
  simp only [Act.put, List.setIfInBounds_toArray, List.set_cons_zero, List.set_cons_succ]
  refine wpL_guarded (v := ?_) rfl (fun w' hS => ?_) ?_
  rotate_left
  · (go_simp; try with_reducible rfl)
  simp only [Act.put, List.setIfInBounds_toArray, List.set_cons_zero, List.set_cons_succ]
  refine wpL_effG rfl ?_
  go_simp
  refine (len_any h3.pull2.drew).mono ?_
  rintro e w4 ⟨rfl, rfl⟩
  refine ⟨⟨_, h3.pull2.drew⟩, ?_⟩
  refine wpL_effG rfl ?_
  go_simp
  refine (super_any h3.pull2.drew d.len (by omega)).mono ?_
  rintro e w5 ⟨rfl, h5⟩
  refine ⟨⟨_, h5⟩, ?_⟩
  have hnq := Hnq.out
  have heg : Try.prog.eqGuardType Try.prog.depth 94 = false := by kernel_rfl
  simp only [secV]
  refine wpL_guarded (v := ?_) rfl (fun w' hS => ?_) ?_
  rotate_left
  · (go_simp; try with_reducible rfl)
  simp only [Act.put, List.setIfInBounds_toArray, List.set_cons_zero, List.set_cons_succ]
  refine wpL_nil ?_
  refine wpL_nil ?_
  go_wp2_with fail
  go_ret2
  exact ⟨rfl, h5.pull2.right⟩

set_option maxRecDepth 100000 in
set_option maxHeartbeats 1000000 in
theorem space_opens {p g0 : Nat} {d : DiskM} {F : Nat → Sec} {R : Assn} {w : World} (h : Bears w (diskA p d * R)) (hL : LogOn d 1 620 g0 F) (hlo : 1024 ≤ d.len) (hhi : d.len ≤ 8192) (hF : F 0 = superB d.len) (h64 : ∀ i, (F i).length = 64) (hg : g0 < 9223372036854775808) :
    Calls Try.prog 16 #[ptrB p] w fun e w' => ∃ s, e = .returned (.tuple #[ptrB s, .int .i64 0]) ∧ Bears w' (spA s p d d.len g0 [] false F F * R) := by
  have ho := hL.off
  have hs0 : d.now 0 = superB d.len := by rw [hL.now (by omega)]; exact hF
  have hs64 : (superB d.len).length = 64 := superB_length _
  obtain ⟨hop, hgr⟩ := hL.opens hg
  have hfew := hL.few 20000 (by omega)
  have hsp : SpOk d.len d g0 F F := ⟨hL, rfl, hlo, hhi, h64, h64⟩
  have hfn := firstN_eq hlo hhi
  have hf621 : 621 ≤ firstB d.len := by unfold firstB; omega
  have hfl : firstB d.len ≤ d.len := by unfold firstB mapsN; omega
  have hfm : firstB d.len = 621 + mapsN d.len + 128 := rfl
  have hnq : ∀ w, (binOp .neq 94 (.agg (cellsV (superB d.len)).toArray) (.agg (cellsV (superB d.len)).toArray)).run Try.prog w = .ok (.bool false) w := fun w => by
    rw [neq_sec w _ _ hs64 hs64, decide_eq_true rfl]; rfl
  have hck : d.check 0 = 0 := by unfold DiskM.check; rw [ho, if_neg (by simp), if_neg (by omega)]
  have Hnq := Lib.hid hnq
  have H64 := Lib.hid hs64
  have Hs0 := Lib.hid hs0
  have Hfn := Lib.hid hfn
  have Hop := Lib.hid hop
  have Hgr := Lib.hid hgr
  have Hsp := Lib.hid hsp
  have Hfm := Lib.hid hfm
  clear hnq hs64 hs0 hfn hop hgr hsp hF hfm
  go_enter Try.func16, Try.ntmps16
  go_wp2_with fail
  refine (len_any h).mono ?_
  rintro e w1 ⟨rfl, rfl⟩
  go_wp2_with fail
  refine (first_any (d.len : Int) _ (by omega)).mono ?_
  rintro e w2 ⟨rfl, rfl⟩
  rw [Hfn.out]
  go_wp2_with fail
  refine (read_to 0 h hck Hs0.out).mono ?_
  rintro e w3 ⟨g, rfl, h3⟩
  go_wp2_with fail
  have hap : ∀ w, (Instr.arrayAt 94 (.slice (some ⟨g, 0, none⟩) 64 64)).run Try.prog w = .ok (.pointer (some ⟨g, 0, none⟩)) w := fun w => by kernel_rfl
  have hcl : (Try.prog.info? 94).map (·.size) = some (cellsV (superB d.len)).length := by rw [length_cellsV, H64.out]; exact i_asec
  have hon : ∀ w, (∃ Q, Bears w (diskA p d * (Assn.obj g (.cells (cellsV (superB d.len)).toArray 125 (0, 0)) * Q))) → w.rangeAt g 0 (cellsV (superB d.len)) := fun w ⟨_, hq⟩ => rangeAt_of_obj hq.pull2.obj
  refine wp_region_L (fun w' => ∃ Q, Bears w' (diskA p d * (Assn.obj g (.cells (cellsV (superB d.len)).toArray 125 (0, 0)) * Q))) 7 [(true, 0), (true, 1), (true, 2), (true, 3), (false, 4), (false, 5), (true, 6)] [] (by kernel_rfl) (by kernel_rfl) ⟨_, h3.pull2.drew⟩ ?_
  simp only [pick, List.getElem?_cons_zero, List.getElem?_cons_succ]
  refine wpL_guarded (v := ?_) rfl (fun w' hS => ?_) ?_
  rotate_left
  · (go_simp; try with_reducible rfl)
  simp only [Act.put, List.setIfInBounds_toArray, List.set_cons_zero, List.set_cons_succ]
  refine wpL_guarded (v := ?_) rfl (fun w' hS => ?_) ?_
  rotate_left
  · (go_simp; try with_reducible rfl)
  simp only [Act.put, List.setIfInBounds_toArray, List.set_cons_zero, List.set_cons_succ]
  refine wpL_load_mid 94 _ rfl rfl g 0 rfl (cellsV (superB d.len)) _ hon u_asec rfl hcl ?_
  simp only [Act.put, List.setIfInBounds_toArray, List.set_cons_zero, List.set_cons_succ]
  refine wpL_guarded (v := ?_) rfl (fun w' hS => ?_) ?_
  rotate_left
  · (go_simp; try with_reducible rfl)
  simp only [Act.put, List.setIfInBounds_toArray, List.set_cons_zero, List.set_cons_succ]
  refine wpL_effG rfl ?_
  go_simp
  refine (len_any h3.pull2.drew).mono ?_
  rintro e w4 ⟨rfl, rfl⟩
  refine ⟨⟨_, h3.pull2.drew⟩, ?_⟩
  refine wpL_effG rfl ?_
  go_simp
  refine (super_any h3.pull2.drew d.len (by omega)).mono ?_
  rintro e w5 ⟨rfl, h5⟩
  refine ⟨⟨_, h5⟩, ?_⟩
  have hnq := Hnq.out
  have heg : Try.prog.eqGuardType Try.prog.depth 94 = false := by kernel_rfl
  simp only [secV]
  refine wpL_guarded (v := ?_) rfl (fun w' hS => ?_) ?_
  rotate_left
  · (go_simp; try with_reducible rfl)
  simp only [Act.put, List.setIfInBounds_toArray, List.set_cons_zero, List.set_cons_succ]
  refine wpL_nil ?_
  refine wpL_nil ?_
  go_wp2_with fail
  have h6 : Bears w5 (diskA p d * R) := h5.pull2.right
  refine (open_yes h6 Hop.out Hgr.out (by omega) (by omega) hfew).mono ?_
  rintro e w7 ⟨x, rfl, h7⟩
  go_wp2_with fail
  refine (cnew_ok h7 p x 64 (by omega) (by omega)).mono ?_
  rintro e w8 ⟨c, rfl, h8⟩
  go_wp2_with fail
  refine (len_any h8.pull3).mono ?_
  rintro e w9 ⟨rfl, rfl⟩
  go_wp2_with fail
  go_ret2
  have e1 : ((firstB d.len : Int) - 621 - 128) = ((mapsN d.len : Nat) : Int) := by have := Hfm.out; omega
  have e2 : ((d.len : Int) - (firstB d.len : Int)) = ((d.len - firstB d.len : Nat) : Int) := by omega
  rw [e1, e2]
  have h9 := h8.alloc (.cells #[.pointer (some ⟨c, 0, none⟩), .pointer (some ⟨x, 0, none⟩), .int .i64 (mapsN d.len), .int .i64 (firstB d.len), .int .i64 ((d.len - firstB d.len : Nat) : Int)] 97)
  have h10 : Bears _ (cacheA c p x (CacheM.new 64) * (spObj w8.heap.size c x d.len * (diskA p d * (walObj x p 1 620 (g0 : Int) * R)))) := h9.pull2.c34
  have h11 := Bears.cv.2 ⟨CacheM.new 64, CV.new (a := 1) (s := 620) (F := F) (m := 64) hhi, h10⟩
  exact ⟨w8.heap.size, rfl, Bears.sp.2 ⟨c, x, Hsp.out, h11.pull2⟩⟩

end Go.Proofs.Ytaiobekochhemaa

/- A new space; a transaction's bound; no condition. -/
namespace Go.Proofs.Ytaiobekochhemaa
open Go.RowKit Go.MapKept

/-- What a new space has. -/
def freshF (n : Nat) : Nat → Sec := updS (fun _ => zeroSec) 0 (superB n)
theorem freshF64 (n i : Nat) : (freshF n i).length = 64 := upd64 (fun _ => rfl) 0 (superB_length n) i

theorem DiskM.new_plain (n : Nat) : (DiskM.new n).Plain := ⟨rfl, rfl⟩
theorem fmtD7 (d d3 : DiskM) (f : Nat) : fmtD d d3 f 7 = ((cleanD d3 (f - 621)).bar.put 0 (superB d.len)).bar := rfl

theorem format_new {p n : Nat} {R : Assn} {w : World} (hlo : 1024 ≤ n) (hhi : n ≤ 8192) (h : Bears w (diskA p (DiskM.new n) * R)) :
    Calls Try.prog 17 #[ptrB p] w fun e w' => ∃ d, e = .returned (.int .i64 0) ∧ LogOn d 1 620 0 (freshF n) ∧ d.fuse = -1 ∧ d.len = n ∧ Bears w' (diskA p d * R) := by
  have hz : ∀ i, ((DiskM.new n).put 0 zeroSec).bar.now i = zeroSec := fun i => by
    rw [now_bar, now_put]
    unfold updS
    split
    · rfl
    · rfl
  obtain ⟨d3, h1, h2, h3, h4⟩ := formats (d := ((DiskM.new n).put 0 zeroSec).bar) (a := 1) (s := 620) (F := fun _ => zeroSec) rfl rfl (by decide) (by show 1 + 620 ≤ n; omega) hhi (fun i _ => hz i)
  have hp3 : d3.Plain := ⟨h2.off, h3⟩
  refine (format_space h (DiskM.new_plain n) hlo hhi (by show 0 + 10000 < 1099511627776; omega) h1 hp3 h4 h2.quiet).mono ?_
  rintro e w' ⟨rfl, h5⟩
  rw [fmtD7, show (DiskM.new n).len = n from rfl] at h5
  rw [show ((DiskM.new n).put 0 zeroSec).bar.len = n from rfl] at h4
  generalize firstB n - 621 = q at h5
  refine ⟨_, rfl, ?_, ?_, ?_, h5⟩
  · obtain ⟨c1, c2, c3, c4, c5⟩ := cleanD_is hp3 q
    have hl : ((cleanD d3 q).bar.put 0 (superB n)).bar.len = n := c2.trans h4
    have hs : ∀ i, ((cleanD d3 q).bar.put 0 (superB n)).bar.sure i = updS (cleanD d3 q).now 0 (superB n) i := fun i => by
      show ((cleanD d3 q).bar.put 0 (superB n)).now i = _
      rw [now_put, now_bar]
    refine ⟨c1.off, rfl, by decide, by rw [hl]; omega, by rw [hl]; omega, ?_, fun i hi => ?_⟩
    · rw [hs]
      unfold updS
      rw [if_neg (by decide), c5, if_neg (by omega), now_quiet h2.quiet]
      exact h2.rest.head
    · rw [hs]
      unfold freshF updS
      by_cases h0 : i = 0
      · rw [if_pos h0, if_pos h0]
      · rw [if_neg h0, if_neg h0, c5]
        split
        · rfl
        · exact h2.now (by omega)
  · exact (cleanD_is hp3 q).1.fuse
  · exact (cleanD_is hp3 q).2.1.trans h4

end Go.Proofs.Ytaiobekochhemaa

/- What a space's bits count; no program in sight. -/
namespace Go.Proofs.Ytaiobekochhemaa
open Go.RowKit Go.MapKept

/-- How many hold, below n. -/
def cntB (f : Nat → Bool) : Nat → Nat
  | 0 => 0
  | n + 1 => cntB f n + (f n).toNat
theorem cntB_add (f : Nat → Bool) (a : Nat) : ∀ b, cntB f (a + b) = cntB f a + cntB (fun i => f (a + i)) b
  | 0 => rfl
  | b + 1 => by
    show cntB f (a + b) + (f (a + b)).toNat = _
    rw [cntB_add f a b]
    simp only [cntB]
    omega
theorem cntB_congr {f g : Nat → Bool} : ∀ n, (∀ i, i < n → f i = g i) → cntB f n = cntB g n
  | 0, _ => rfl
  | n + 1, h => by
    simp only [cntB]
    rw [cntB_congr n (fun i hi => h i (by omega)), h n (by omega)]
theorem cntB_put {f g : Nat → Bool} {m : Nat} : ∀ n, m < n → (∀ i, i < n → i ≠ m → g i = f i) → cntB g n + (f m).toNat = cntB f n + (g m).toNat
  | n + 1, hm, h => by
    simp only [cntB]
    by_cases e : m = n
    · subst e
      rw [cntB_congr m (fun i hi => h i (by omega) (by omega))]
      omega
    · have := cntB_put n (by omega) (fun i hi hne => h i (by omega) hne)
      rw [h n (by omega) (fun h => e h.symm)]
      omega
theorem ones_cnt : ∀ x : Fin 256, Lib.onesCount x.val = cntB (fun b => x.val.testBit b) 8 := by decide +kernel
theorem onesTo_cnt (r : Sec) : ∀ j, onesTo r j = cntB (bitOf r) (8 * j)
  | 0 => rfl
  | j + 1 => by
    have h := ones_cnt ⟨(r.getD j 0).toNat, (r.getD j 0).toNat_lt⟩
    simp only at h
    rw [show 8 * (j + 1) = 8 * j + 8 by omega, cntB_add, ← onesTo_cnt r j]
    have e := cntB_congr (f := fun b => (r.getD j 0).toNat.testBit b) (g := fun i => bitOf r (8 * j + i)) 8 (fun i hi => by
      simp only [bitOf]
      rw [show (8 * j + i) / 8 = j by omega, show (8 * j + i) % 8 = i by omega])
    rw [← e, ← h]
    rfl
theorem usedTo_cnt (G : Nat → Sec) : ∀ i, usedTo G i = cntB (bitN G) (512 * i)
  | 0 => rfl
  | i + 1 => by
    rw [show 512 * (i + 1) = 512 * i + 512 by omega, cntB_add, ← usedTo_cnt G i]
    have e := cntB_congr (f := bitOf (G (621 + i))) (g := fun k => bitN G (512 * i + k)) 512 (fun k hk => by
      simp only [bitN]
      rw [show (512 * i + k) / 512 = i by omega, show (512 * i + k) % 512 = k by omega])
    rw [← e, show 512 = 8 * 64 from rfl, ← onesTo_cnt]
    rfl

theorem bitSet_bits : ∀ (c : Fin 256) (j b : Fin 8) (u : Bool), ((UInt8.ofNat ((c.val - (if c.val.testBit j.val then 2 ^ j.val else 0)) + (if u then 2 ^ j.val else 0))).toNat.testBit b.val) = (if b.val = j.val then u else c.val.testBit b.val) := by decide +kernel
theorem bitOf_set {r : Sec} (hr : r.length = 64) {k : Nat} (hk : k < 512) (u : Bool) (m : Nat) : bitOf (secSet r k u) m = if m = k then u else bitOf r m := by
  unfold bitOf secSet
  have h := bitSet_bits ⟨(r.getD (k / 8) 0).toNat, (r.getD (k / 8) 0).toNat_lt⟩ ⟨k % 8, by omega⟩ ⟨m % 8, by omega⟩ u
  simp only at h
  by_cases e : m / 8 = k / 8
  · have e2 : (r.set (k / 8) (bitSet (r.getD (k / 8) 0) (k % 8) u)).getD (m / 8) 0 = bitSet (r.getD (k / 8) 0) (k % 8) u := by
      rw [e]; simp [List.getD, hr, show k / 8 < 64 by omega]
    rw [e2]
    unfold bitSet
    rw [h, e]
    by_cases e3 : m % 8 = k % 8
    · rw [if_pos e3, if_pos (by omega)]
    · rw [if_neg e3, if_neg (fun h => e3 (by rw [h]))]
  · have e2 : (r.set (k / 8) (bitSet (r.getD (k / 8) 0) (k % 8) u)).getD (m / 8) 0 = r.getD (m / 8) 0 := by
      rw [List.getD_eq_getElem?_getD, List.getElem?_set_ne (fun h => e h.symm), ← List.getD_eq_getElem?_getD]
    rw [e2, if_neg (fun h => e (by rw [h]))]
theorem bitN_set {G : Nat → Sec} (h64 : ∀ i, (G i).length = 64) (n : Nat) (u : Bool) (m : Nat) :
    bitN (updS G (621 + n / 512) (secSet (G (621 + n / 512)) (n % 512) u)) m = if m = n then u else bitN G m := by
  unfold bitN updS
  by_cases e : m / 512 = n / 512
  · rw [if_pos (by omega), bitOf_set (h64 _) (by omega), e]
    by_cases e2 : m = n
    · rw [if_pos (by omega), if_pos e2]
    · rw [if_neg (by omega), if_neg e2]
  · rw [if_neg (by omega), if_neg (fun h => e (by rw [h]))]
theorem bitN_other {G : Nat → Sec} {i : Nat} {b : Sec} {m : Nat} (h : 621 + m / 512 ≠ i) : bitN (updS G i b) m = bitN G m := by
  unfold bitN updS
  rw [if_neg h]

end Go.Proofs.Ytaiobekochhemaa

/- The space's functions, with what they answer named; no condition. -/
namespace Go.Proofs.Ytaiobekochhemaa
open Go.RowKit Go.MapKept

/-- A block that is taken, or given back. -/
def allocG (G : Nat → Sec) (n : Nat) : Nat → Sec := updS (updS G (621 + n / 512) (secSet (G (621 + n / 512)) (n % 512) true)) n zeroSec
def freeG (G : Nat → Sec) (n : Nat) : Nat → Sec := updS G (621 + n / 512) (secSet (G (621 + n / 512)) (n % 512) false)
theorem map_lt {len m : Nat} (hm : m < len) : 621 + m / 512 < 621 + mapsN len := by unfold mapsN; omega
theorem bitN_alloc {G : Nat → Sec} {len n : Nat} (h64 : ∀ i, (G i).length = 64) (hn : firstB len ≤ n) (m : Nat) (hm : m < len) : bitN (allocG G n) m = if m = n then true else bitN G m := by
  unfold allocG
  rw [bitN_other (by have := map_lt hm; unfold firstB at hn; omega), bitN_set h64]
theorem bitN_free {G : Nat → Sec} {n : Nat} (h64 : ∀ i, (G i).length = 64) (m : Nat) : bitN (freeG G n) m = if m = n then false else bitN G m := by
  unfold freeG
  rw [bitN_set h64]
theorem secSet64 {r : Sec} (h : r.length = 64) (k : Nat) (u : Bool) : (secSet r k u).length = 64 := by simp [secSet, h]
theorem alloc64 {G : Nat → Sec} (h64 : ∀ i, (G i).length = 64) (n i : Nat) : (allocG G n i).length = 64 :=
  upd64 (upd64 h64 _ (secSet64 (h64 _) _ _)) n rfl i
theorem free64 {G : Nat → Sec} (h64 : ∀ i, (G i).length = 64) (n i : Nat) : (freeG G n i).length = 64 := upd64 h64 _ (secSet64 (h64 _) _ _) i

theorem salloc_at {s p len g : Nat} {k : List Nat} {d : DiskM} {F G : Nat → Sec} {R : Assn} {w : World} (h : Bears w (spA s p d len g k true F G * R)) {n : Nat} (hn : firstB len ≤ n) (hn2 : n < len) (hf : bitN G n = false) (hfull : ∀ m, firstB len ≤ m → m < n → bitN G m = true) :
    Calls Try.prog 49 #[.pointer (some ⟨s, 0, none⟩)] w fun e w' => e = .returned (.tuple #[.int .i64 n, .int .i64 0]) ∧ Bears w' (spA s p d len g (n :: (621 + n / 512) :: k) true F (allocG G n) * R) := by
  refine (salloc_any h).mono ?_
  rintro e w' (⟨m, h1, h2, h3, h4, rfl, h5⟩ | ⟨h1, _⟩)
  · have : m = n := by
      rcases Nat.lt_trichotomy m n with q | q | q
      · have := hfull m h1 q; rw [h3] at this; cases this
      · exact q
      · have := h4 n q hn hn2; rw [hf] at this; cases this
    subst this
    exact ⟨rfl, h5⟩
  · have := h1 n hn2 hn hn2; rw [hf] at this; cases this
theorem salloc_full {s p len g : Nat} {k : List Nat} {d : DiskM} {F G : Nat → Sec} {R : Assn} {w : World} (h : Bears w (spA s p d len g k true F G * R)) (hfull : ∀ m, firstB len ≤ m → m < len → bitN G m = true) :
    Calls Try.prog 49 #[.pointer (some ⟨s, 0, none⟩)] w fun e w' => e = .returned (.tuple #[.int .i64 0, .int .i64 3]) ∧ Bears w' (spA s p d len g k true F G * R) := by
  refine (salloc_any h).mono ?_
  rintro e w' (⟨m, h1, h2, h3, h4, rfl, h5⟩ | ⟨h1, rfl, h2⟩)
  · have := hfull m h1 h2; rw [h3] at this; cases this
  · exact ⟨rfl, h2⟩
theorem chk_used {len : Nat} {G : Nat → Sec} {n : Nat} (h1 : firstB len ≤ n) (h2 : n < len) (hb : bitN G n = true) : chkN len G n = 0 := by
  unfold chkN
  rw [if_neg (by omega), Int.toNat_natCast, if_pos (by unfold bitN at hb; exact hb)]
theorem chk_unused {len : Nat} {G : Nat → Sec} {n : Nat} (h1 : firstB len ≤ n) (h2 : n < len) (hb : bitN G n = false) : chkN len G n = 41 := by
  unfold chkN
  rw [if_neg (by omega), Int.toNat_natCast, if_neg (by unfold bitN at hb; rw [hb]; decide)]
theorem sfree_at {s p len g : Nat} {k : List Nat} {d : DiskM} {F G : Nat → Sec} {R : Assn} {w : World} (h : Bears w (spA s p d len g k true F G * R)) {n : Nat} (h1 : firstB len ≤ n) (h2 : n < len) (hb : bitN G n = true) :
    Calls Try.prog 51 #[.pointer (some ⟨s, 0, none⟩), .int .i64 n] w fun e w' => e = .returned (.int .i64 0) ∧ Bears w' (spA s p d len g ((621 + n / 512) :: k) true F (freeG G n) * R) :=
  sfree_any h n rfl (chk_used h1 h2 hb) h2 rfl

/-- A new space's bits, blocks and inodes. -/
theorem freshF_other {n i : Nat} (h : i ≠ 0) : freshF n i = zeroSec := by unfold freshF updS; rw [if_neg h]
theorem zero_getD (i : Nat) : zeroSec.getD i 0 = 0 := by
  unfold zeroSec
  rw [List.getD_eq_getElem?_getD, List.getElem?_replicate]
  split <;> rfl
theorem bitN_fresh (n m : Nat) : bitN (freshF n) m = false := by
  unfold bitN bitOf
  rw [freshF_other (by omega), zero_getD]
  simp
theorem cntB_zero {f : Nat → Bool} (h : ∀ i, f i = false) : ∀ n, cntB f n = 0
  | 0 => rfl
  | n + 1 => by
    simp only [cntB]
    rw [cntB_zero h n, h]
    rfl
theorem blk_fresh (n m : Nat) : blkN n (freshF m) = ((n - firstB n : Nat) : Int) := by
  unfold blkN
  rw [usedTo_cnt, cntB_zero (bitN_fresh m)]
  simp
theorem ifree_fresh (n m j : Nat) : ifreeB n (freshF m) j = true := by
  unfold ifreeB
  rw [freshF_other (by unfold iSec; omega), zero_getD]
  rfl
theorem ifreeTo_fresh (n m : Nat) : ∀ j, ifreeTo n (freshF m) j = j
  | 0 => rfl
  | j + 1 => by
    simp only [ifreeTo]
    rw [ifreeTo_fresh n m j, ifree_fresh]
    rfl
theorem blk_alloc {G : Nat → Sec} {len n : Nat} (h64 : ∀ i, (G i).length = 64) (hn : firstB len ≤ n) (h2 : n < len) (h8 : 512 * mapsN len ≤ len) (hb : bitN G n = false) : blkN len (allocG G n) = blkN len G - 1 := by
  have h := cntB_put (f := bitN G) (g := bitN (allocG G n)) (m := n) (512 * mapsN len) (by unfold mapsN; omega) (fun i hi hne => by rw [bitN_alloc h64 hn i (by omega), if_neg hne])
  rw [hb, bitN_alloc h64 hn n h2, if_pos rfl, ← usedTo_cnt, ← usedTo_cnt] at h
  unfold blkN
  simp at h
  omega
theorem blk_free {G : Nat → Sec} {len n : Nat} (h64 : ∀ i, (G i).length = 64) (h2 : n < len) (hb : bitN G n = true) : blkN len (freeG G n) = blkN len G + 1 := by
  have h := cntB_put (f := bitN G) (g := bitN (freeG G n)) (m := n) (512 * mapsN len) (by unfold mapsN; omega) (fun i hi hne => by rw [bitN_free h64, if_neg hne])
  rw [hb, bitN_free h64, if_pos rfl, ← usedTo_cnt, ← usedTo_cnt] at h
  unfold blkN
  simp at h
  omega

end Go.Proofs.Ytaiobekochhemaa

/- A transaction on a small space always fits; no condition. -/
namespace Go.Proofs.Ytaiobekochhemaa
open Go.RowKit Go.MapKept

/-- The sectors outside the log. -/
def outL (len : Nat) : List Nat := 0 :: (List.range (len - 621)).map (621 + ·)
theorem outL_few {len : Nat} (h : len ≤ 1220) (_h2 : 621 ≤ len) : Few (outL len) 600 := Few.of (by simp [outL]; omega)
/-- However often sectors were written: none is pinned but those outside the log. -/
theorem CV.least {len : Nat} {k : List Nat} {F G : Nat → Sec} {op : Bool} {cm : CacheM} (h : CV len 1 620 F G k op cm) : CV len 1 620 F G (outL len) op cm :=
  ⟨h.nodup, h.out, h.free, h.view, fun y hy _ => by
    have o := h.out y hy
    unfold outL
    by_cases e : y.at'.toNat = 0
    · rw [e]; simp
    · refine List.mem_cons_of_mem _ (List.mem_map.2 ⟨y.at'.toNat - 621, ?_, by omega⟩)
      rw [List.mem_range]; omega, h.opn, h.len⟩
theorem Bears.spSub {s p len g : Nat} {k k' : List Nat} {d : DiskM} {F G : Nat → Sec} {op : Bool} {R : Assn} {w : World} (h : Bears w (spA s p d len g k op F G * R)) (hs : ∀ i ∈ k, i ∈ k') : Bears w (spA s p d len g k' op F G * R) := by
  obtain ⟨c, x, hok, h0⟩ := Bears.sp.1 h
  exact Bears.sp.2 ⟨c, x, hok, (h0.pull2.cvSub hs).pull2⟩
theorem Bears.spLeast {s p len g : Nat} {k : List Nat} {d : DiskM} {F G : Nat → Sec} {op : Bool} {R : Assn} {w : World} (h : Bears w (spA s p d len g k op F G * R)) : Bears w (spA s p d len g (outL len) op F G * R) := by
  obtain ⟨c, x, hok, h0⟩ := Bears.sp.1 h
  obtain ⟨cm, hV, h1⟩ := Bears.cv.1 h0.pull2
  exact Bears.sp.2 ⟨c, x, hok, (Bears.cv.2 ⟨cm, hV.least, h1⟩).pull2⟩

end Go.Proofs.Ytaiobekochhemaa

/- A slice of bytes that nobody else has: a part of a row; append onto nothing; no condition. -/
namespace Go.Proofs.Ytaiobekochhemaa
open Go.RowKit Go.MapKept

/-- The slice v has the bytes l, and lies in a block of its own. -/
def bufA (v : Value) (l : List UInt8) : Assn := Assn.ex fun (z : Option (Nat × Nat × List UInt8 × List UInt8)) => match z with
  | none => Assn.fact (∃ ad c, v = .slice ad 0 c ∧ l = [])
  | some (g, cap, pre, post) => Assn.fact (∃ c, v = .slice (some ⟨g, pre.length, none⟩) l.length c) *
      rowA 5 1 (.slice (some ⟨g, 0, none⟩) (pre ++ l ++ post).length cap) (pre ++ l ++ post).length (cellsV (pre ++ l ++ post))

theorem Bears.bufNil {w : World} {ad : Option Addr} {c : Nat} {R : Assn} (h : Bears w R) : Bears w (bufA (.slice ad 0 c) [] * R) := by
  unfold bufA
  rw [Bears.ex]
  exact ⟨none, Bears.fact.2 ⟨⟨ad, c, rfl, rfl⟩, h⟩⟩
theorem Bears.bufPart {w : World} {g c cap n : Nat} {pre l post : List UInt8} {R : Assn} (h : Bears w (rowA 5 1 (.slice (some ⟨g, 0, none⟩) n cap) n (cellsV (pre ++ l ++ post)) * R)) (hn : n = (pre ++ l ++ post).length) :
    Bears w (bufA (.slice (some ⟨g, pre.length, none⟩) l.length c) l * R) := by
  subst hn
  unfold bufA
  rw [Bears.ex]
  refine ⟨some (g, cap, pre, post), ?_⟩
  simp only [Assn.mul_assoc']
  exact Bears.fact.2 ⟨⟨c, rfl⟩, h⟩
theorem Bears.bufCases {w : World} {v : Value} {l : List UInt8} {R : Assn} (h : Bears w (bufA v l * R)) : (l = [] ∧ ∃ ad c, v = .slice ad 0 c) ∨
    ∃ g cap c pre post, v = .slice (some ⟨g, pre.length, none⟩) l.length c ∧ Bears w (rowA 5 1 (.slice (some ⟨g, 0, none⟩) (pre ++ l ++ post).length cap) (pre ++ l ++ post).length (cellsV (pre ++ l ++ post)) * R) := by
  unfold bufA at h
  rw [Bears.ex] at h
  obtain ⟨z, h⟩ := h
  match z with
  | none =>
    obtain ⟨⟨ad, c, h1, h2⟩, _⟩ := Bears.fact.1 h
    exact .inl ⟨h2, ad, c, h1⟩
  | some (g, cap, pre, post) =>
    simp only [Assn.mul_assoc'] at h
    obtain ⟨⟨c, h1⟩, h2⟩ := Bears.fact.1 h
    exact .inr ⟨g, cap, c, pre, post, h1, h2⟩
theorem Bears.bufRow {w : World} {ad : Option Addr} {n c : Nat} {l : List UInt8} {R : Assn} (h : Bears w (rowA 5 1 (.slice ad n c) n (cellsV l) * R)) : Bears w (bufA (.slice ad n c) l * R) := by
  obtain ⟨hl, hr⟩ := h.row
  rcases hr with ⟨e1, e2⟩ | ⟨g, cap, cur, hv, _⟩
  · subst e2
    have : l = [] := by
      have : l.length = 0 := by simpa using hl
      exact List.length_eq_zero_iff.1 this
    subst this
    cases e1
    exact (h.right).bufNil
  · simp only [Value.slice.injEq] at hv
    obtain ⟨rfl, _, rfl⟩ := hv
    have hn : n = l.length := by simpa using hl.symm
    have := Bears.bufPart (pre := []) (post := []) (c := c) (l := l) (by simpa using h) (by simpa using hn)
    rw [hn]
    exact this
theorem Bears.bufLen {w : World} {ad : Option Addr} {n c : Nat} {l : List UInt8} {R : Assn} (h : Bears w (bufA (.slice ad n c) l * R)) : n = l.length := by
  rcases h.bufCases with ⟨rfl, _, _, e⟩ | ⟨_, _, _, _, _, e, _⟩
  · simp only [Value.slice.injEq] at e; simp [e.2.1]
  · simp only [Value.slice.injEq] at e; exact e.2.1

theorem Bears.bufMax {w : World} {v : Value} {l : List UInt8} {R : Assn} (h : Bears w (bufA v l * R)) : l.length ≤ maxLen := by
  rcases h.bufCases with ⟨rfl, _⟩ | ⟨g, cap, c, pre, post, _, h1⟩
  · exact Nat.zero_le _
  · obtain ⟨_, c', e, h2, h3, _⟩ := h1.rowForm
    simp at h2
    omega

theorem Bears.bufAt {w : World} {ad : Option Addr} {n c : Nat} {l : List UInt8} {R : Assn} (h : Bears w (bufA (.slice ad n c) l * R)) {j : Nat} (hj : j < l.length) :
    ∃ g o, ad = some ⟨g, o, none⟩ ∧ w.cell? ⟨g, o + j, none⟩ = some (byteV (l.getD j 0)) ∧ w.frozen? ⟨g, o + j, none⟩ = false ∧
      ∀ u, Bears (w.setCell ⟨g, o + j, none⟩ (byteV u)) (bufA (.slice ad n c) (l.set j u) * R) := by
  rcases h.bufCases with ⟨rfl, _, _, e⟩ | ⟨g, cap, c', pre, post, e, h1⟩
  · simp at hj
  · simp only [Value.slice.injEq] at e
    obtain ⟨rfl, rfl, rfl⟩ := e
    have hlt : pre.length + j < (pre ++ l ++ post).length := by simp; omega
    refine ⟨g, pre.length, rfl, h1.rowCell hlt ?_, h1.rowFrozen _, fun u => ?_⟩
    · simp [cellsV, List.getElem?_append, hj]
    · have h2 := h1.rowSet hlt (byteV u)
      have e2 : (cellsV (pre ++ l ++ post)).set (pre.length + j) (byteV u) = cellsV (pre ++ l.set j u ++ post) := by
        unfold cellsV
        rw [← List.map_set, List.append_assoc, List.append_assoc, List.set_append_right _ _ (Nat.le_add_right _ _), Nat.add_sub_cancel_left, List.set_append_left _ _ hj]
      rw [e2] at h2
      have := Bears.bufPart (pre := pre) (post := post) (c := c) (l := l.set j u) h2 (by simp)
      simpa using this
theorem buf_tells {ad : Option Addr} {n c : Nat} {l : List UInt8} {R : Assn} : (bufA (.slice ad n c) l * R).Tells (fun w => BytesIn w (.slice ad n c) l) := by
  intro w h
  have hn := h.bufLen
  subst hn
  refine ⟨ad, c, rfl, fun hne => ?_⟩
  have hpos : 0 < l.length := List.length_pos_iff.2 hne
  obtain ⟨g, o, rfl, _⟩ := h.bufAt hpos
  refine ⟨g, o, rfl, fun j v hv => ?_⟩
  have hj : j < l.length := by have := (List.getElem?_eq_some_iff.1 hv).1; simpa using this
  obtain ⟨g', o', e, h1, _⟩ := h.bufAt hj
  cases e
  rw [h1]
  simpa [cellsV, hj] using hv

theorem addr_cells {w : World} {b o : Nat} {vs : List Value} (h : w.rangeAt b o vs) : ∀ j u, vs[j]? = some u → w.cell? ((⟨b, o, none⟩ : Addr).add j) = some u := fun j u hu => by
  have h9 := h j u hu
  unfold Addr.add
  by_cases hj : j = 0
  · subst hj; simpa using h9
  · simpa [hj] using h9
/-- A slice that is made, in a region. -/
theorem wp_make {w w' : World} {o : Oper} {a : Act} {K : Act → World → Prop} {Q : Exit → Act → World → Prop} {ty : TypeId} {x y : Operand} {vx vy v : Value} (ho : o.op = .makeSlice ty x y) (hx : a.eval x = vx) (hy : a.eval y = vy)
    (hrun : (Instr.makeSlice ty vx vy).run Try.prog w = .ok v w') (h : K (a.put o.dst v) w') : o.wp Try.prog a w K Q := by
  unfold Oper.wp execOp
  simp only [ho, hx, hy, Sem.run_bind, Sem.run_pure, hrun, Result.andThen_ok]
  exact h
/-- 'append([]byte{}, s...)'. -/
theorem run_append_fresh {w : World} {R : Assn} (h : Bears w R) {ad : Option Addr} {n c : Nat} {l : List UInt8} (hs : BytesIn w (.slice ad n c) l) (hl : l.length ≤ 140737488355328) (b0 : Addr) (ty : TypeId) :
    ∃ a' c' w', (Builtin.append_ #[43, 43] ty #[.slice (some b0) 0 0, .slice ad n c]).run Try.prog w = .ok (.slice a' n c') w' ∧ Bears w' (bufA (.slice a' n c') l * R) := by
  have hn := hs.len
  subst hn
  obtain ⟨i, hi, hz⟩ : ∃ i, Try.prog.info? 5 = some i ∧ (i.zero = some (.int .u8 0) ∧ i.size = 1 ∧ i.bytes = 1) := by
    have : (Try.prog.info? 5).map (fun i => (i.zero, i.size, i.bytes)) = some (some (Value.int IntKind.u8 0), 1, 1) := by kernel_rfl
    obtain ⟨i, hi, e⟩ := Option.map_eq_some_iff.1 this
    simp only [Prod.mk.injEq] at e
    exact ⟨i, hi, e⟩
  obtain ⟨hz, hsz, hby⟩ := hz
  by_cases h0 : l = []
  · subst h0
    refine ⟨some b0, 0, w, ?_, h.bufNil⟩
    cases ad <;> simp [Builtin.append_, run_underlying Try.underlying43, sizeOf, typeInfo, hi, storeCells, Builtin.lenOf, Builtin.firstCells, loadCells, loadCellsFrom]
  · obtain ⟨b, o, rfl, hr⟩ := hs.at h0
    have hpos : 0 < l.length := List.length_pos_iff.2 h0
    have hg := run_append_grow (P := Try.prog) w 43 ty 5 i (.int .u8 0) Try.underlying43 hi hz b0 0 0 [] (by simp) (by intro j v hj; simp at hj) ⟨b, o, none⟩ l.length c (cellsV l) (by simp [hsz])
      (addr_cells hr) (by omega) (by omega) (growslice_fits (by omega) (by rw [hby]; omega))
    simp only [Nat.zero_add] at hg
    have hge := grownCap_ge w l.length 0 5
    have hcm : grownCap w l.length 0 5 ≤ maxLen := grownCap_le_maxLen w l.length 0 5 (by unfold maxLen; omega)
    generalize grownCap w l.length 0 5 = cap at hg hge hcm
    refine ⟨_, _, _, hg, Bears.bufRow ?_⟩
    refine (Bears.nilRow.2 h).appended ⟨by simp, .inr ⟨w.heap.size, cap, _, rfl, Nat.zero_le _, heap_alloc_new w.drew _, hge, hcm, ?_, ?_⟩⟩ ⟨rfl, rfl, rfl, by simp, fun k hk _ => heap_alloc_old w.drew _ hk⟩ (.inr rfl)
    · simp [size_zeroCells, Value.cells]
      omega
    · simp only [Array.toList_append, List.append_assoc]
      simp

theorem wpList_append_fresh {w : World} {ops : Array Oper} {rest : List Oper} {o : Oper} {a : Act} {Q : Exit → Act → World → Prop} {s x : Operand} {R : Assn} (h : Bears w R) (hg : o.guard = none)
    (ho : o.op = .call { callee := .builtin .append, args := #[s, x], argTypes := #[43, 43] }) {b0 : Addr} {ad : Option Addr} {n c : Nat} {l : List UInt8} (hs : a.eval s = .slice (some b0) 0 0) (hx : a.eval x = .slice ad n c)
    (hb : BytesIn w (.slice ad n c) l) (hl : l.length ≤ 140737488355328) (hK : ∀ a' c' w', Bears w' (bufA (.slice a' n c') l * R) → wpList Try.prog ops Q rest (a.put o.dst (.slice a' n c')) w') : wpList Try.prog ops Q (o :: rest) a w :=
  wpList_plain hg fun K hK' => by
    obtain ⟨a', c', w', hr, h'⟩ := run_append_fresh h hb hl b0 o.type
    unfold Oper.wp execOp
    simp only [ho, resolve, invoke, builtin, Sem.run_bind, Sem.run_pure, Result.andThen_ok, List.map_toArray, List.map_cons, List.map_nil, hs, hx, hr]
    exact hK' _ _ (hK a' c' w' h')

end Go.Proofs.Ytaiobekochhemaa

/- The space as a state: what each call answers, and what is there behind it; no condition. -/
namespace Go.Proofs.Ytaiobekochhemaa
open Go.RowKit Go.MapKept

/-- What a call answers: a number, bytes, an error. -/
structure Told where
  n : Int
  b : List UInt8
  e : Int
/-- g groups done; is a transaction open? F is sure, G at hand. -/
structure SpM where
  g : Nat
  op : Bool
  F : Nat → Sec
  G : Nat → Sec
def stA (s p : Nat) (d : DiskM) (len : Nat) (k : List Nat) (S : SpM) : Assn := spA s p d len S.g k S.op S.F S.G

/-- The least free block. -/
def freeAt (len : Nat) (G : Nat → Sec) : Option Nat := (List.range len).find? (fun m => decide (firstB len ≤ m) && !bitN G m)
theorem freeAt_some {len n : Nat} {G : Nat → Sec} (h1 : firstB len ≤ n) (h2 : n < len) (hf : bitN G n = false) (hfull : FullTo len G n) : freeAt len G = some n := by
  unfold freeAt
  rw [List.find?_eq_some_iff_getElem]
  refine ⟨by simp [h1, hf], n, by simpa using h2, by simp, fun j hj => ?_⟩
  simp only [List.getElem_range]
  by_cases h : firstB len ≤ j
  · rw [hfull j hj h (by omega)]; simp
  · simp [h]
theorem freeAt_none {len : Nat} {G : Nat → Sec} (hfull : FullTo len G len) : freeAt len G = none := by
  unfold freeAt
  rw [List.find?_eq_none]
  intro m hm
  rw [List.mem_range] at hm
  by_cases h : firstB len ≤ m
  · rw [hfull m hm h hm]; simp
  · simp [h]

def SpM.alloc (len : Nat) (S : SpM) : Told × SpM :=
  if S.op then match freeAt len S.G with
    | some n => (⟨n, [], 0⟩, { S with G := allocG S.G n })
    | none => (⟨0, [], 3⟩, S)
  else (⟨0, [], 30⟩, S)
def SpM.free (len : Nat) (S : SpM) (n : Int) : Told × SpM :=
  if S.op then if chkN len S.G n = 0 then (⟨0, [], 0⟩, { S with G := freeG S.G n.toNat }) else (⟨0, [], chkN len S.G n⟩, S)
  else (⟨0, [], 30⟩, S)
def SpM.read (len : Nat) (S : SpM) (n : Int) : Told := if chkN len S.G n = 0 then ⟨0, S.G n.toNat, 0⟩ else ⟨0, [], chkN len S.G n⟩
def SpM.write (len : Nat) (S : SpM) (n : Int) (b : List UInt8) : Told × SpM :=
  if S.op then if chkN len S.G n = 0 then (⟨0, [], (wrN S.G n.toNat b).1⟩, { S with G := (wrN S.G n.toNat b).2 }) else (⟨0, [], chkN len S.G n⟩, S)
  else (⟨0, [], 30⟩, S)
def inodeB (len : Nat) (G : Nat → Sec) (m : Nat) : List UInt8 := ((G (iSec len m)).drop (iAt m)).take 32
def SpM.inode (len : Nat) (S : SpM) (n : Int) : Told := if n < 0 ∨ 256 ≤ n then ⟨0, [], 40⟩ else ⟨0, inodeB len S.G n.toNat, 0⟩
def SpM.setInode (len : Nat) (S : SpM) (n : Int) (b : List UInt8) : Told × SpM :=
  if S.op then if n < 0 ∨ 256 ≤ n then (⟨0, [], 40⟩, S) else (⟨0, [], (siN len S.G n.toNat b).1⟩, { S with G := (siN len S.G n.toNat b).2 })
  else (⟨0, [], 30⟩, S)
def SpM.begins (S : SpM) : Told × SpM := if S.op then (⟨0, [], 30⟩, S) else (⟨0, [], 0⟩, { S with op := true })
def SpM.commit (S : SpM) : Told × SpM := if S.op then (⟨0, [], 0⟩, ⟨S.g + 1, false, S.G, S.G⟩) else (⟨0, [], 30⟩, S)
def SpM.abort (S : SpM) : Told × SpM := if S.op then (⟨0, [], 0⟩, ⟨S.g, false, S.F, S.F⟩) else (⟨0, [], 30⟩, S)

section
variable {s p len : Nat} {k : List Nat} {d : DiskM} {S : SpM} {R : Assn} {w : World}

theorem Bears.stLeast (h : Bears w (stA s p d len k S * R)) : Bears w (stA s p d len (outL len) S * R) := h.spLeast

theorem alloc_st (h : Bears w (stA s p d len k S * R)) {t : Told} {S' : SpM} (hs : S.alloc len = (t, S')) :
    Calls Try.prog 49 #[.pointer (some ⟨s, 0, none⟩)] w fun e w' => e = .returned (.tuple #[.int .i64 t.n, .int .i64 t.e]) ∧ Bears w' (stA s p d len (outL len) S' * R) := by
  obtain ⟨g, op, F, G⟩ := S
  cases op with
  | false =>
    unfold SpM.alloc at hs
    simp at hs
    obtain ⟨rfl, rfl⟩ := hs
    exact (salloc_closed h).mono fun e w' ⟨h1, h2⟩ => ⟨h1, h2.spLeast⟩
  | true =>
    refine (salloc_any h).mono ?_
    rintro e w' (⟨n, h1, h2, h3, h4, rfl, h5⟩ | ⟨h1, rfl, h2⟩)
    · have hf := freeAt_some h1 h2 h3 h4
      unfold SpM.alloc at hs
      simp [hf] at hs
      obtain ⟨rfl, rfl⟩ := hs
      exact ⟨rfl, h5.spLeast⟩
    · have hf := freeAt_none h1
      unfold SpM.alloc at hs
      simp [hf] at hs
      obtain ⟨rfl, rfl⟩ := hs
      exact ⟨rfl, h2.spLeast⟩

theorem free_st (h : Bears w (stA s p d len k S * R)) (n : Int) {t : Told} {S' : SpM} (hs : S.free len n = (t, S')) :
    Calls Try.prog 51 #[.pointer (some ⟨s, 0, none⟩), .int .i64 n] w fun e w' => e = .returned (.int .i64 t.e) ∧ Bears w' (stA s p d len (outL len) S' * R) := by
  obtain ⟨g, op, F, G⟩ := S
  cases op with
  | false =>
    unfold SpM.free at hs
    simp at hs
    obtain ⟨rfl, rfl⟩ := hs
    exact (sfree_closed h n).mono fun e w' ⟨h1, h2⟩ => ⟨h1, h2.spLeast⟩
  | true =>
    unfold SpM.free at hs
    by_cases hc : chkN len G n = 0
    · simp [hc] at hs
      obtain ⟨rfl, rfl⟩ := hs
      obtain ⟨m, rfl, h1, h2, h3⟩ := chk_range hc
      exact (sfree_any h m rfl hc h2 rfl).mono fun e w' ⟨h1, h2⟩ => ⟨h1, h2.spLeast⟩
    · simp [hc] at hs
      obtain ⟨rfl, rfl⟩ := hs
      exact (sfree_bad h n rfl hc).mono fun e w' ⟨h1, h2⟩ => ⟨h1, h2.spLeast⟩

theorem read_st (h : Bears w (stA s p d len k S * R)) (n : Int) {t : Told} (hs : S.read len n = t) :
    Calls Try.prog 52 #[.pointer (some ⟨s, 0, none⟩), .int .i64 n] w fun e w' => ∃ ad l cap, e = .returned (.tuple #[.slice ad l cap, .int .i64 t.e]) ∧ Bears w' (bufA (.slice ad l cap) t.b * (stA s p d len (outL len) S * R)) := by
  unfold SpM.read at hs
  by_cases hc : chkN len S.G n = 0
  · rw [if_pos hc] at hs
    subst hs
    obtain ⟨m, rfl, h1, h2, h3⟩ := chk_range hc
    refine (sreads_any h m rfl hc h1 h2 rfl).mono ?_
    rintro e w' ⟨ad, cap, rfl, h4⟩
    exact ⟨ad, 64, cap, rfl, (h4.bufRow).pull2.spLeast.pull2⟩
  · rw [if_neg hc] at hs
    subst hs
    refine (sread_bad h n rfl hc).mono ?_
    rintro e w' ⟨rfl, h4⟩
    exact ⟨none, 0, 0, rfl, h4.spLeast.bufNil⟩

theorem write_st (h : Bears w (stA s p d len k S * R)) (n : Int) {b : List UInt8} {ad : Option Addr} {bn cap : Nat} (hb : R.Tells (fun w => BytesIn w (.slice ad bn cap) b)) {t : Told} {S' : SpM} (hs : S.write len n b = (t, S')) :
    Calls Try.prog 54 #[.pointer (some ⟨s, 0, none⟩), .int .i64 n, .slice ad bn cap] w fun e w' => e = .returned (.int .i64 t.e) ∧ Bears w' (stA s p d len (outL len) S' * R) := by
  obtain ⟨g, op, F, G⟩ := S
  cases op with
  | false =>
    unfold SpM.write at hs
    simp at hs
    obtain ⟨rfl, rfl⟩ := hs
    exact (swrite_closed h n _).mono fun e w' ⟨h1, h2⟩ => ⟨h1, h2.spLeast⟩
  | true =>
    unfold SpM.write at hs
    by_cases hc : chkN len G n = 0
    · simp [hc] at hs
      obtain ⟨rfl, rfl⟩ := hs
      obtain ⟨m, rfl, h1, h2, h3⟩ := chk_range hc
      exact (swrites_any h m rfl hc h1 h2 hb).mono fun e w' ⟨h1, h2⟩ => ⟨h1, h2.spLeast⟩
    · simp [hc] at hs
      obtain ⟨rfl, rfl⟩ := hs
      exact (swrite_bad h n _ rfl hc).mono fun e w' ⟨h1, h2⟩ => ⟨h1, h2.spLeast⟩

theorem inode_st (h : Bears w (stA s p d len k S * R)) (n : Int) {t : Told} (hs : S.inode len n = t) :
    Calls Try.prog 56 #[.pointer (some ⟨s, 0, none⟩), .int .i64 n] w fun e w' => ∃ ad l cap, e = .returned (.tuple #[.slice ad l cap, .int .i64 t.e]) ∧ Bears w' (bufA (.slice ad l cap) t.b * (stA s p d len (outL len) S * R)) := by
  unfold SpM.inode at hs
  by_cases hc : n < 0 ∨ 256 ≤ n
  · rw [if_pos hc] at hs
    subst hs
    refine (sinode_no h n hc).mono ?_
    rintro e w' ⟨rfl, h4⟩
    exact ⟨none, 0, 0, rfl, h4.spLeast.bufNil⟩
  · rw [if_neg hc] at hs
    subst hs
    obtain ⟨m, rfl⟩ : ∃ m : Nat, n = (m : Int) := ⟨n.toNat, by omega⟩
    have hm : m < 256 := by omega
    have h64 := h.sp64 (iSec len m)
    refine (sinode_any h m hm rfl).mono ?_
    rintro e w' ⟨b, cap, rfl, h4⟩
    have hat : iAt m = 0 ∨ iAt m = 32 := by unfold iAt; omega
    refine ⟨_, _, _, rfl, ?_⟩
    simp only [Int.toNat_natCast, inodeB]
    generalize iAt m = a at hat
    have hl : (((S.G (iSec len m)).drop a).take 32).length = 32 := by simp [h64]; omega
    have e1 : (S.G (iSec len m)).take a ++ ((S.G (iSec len m)).drop a).take 32 ++ ((S.G (iSec len m)).drop a).drop 32 = S.G (iSec len m) := by
      rw [List.append_assoc, List.take_append_drop, List.take_append_drop]
    have hla : ((S.G (iSec len m)).take a).length = a := by simp [h64]; omega
    have h5 := Bears.bufPart (pre := (S.G (iSec len m)).take a) (l := ((S.G (iSec len m)).drop a).take 32) (post := ((S.G (iSec len m)).drop a).drop 32) (c := 32) (n := 64) (by rw [e1]; exact h4) (by rw [e1, h64])
    rw [hl, hla] at h5
    exact h5.pull2.spLeast.pull2

theorem setinode_st (h : Bears w (stA s p d len k S * R)) (n : Int) {b : List UInt8} {ad : Option Addr} {bn cap : Nat} (hb : R.Tells (fun w => BytesIn w (.slice ad bn cap) b)) {t : Told} {S' : SpM} (hs : S.setInode len n b = (t, S')) :
    Calls Try.prog 55 #[.pointer (some ⟨s, 0, none⟩), .int .i64 n, .slice ad bn cap] w fun e w' => e = .returned (.int .i64 t.e) ∧ Bears w' (stA s p d len (outL len) S' * R) := by
  obtain ⟨g, op, F, G⟩ := S
  cases op with
  | false =>
    unfold SpM.setInode at hs
    simp at hs
    obtain ⟨rfl, rfl⟩ := hs
    exact (setinode_closed h n _).mono fun e w' ⟨h1, h2⟩ => ⟨h1, h2.spLeast⟩
  | true =>
    unfold SpM.setInode at hs
    by_cases hc : n < 0 ∨ 256 ≤ n
    · simp [hc] at hs
      obtain ⟨rfl, rfl⟩ := hs
      exact (setinode_bad h n _ hc).mono fun e w' ⟨h1, h2⟩ => ⟨h1, h2.spLeast⟩
    · simp [hc] at hs
      obtain ⟨rfl, rfl⟩ := hs
      obtain ⟨m, rfl⟩ : ∃ m : Nat, n = (m : Int) := ⟨n.toNat, by omega⟩
      exact (setinode_any h m (by omega) hb).mono fun e w' ⟨h1, h2⟩ => ⟨h1, h2.spLeast⟩

theorem begin_st (h : Bears w (stA s p d len k S * R)) {t : Told} {S' : SpM} (hs : S.begins = (t, S')) :
    Calls Try.prog 48 #[.pointer (some ⟨s, 0, none⟩)] w fun e w' => e = .returned (.int .i64 t.e) ∧ Bears w' (stA s p d len (outL len) S' * R) := by
  obtain ⟨g, op, F, G⟩ := S
  cases op with
  | false =>
    unfold SpM.begins at hs
    simp at hs
    obtain ⟨rfl, rfl⟩ := hs
    exact (sbegin_any h).mono fun e w' ⟨h1, h2⟩ => ⟨h1, h2.spLeast⟩
  | true =>
    unfold SpM.begins at hs
    simp at hs
    obtain ⟨rfl, rfl⟩ := hs
    exact (sbegin_no h).mono fun e w' ⟨h1, h2⟩ => ⟨h1, h2.spLeast⟩

theorem abort_st (h : Bears w (stA s p d len k S * R)) {t : Told} {S' : SpM} (hs : S.abort = (t, S')) :
    Calls Try.prog 58 #[.pointer (some ⟨s, 0, none⟩)] w fun e w' => e = .returned (.int .i64 t.e) ∧ Bears w' (stA s p d len (outL len) S' * R) := by
  obtain ⟨g, op, F, G⟩ := S
  cases op with
  | false =>
    unfold SpM.abort at hs
    simp at hs
    obtain ⟨rfl, rfl⟩ := hs
    exact (sabort_no h).mono fun e w' ⟨h1, h2⟩ => ⟨h1, h2.spLeast⟩
  | true =>
    unfold SpM.abort at hs
    simp at hs
    obtain ⟨rfl, rfl⟩ := hs
    exact (sabort_any h).mono fun e w' ⟨h1, h2⟩ => ⟨h1, h2.spLeast⟩

theorem commit_st (h : Bears w (stA s p d len k S * R)) (hlen : len ≤ 1220) (hf : d.fuse = -1) (hg : S.g < 4611686018427387904) {t : Told} {S' : SpM} (hs : S.commit = (t, S')) :
    Calls Try.prog 53 #[.pointer (some ⟨s, 0, none⟩)] w fun e w' => ∃ d', e = .returned (.int .i64 t.e) ∧ d'.fuse = -1 ∧ Bears w' (stA s p d' len (outL len) S' * R) := by
  have hl := h.spOk
  obtain ⟨g, op, F, G⟩ := S
  cases op with
  | false =>
    unfold SpM.commit at hs
    simp at hs
    obtain ⟨rfl, rfl⟩ := hs
    exact (scommit_no h).mono fun e w' ⟨h1, h2⟩ => ⟨d, h1, hf, h2.spLeast⟩
  | true =>
    unfold SpM.commit at hs
    simp at hs
    obtain ⟨rfl, rfl⟩ := hs
    exact (scommit_any h.spLeast (outL_few hlen (by omega)) hf hg).mono fun e w' ⟨d', h1, h2, h3⟩ => ⟨d', h1, h2, h3.spLeast⟩
end

end Go.Proofs.Ytaiobekochhemaa

/- The space's statements: ground, kind, First of the document; no condition. -/
namespace Go.Proofs.Ytaiobekochhemaa
open Go.RowKit Go.MapKept

theorem kindN_lt (c : Int) (m : Nat) (hm : 0 < m) : ∃ s : Nat, s < m ∧ (if c < 0 then (-(c + 1)) % (m : Int) else c % (m : Int)) = (s : Int) := by
  have h : 0 ≤ (if c < 0 then (-(c + 1)) % (m : Int) else c % (m : Int)) ∧ (if c < 0 then (-(c + 1)) % (m : Int) else c % (m : Int)) < (m : Int) := by
    split
    · exact ⟨Int.emod_nonneg _ (by omega), Int.emod_lt_of_pos _ (by omega)⟩
    · exact ⟨Int.emod_nonneg _ (by omega), Int.emod_lt_of_pos _ (by omega)⟩
  exact ⟨_, by omega, (Int.toNat_of_nonneg h.1).symm⟩

set_option maxHeartbeats 400000 in
theorem kind4_any (c n : Int) (w : World) (h0 : -9223372036854775808 ≤ c ∧ c ≤ 9223372036854775807) (hn : 0 < n ∧ n < 9223372036854775807) :
    Calls Try.prog 50 #[.int .i64 c, .int .i64 n] w fun e w' => e = .returned (.int .i64 (if c < 0 then (-(c + 1)) % n else c % n)) ∧ w = w' := by
  obtain ⟨h0, h1⟩ := h0
  obtain ⟨hn, hn1⟩ := hn
  by_cases hc : c < 0
  · have e : -(c + 1).tmod n = (-(c + 1)) % n := by rw [← Int.neg_tmod, Int.tmod_eq_emod_of_nonneg (by omega)]
    have He := Lib.hid e
    clear e
    go_enter Try.func50, Try.ntmps50
    go_wp2
    go_ret
    refine ⟨?_, rfl⟩
    exact congrArg (fun x => Ending.returned (.int .i64 x)) He.out
  · have e : c.tmod n = c % n := Int.tmod_eq_emod_of_nonneg (by omega)
    have He := Lib.hid e
    clear e
    go_enter Try.func50, Try.ntmps50
    go_wp2
    go_ret
    refine ⟨?_, rfl⟩
    first | rfl | exact congrArg (fun x => Ending.returned (.int .i64 x)) He.out | exact congrArg (fun x => Ending.returned (.int .i64 x)) (He.out.trans (if_neg (by omega)).symm)

set_option maxRecDepth 100000 in
set_option maxHeartbeats 400000 in
theorem ground4_any {R : Assn} {w : World} (h : Bears w R) :
    Calls Try.prog 47 #[.int .i64 1024] w fun e w' => ∃ p s d, e = .returned (.tuple #[ptrB p, ptrB s]) ∧ d.fuse = -1 ∧ Bears w' (spA s p d 1024 0 [] false (freshF 1024) (freshF 1024) * R) := by
  go_enter Try.func47, Try.ntmps47
  go_wp2_with fail
  refine (new_ok h 1024 (by omega) (by omega)).mono ?_
  rintro e w1 ⟨p, rfl, h1⟩
  go_wp2_with fail
  refine (format_new (by omega) (by omega) h1).mono ?_
  rintro e w2 ⟨d, rfl, hL, hf, hl, h2⟩
  have Hl := Lib.hid hl
  have Hf := Lib.hid hf
  clear hl hf
  go_wp2_with fail
  refine (space_opens h2 hL (by rw [Hl.out]; omega) (by rw [Hl.out]; omega) (by rw [Hl.out]; rfl) (freshF64 1024) (by omega)).mono ?_
  rintro e w3 ⟨s, rfl, h3⟩
  rw [Hl.out] at h3
  go_wp2_with fail
  go_ret2
  exact ⟨p, s, d, rfl, Hf.out, h3⟩

set_option maxHeartbeats 400000 in
theorem rfirst_any (n : Int) (w : World) (hn : -9223372036854775808 ≤ n ∧ n ≤ 9223372036854775807) :
    Calls Try.prog 15 #[.int .i64 n] w fun e w' => e = .returned (.int .i64 (firstN n)) ∧ w = w' := by
  by_cases h : n < 1024 ∨ 8192 < n
  · have e1 : firstN n = 0 := by unfold firstN; rw [if_pos h]
    rw [e1]
    by_cases h1 : n < 1024
    · have d1 : decide (n < 1024) = true := decide_eq_true h1
      go_enter Try.func15, Try.ntmps15
      go_wp2
      go_ret
      exact ⟨rfl, rfl⟩
    · have d1 : decide (n < 1024) = false := decide_eq_false h1
      have d2 : decide (8192 < n) = true := decide_eq_true (by omega)
      go_enter Try.func15, Try.ntmps15
      go_wp2
      go_ret
      exact ⟨rfl, rfl⟩
  · have e1 : firstN n = 621 + (n + 511) / 512 + 128 := by unfold firstN; rw [if_neg h]
    rw [e1]
    have d1 : decide (n < 1024) = false := decide_eq_false (by omega)
    have d2 : decide (8192 < n) = false := decide_eq_false (by omega)
    have q1 : (n + 511).tdiv 512 = (n + 511) / 512 := Int.tdiv_eq_ediv_of_nonneg (by omega)
    clear e1
    go_enter Try.func15, Try.ntmps15
    go_wp2
    go_ret
    exact ⟨rfl, rfl⟩

end Go.Proofs.Ytaiobekochhemaa

/- The space's statements: the document's examples; no condition. -/
namespace Go.Proofs.Ytaiobekochhemaa
open Go.RowKit Go.MapKept

theorem first1023 : firstN 1023 = 0 := by decide
theorem first1024 : firstN 1024 = 751 := by decide
theorem first8192 : firstN 8192 = 765 := by decide
theorem firstB1024 : firstB 1024 = 751 := by decide

set_option maxRecDepth 100000 in
set_option maxHeartbeats 2000000 in
theorem shown4_any {R : Assn} {w : World} (h : Bears w R) :
    Calls Try.prog 12 #[] w fun e w' => e = .returned (.bool true) ∧ Bears w' R := by
  have g0 := freshF64 1024
  have b0 := bitN_fresh 1024
  have e0 : blkN 1024 (freshF 1024) = 273 := by rw [blk_fresh]; decide
  have i0 : ifreeTo 1024 (freshF 1024) 256 = 256 := ifreeTo_fresh 1024 1024 256
  obtain ⟨G0, hG0⟩ : ∃ G, freshF 1024 = G := ⟨_, rfl⟩
  rw [hG0] at g0 b0 e0 i0
  have fb := firstB1024
  have g1 := alloc64 g0 751
  have b1 : ∀ m, m < 1024 → bitN (allocG G0 751) m = if m = 751 then true else bitN G0 m := fun m hm => bitN_alloc (len := 1024) g0 (by omega) m hm
  have e1 := blk_alloc (len := 1024) (n := 751) g0 (by omega) (by omega) (by decide) (b0 751)
  obtain ⟨G1, hG1⟩ : ∃ G, allocG G0 751 = G := ⟨_, rfl⟩
  rw [hG1] at g1 b1 e1
  have g2 := alloc64 g1 752
  have b2 : ∀ m, m < 1024 → bitN (allocG G1 752) m = if m = 752 then true else bitN G1 m := fun m hm => bitN_alloc (len := 1024) g1 (by omega) m hm
  have e2 := blk_alloc (len := 1024) (n := 752) g1 (by omega) (by omega) (by decide) (by rw [b1 752 (by omega), if_neg (by omega), b0])
  obtain ⟨G2, hG2⟩ : ∃ G, allocG G1 752 = G := ⟨_, rfl⟩
  rw [hG2] at g2 b2 e2
  have g3 := free64 g2 751
  have b3 : ∀ m, bitN (freeG G2 751) m = if m = 751 then false else bitN G2 m := fun m => bitN_free g2 m
  have u2 : bitN G2 751 = true := by rw [b2 751 (by omega), if_neg (by omega), b1 751 (by omega), if_pos rfl]
  have e3 := blk_free (len := 1024) (n := 751) g2 (by omega) u2
  obtain ⟨G3, hG3⟩ : ∃ G, freeG G2 751 = G := ⟨_, rfl⟩
  rw [hG3] at g3 b3 e3
  have u3 : bitN G3 751 = false := by rw [b3 751, if_pos rfl]
  have g4 := alloc64 g3 751
  have b4 : ∀ m, m < 1024 → bitN (allocG G3 751) m = if m = 751 then true else bitN G3 m := fun m hm => bitN_alloc (len := 1024) g3 (by omega) m hm
  have e4 := blk_alloc (len := 1024) (n := 751) g3 (by omega) (by omega) (by decide) u3
  obtain ⟨G4, hG4⟩ : ∃ G, allocG G3 751 = G := ⟨_, rfl⟩
  rw [hG4] at g4 b4 e4
  have u4 : bitN G4 751 = true := by rw [b4 751 (by omega), if_pos rfl]
  have n4 : bitN G4 760 = false := by rw [b4 760 (by omega), if_neg (by omega), b3, if_neg (by omega), b2 760 (by omega), if_neg (by omega), b1 760 (by omega), if_neg (by omega), b0]
  have x4 : blkN 1024 G4 = 271 := by omega
  have c750 : chkN 1024 G4 750 = 40 := by unfold chkN; rw [if_pos (.inl (by rw [fb]; omega))]
  have c760 : chkN 1024 G4 760 = 41 := chk_unused (n := 760) (by omega) (by omega) n4
  have c751 : chkN 1024 G4 751 = 0 := chk_used (n := 751) (by omega) (by omega) u4
  have a1 : ∀ m, firstB 1024 ≤ m → m < 751 → bitN G0 m = true := fun m h1 h2 => absurd h1 (by omega)
  have a2 : ∀ m, firstB 1024 ≤ m → m < 752 → bitN G1 m = true := fun m h1 h2 => by rw [b1 m (by omega), if_pos (by omega)]
  have u1 : bitN G1 752 = false := by rw [b1 752 (by omega), if_neg (by omega), b0]
  have a4 : ∀ m, firstB 1024 ≤ m → m < 751 → bitN G3 m = true := fun m h1 h2 => absurd h1 (by omega)
  have z0 := b0 751
  have f1 : firstB 1024 ≤ 751 := by omega
  have f2 : firstB 1024 ≤ 752 := by omega
  have H := Lib.hid (And.intro hG0 (And.intro hG1 (And.intro hG2 (And.intro hG3 hG4))))
  have HE := Lib.hid (And.intro e0 (And.intro i0 x4))
  have HU := Lib.hid (And.intro z0 (And.intro u1 (And.intro u2 (And.intro u3 u4))))
  have HA := Lib.hid (And.intro a1 (And.intro a2 a4))
  have HC := Lib.hid (And.intro c750 (And.intro c760 c751))
  clear g0 b0 e0 i0 hG0 fb g1 b1 e1 hG1 g2 b2 e2 hG2 g3 b3 u2 e3 hG3 u3 g4 b4 e4 hG4 u4 n4 x4 c750 c760 c751 a1 a2 u1 a4 z0
  go_enter Try.func12, Try.ntmps12
  go_wp2_with fail
  refine (ground4_any h).mono ?_
  rintro e w1 ⟨p, s, d, rfl, _, h1⟩
  rw [H.out.1] at h1
  go_wp2_with fail
  refine (first_any 1023 _ (by omega)).mono ?_
  rintro e w2 ⟨rfl, rfl⟩
  rw [first1023]
  go_wp2_with fail
  refine (first_any 1024 _ (by omega)).mono ?_
  rintro e w3 ⟨rfl, rfl⟩
  rw [first1024]
  go_wp2_with fail
  refine (first_any 8192 _ (by omega)).mono ?_
  rintro e w4 ⟨rfl, rfl⟩
  rw [first8192]
  go_wp2_with fail
  refine (sblocks_any h1).mono ?_
  rintro e w5 ⟨rfl, h5⟩
  rw [HE.out.1]
  go_wp2_with fail
  refine (sinodes_any h5).mono ?_
  rintro e w6 ⟨rfl, h6⟩
  rw [HE.out.2.1]
  go_wp2_with fail
  refine (sgroups_any h6).mono ?_
  rintro e w7 ⟨rfl, h7⟩
  go_wp2_with fail
  refine (salloc_closed h7).mono ?_
  rintro e w8 ⟨rfl, h8⟩
  go_wp2_with fail
  refine (sbegin_any h8).mono ?_
  rintro e w9 ⟨rfl, h9⟩
  go_wp2_with fail
  refine (salloc_at (n := 751) h9 f1 (by omega) HU.out.1 HA.out.1).mono ?_
  rintro e w10 ⟨rfl, h10⟩
  rw [H.out.2.1] at h10
  go_wp2_with fail
  refine (salloc_at (n := 752) h10 f2 (by omega) HU.out.2.1 HA.out.2.1).mono ?_
  rintro e w11 ⟨rfl, h11⟩
  rw [H.out.2.2.1] at h11
  go_wp2_with fail
  refine (sfree_at (n := 751) h11 f1 (by omega) HU.out.2.2.1).mono ?_
  rintro e w12 ⟨rfl, h12⟩
  rw [H.out.2.2.2.1] at h12
  go_wp2_with fail
  refine (salloc_at (n := 751) h12 f1 (by omega) HU.out.2.2.2.1 HA.out.2.2).mono ?_
  rintro e w13 ⟨rfl, h13⟩
  rw [H.out.2.2.2.2] at h13
  go_wp2_with fail
  refine (sblocks_any h13).mono ?_
  rintro e w14 ⟨rfl, h14⟩
  rw [HE.out.2.2]
  go_wp2_with fail
  refine (sfree_bad h14 750 HC.out.1 (by decide)).mono ?_
  rintro e w15 ⟨rfl, h15⟩
  go_wp2_with fail
  refine (sfree_bad h15 760 HC.out.2.1 (by decide)).mono ?_
  rintro e w16 ⟨rfl, h16⟩
  go_wp2_with fail
  refine (sread_bad h16 760 HC.out.2.1 (by decide)).mono ?_
  rintro e w17 ⟨rfl, h17⟩
  go_wp2_with fail
  have h18 : Bears (w17.alloc (.cells #[.int .u8 1, .int .u8 2, .int .u8 3] 5)) _ := h17.alloc (.cells (cellsV [1, 2, 3]).toArray 5)
  refine (swrites_any h18.pull2 751 rfl HC.out.2.2 f1 (by omega) (b := [1, 2, 3]) (BytesIn.tells _ _ rfl)).mono ?_
  rintro e w18 ⟨rfl, h19⟩
  rw [show (wrN G4 751 [1, 2, 3]).1 = 11 from rfl]
  go_wp2_with fail
  go_ret
  exact ⟨rfl, h19.right.right⟩

end Go.Proofs.Ytaiobekochhemaa

/- The space's statements: a call of the program; no condition. -/
namespace Go.Proofs.Ytaiobekochhemaa
open Go.RowKit Go.MapKept

/-- What a call answers, as a value. -/
abbrev toldV (t : Told) : Value := .agg #[.int .i64 t.n, strV t.b, .int .i64 t.e]
def blockN (n : Int) : Int := if 0 ≤ n ∧ n < 400 then 751 + n else n
set_option maxHeartbeats 400000 in
theorem block4_any (n : Int) (w : World) (hn : -9223372036854775808 ≤ n ∧ n ≤ 9223372036854775807) :
    Calls Try.prog 100 #[.int .i64 n] w fun e w' => e = .returned (.int .i64 (blockN n)) ∧ w = w' := by
  unfold blockN
  by_cases h1 : 0 ≤ n
  · by_cases h2 : n < 400
    · rw [if_pos ⟨h1, h2⟩]
      have d1 : decide (n ≥ 0) = true := decide_eq_true h1
      have d2 : decide (n < 400) = true := decide_eq_true h2
      go_enter Try.func100, Try.ntmps100
      go_wp2
      go_ret
      exact ⟨rfl, rfl⟩
    · rw [if_neg (fun h => h2 h.2)]
      have d1 : decide (n ≥ 0) = true := decide_eq_true h1
      have d2 : decide (n < 400) = false := decide_eq_false h2
      go_enter Try.func100, Try.ntmps100
      go_wp2
      go_ret
      exact ⟨rfl, rfl⟩
  · rw [if_neg (fun h => h1 h.1)]
    have d1 : decide (n ≥ 0) = false := decide_eq_false h1
    go_enter Try.func100, Try.ntmps100
    go_wp2
    go_ret
    exact ⟨rfl, rfl⟩

def SpM.does (len : Nat) (S : SpM) (kk : Nat) (n : Int) (b : List UInt8) : Told × SpM := match kk with
  | 0 | 1 => S.alloc len
  | 2 => S.free len (blockN n)
  | 3 => S.write len (blockN n) b
  | 4 => (S.read len (blockN n), S)
  | 5 | 6 => S.setInode len n b
  | 7 => (S.inode len n, S)
  | 8 => S.begins
  | 9 => S.commit
  | 10 => S.abort
  | _ => (⟨0, [], 0⟩, S)

section
variable {len : Nat} {S S' : SpM} {t : Told} {n : Int} {b : List UInt8}
theorem alloc_told (h : S.alloc len = (t, S')) : t.b = [] := by
  unfold SpM.alloc at h
  split at h
  · split at h <;> simp only [Prod.mk.injEq] at h <;> rw [← h.1]
  · simp only [Prod.mk.injEq] at h; rw [← h.1]
theorem free_told (h : S.free len n = (t, S')) : t.b = [] ∧ t.n = 0 := by
  unfold SpM.free at h
  split at h
  · split at h <;> simp only [Prod.mk.injEq] at h <;> rw [← h.1] <;> exact ⟨rfl, rfl⟩
  · simp only [Prod.mk.injEq] at h; rw [← h.1]; exact ⟨rfl, rfl⟩
theorem write_told (h : S.write len n b = (t, S')) : t.b = [] ∧ t.n = 0 := by
  unfold SpM.write at h
  split at h
  · split at h <;> simp only [Prod.mk.injEq] at h <;> rw [← h.1] <;> exact ⟨rfl, rfl⟩
  · simp only [Prod.mk.injEq] at h; rw [← h.1]; exact ⟨rfl, rfl⟩
theorem setInode_told (h : S.setInode len n b = (t, S')) : t.b = [] ∧ t.n = 0 := by
  unfold SpM.setInode at h
  split at h
  · split at h <;> simp only [Prod.mk.injEq] at h <;> rw [← h.1] <;> exact ⟨rfl, rfl⟩
  · simp only [Prod.mk.injEq] at h; rw [← h.1]; exact ⟨rfl, rfl⟩
theorem read_told : (S.read len n).n = 0 := by unfold SpM.read; split <;> rfl
theorem inode_told : (S.inode len n).n = 0 := by unfold SpM.inode; split <;> rfl
theorem begins_told (h : S.begins = (t, S')) : t.b = [] ∧ t.n = 0 := by
  unfold SpM.begins at h
  split at h <;> simp only [Prod.mk.injEq] at h <;> rw [← h.1] <;> exact ⟨rfl, rfl⟩
theorem commit_told (h : S.commit = (t, S')) : t.b = [] ∧ t.n = 0 := by
  unfold SpM.commit at h
  split at h <;> simp only [Prod.mk.injEq] at h <;> rw [← h.1] <;> exact ⟨rfl, rfl⟩
theorem abort_told (h : S.abort = (t, S')) : t.b = [] ∧ t.n = 0 := by
  unfold SpM.abort at h
  split at h <;> simp only [Prod.mk.injEq] at h <;> rw [← h.1] <;> exact ⟨rfl, rfl⟩
end

set_option maxRecDepth 100000 in
set_option maxHeartbeats 4000000 in
theorem does4_any {s p : Nat} {d : DiskM} {k : List Nat} {S : SpM} {R : Assn} {w : World} (h : Bears w (stA s p d 1024 k S * R)) (hf : d.fuse = -1) (hg : S.g < 4611686018427387904) (kd n : Int)
    (hkd : -9223372036854775808 ≤ kd ∧ kd ≤ 9223372036854775807) (hn : -9223372036854775808 ≤ n ∧ n ≤ 9223372036854775807) {b : List UInt8} {ad : Option Addr} {bn cap : Nat} (hb : R.Tells (fun w => BytesIn w (.slice ad bn cap) b)) (hbl : b.length ≤ 140737488355328)
    {kk : Nat} (hkk : kk < 12) (hkv : (if kd < 0 then (-(kd + 1)) % 12 else kd % 12) = (kk : Int)) {t : Told} {S' : SpM} (hs : S.does 1024 kk n b = (t, S')) :
    Calls Try.prog 57 #[.pointer (some ⟨s, 0, none⟩), .agg #[.int .i64 kd, .int .i64 n, .slice ad bn cap]] w fun e w' => ∃ d', e = .returned (toldV t) ∧ d'.fuse = -1 ∧ Bears w' (stA s p d' 1024 (outL 1024) S' * R) := by
  have h1 := h.alloc (.cells #[.int .i64 kd, .int .i64 n, .slice ad bn cap] 82)
  have h2 := h1.alloc (.cells #[.int .i64 0, .string ⟨#[]⟩, .int .i64 0] 85)
  have h3 := h2.alloc (.cells #[] 5)
  have Hkv := Lib.hid hkv
  clear hkv
  have hsz : ∀ (w : World) o, (w.alloc o).heap.size = w.heap.size + 1 := fun w o => Array.size_push _
  have Hsz := Lib.hid hsz
  clear hsz
  go_enter Try.func57, Try.ntmps57
  go_wp2_with (at_builtin; go_loud (refine wpList_append_fresh h3 rfl rfl rfl rfl (hb _ h3.right.right.right.right) hbl ?_); intro oa oc w4 h4; simp only [Hsz.out] at h4; have h5 := h4.alloc (.cells #[.int .i64 0, .string ⟨#[]⟩, .int .i64 0] 85); have q0 := cell_of_obj h5.pull5.obj 0; have q1 := cell_of_obj h5.pull5.obj 1; have q2 := cell_of_obj h5.pull5.obj 2; simp only [List.getElem?_toArray, List.getElem?_cons_zero, List.getElem?_cons_succ] at q0 q1 q2)
  refine (kind4_any kd 12 _ hkd (by omega)).mono ?_
  rintro e w5 ⟨rfl, rfl⟩
  rw [Hkv.out]
  have h6 := h5.pull3.right.pull4.right.pull4
  obtain ⟨RR, hRR⟩ : ∃ RR, Assn.obj (w.heap.size + 1) (.cells #[.int .i64 0, .string ⟨#[]⟩, .int .i64 0] 85 (0, 0)) * R = RR := ⟨_, rfl⟩
  rw [hRR] at h6
  have HRR := Lib.hid hRR
  have tb : (Assn.obj w4.heap.size (.cells #[.int .i64 0, .string ⟨#[]⟩, .int .i64 0] 85 (0, 0)) * (bufA (.slice oa bn oc) b * RR)).Tells (fun w => BytesIn w (.slice oa bn oc) b) := buf_tells.right
  clear hRR h h1 h2 h3 h4 h5
  go_upto_block 0 with (fail)
  go_cut [7] (fun v wr => ∃ d' ad' l' c', v = .slice ad' l' c' ∧ d'.fuse = -1 ∧ Bears wr (bufA (.slice ad' l' c') t.b * (stA s p d' 1024 (outL 1024) S' * (Assn.obj w4.heap.size (.cells #[.int .i64 t.n, .string ⟨#[]⟩, .int .i64 t.e] 85 (0, 0)) * (bufA (.slice oa bn oc) b * RR)))))
  case first =>
    match kk, hkk, hs with
    | 0, _, hs | 1, _, hs =>
      have ht := alloc_told hs
      have Hs := Lib.hid hs
      have Ht := Lib.hid ht
      clear hs ht
      go_wp2_with fail
      refine (alloc_st h6 Hs.out).mono ?_
      rintro e w7 ⟨rfl, h8⟩
      have c0 := cell_of_obj h8.pull2.obj 0
      have f0 := frozen_of_obj h8.pull2.obj 0
      have c2 := cell_of_obj h8.pull2.obj 2
      have f2 := frozen_of_obj h8.pull2.obj 2
      simp only [List.getElem?_toArray, List.getElem?_cons_zero, List.getElem?_cons_succ] at c0 c2
      have h9 := (h8.pull2.setCell (i := 0) (.int .i64 t.n)).setCell (i := 2) (.int .i64 t.e)
      go_wp2_with fail
      go_meet
      case rel => exact ⟨d, none, 0, 0, rfl, hf, by rw [Ht.out]; exact h9.pull2.bufNil⟩
    | 2, _, hs =>
      have ht := free_told hs
      have Hs := Lib.hid hs
      have Ht := Lib.hid ht
      clear hs ht
      go_wp2_with fail
      refine (block4_any n _ hn).mono ?_
      rintro e w' ⟨rfl, rfl⟩
      go_wp2_with fail
      refine (free_st h6 _ Hs.out).mono ?_
      rintro e w7 ⟨rfl, h8⟩
      have c2 := cell_of_obj h8.pull2.obj 2
      have f2 := frozen_of_obj h8.pull2.obj 2
      simp only [List.getElem?_toArray, List.getElem?_cons_zero, List.getElem?_cons_succ] at c2
      have h9 := h8.pull2.setCell (i := 2) (.int .i64 t.e)
      go_wp2_with fail
      go_meet
      case rel => exact ⟨d, none, 0, 0, rfl, hf, by rw [Ht.out.1, Ht.out.2]; exact h9.pull2.bufNil⟩
    | 3, _, hs =>
      have ht := write_told hs
      have Hs := Lib.hid hs
      have Ht := Lib.hid ht
      clear hs ht
      go_wp2_with fail
      refine (block4_any n _ hn).mono ?_
      rintro e w' ⟨rfl, rfl⟩
      go_wp2_with fail
      refine (write_st h6 _ tb Hs.out).mono ?_
      rintro e w7 ⟨rfl, h8⟩
      have c2 := cell_of_obj h8.pull2.obj 2
      have f2 := frozen_of_obj h8.pull2.obj 2
      simp only [List.getElem?_toArray, List.getElem?_cons_zero, List.getElem?_cons_succ] at c2
      have h9 := h8.pull2.setCell (i := 2) (.int .i64 t.e)
      go_wp2_with fail
      go_meet
      case rel => exact ⟨d, none, 0, 0, rfl, hf, by rw [Ht.out.1, Ht.out.2]; exact h9.pull2.bufNil⟩
    | 4, _, hs =>
      obtain ⟨rfl, rfl⟩ : _ = t ∧ S = S' := by simpa [SpM.does] using hs
      have Ht := Lib.hid (read_told (len := 1024) (S := S) (n := blockN n))
      clear hs
      go_wp2_with fail
      refine (block4_any n _ hn).mono ?_
      rintro e w' ⟨rfl, rfl⟩
      go_wp2_with fail
      refine (read_st h6 _ rfl).mono ?_
      rintro e w7 ⟨ad', l', c', rfl, h8⟩
      have c2 := cell_of_obj h8.pull3.obj 2
      have f2 := frozen_of_obj h8.pull3.obj 2
      simp only [List.getElem?_toArray, List.getElem?_cons_zero, List.getElem?_cons_succ] at c2
      have h9 := h8.pull3.setCell (i := 2) (.int .i64 (S.read 1024 (blockN n)).e)
      go_wp2_with fail
      go_meet
      case rel => exact ⟨d, _, _, _, rfl, hf, by rw [Ht.out]; exact h9.push3⟩
    | 5, _, hs | 6, _, hs =>
      have ht := setInode_told hs
      have Hs := Lib.hid hs
      have Ht := Lib.hid ht
      clear hs ht
      go_wp2_with fail
      refine (setinode_st h6 _ tb Hs.out).mono ?_
      rintro e w7 ⟨rfl, h8⟩
      have c2 := cell_of_obj h8.pull2.obj 2
      have f2 := frozen_of_obj h8.pull2.obj 2
      simp only [List.getElem?_toArray, List.getElem?_cons_zero, List.getElem?_cons_succ] at c2
      have h9 := h8.pull2.setCell (i := 2) (.int .i64 t.e)
      go_wp2_with fail
      go_meet
      case rel => exact ⟨d, none, 0, 0, rfl, hf, by rw [Ht.out.1, Ht.out.2]; exact h9.pull2.bufNil⟩
    | 7, _, hs =>
      obtain ⟨rfl, rfl⟩ : _ = t ∧ S = S' := by simpa [SpM.does] using hs
      have Ht := Lib.hid (inode_told (len := 1024) (S := S) (n := n))
      clear hs
      go_wp2_with fail
      refine (inode_st h6 _ rfl).mono ?_
      rintro e w7 ⟨ad', l', c', rfl, h8⟩
      have c2 := cell_of_obj h8.pull3.obj 2
      have f2 := frozen_of_obj h8.pull3.obj 2
      simp only [List.getElem?_toArray, List.getElem?_cons_zero, List.getElem?_cons_succ] at c2
      have h9 := h8.pull3.setCell (i := 2) (.int .i64 (S.inode 1024 n).e)
      go_wp2_with fail
      go_meet
      case rel => exact ⟨d, _, _, _, rfl, hf, by rw [Ht.out]; exact h9.push3⟩
    | 8, _, hs =>
      have ht := begins_told hs
      have Hs := Lib.hid hs
      have Ht := Lib.hid ht
      clear hs ht
      go_wp2_with fail
      refine (begin_st h6 Hs.out).mono ?_
      rintro e w7 ⟨rfl, h8⟩
      have c2 := cell_of_obj h8.pull2.obj 2
      have f2 := frozen_of_obj h8.pull2.obj 2
      simp only [List.getElem?_toArray, List.getElem?_cons_zero, List.getElem?_cons_succ] at c2
      have h9 := h8.pull2.setCell (i := 2) (.int .i64 t.e)
      go_wp2_with fail
      go_meet
      case rel => exact ⟨d, none, 0, 0, rfl, hf, by rw [Ht.out.1, Ht.out.2]; exact h9.pull2.bufNil⟩
    | 9, _, hs =>
      have ht := commit_told hs
      have Hs := Lib.hid hs
      have Ht := Lib.hid ht
      clear hs ht
      go_wp2_with fail
      refine (commit_st h6 (by omega) hf hg Hs.out).mono ?_
      rintro e w7 ⟨d', rfl, hf', h8⟩
      have c2 := cell_of_obj h8.pull2.obj 2
      have f2 := frozen_of_obj h8.pull2.obj 2
      simp only [List.getElem?_toArray, List.getElem?_cons_zero, List.getElem?_cons_succ] at c2
      have h9 := h8.pull2.setCell (i := 2) (.int .i64 t.e)
      go_wp2_with fail
      go_meet
      case rel => exact ⟨d', none, 0, 0, rfl, hf', by rw [Ht.out.1, Ht.out.2]; exact h9.pull2.bufNil⟩
    | 10, _, hs =>
      have ht := abort_told hs
      have Hs := Lib.hid hs
      have Ht := Lib.hid ht
      clear hs ht
      go_wp2_with fail
      refine (abort_st h6 Hs.out).mono ?_
      rintro e w7 ⟨rfl, h8⟩
      have c2 := cell_of_obj h8.pull2.obj 2
      have f2 := frozen_of_obj h8.pull2.obj 2
      simp only [List.getElem?_toArray, List.getElem?_cons_zero, List.getElem?_cons_succ] at c2
      have h9 := h8.pull2.setCell (i := 2) (.int .i64 t.e)
      go_wp2_with fail
      go_meet
      case rel => exact ⟨d, none, 0, 0, rfl, hf, by rw [Ht.out.1, Ht.out.2]; exact h9.pull2.bufNil⟩
    | 11, _, hs =>
      obtain ⟨rfl, rfl⟩ : (⟨0, [], 0⟩ : Told) = t ∧ S = S' := by simpa [SpM.does] using hs
      clear hs
      go_wp2_with fail
      go_meet
      case rel => exact ⟨d, none, 0, 0, rfl, hf, h6.stLeast.bufNil⟩
    | n + 12, h, _ => exact absurd h (by omega)
  case rest =>
    obtain ⟨d', ad', l', c', rfl, hf', h7⟩ := hcut
    have hbn : bn ≤ 140737488355328 := by rw [h7.pull4.bufLen]; exact hbl
    clear h6
    go_upto_block 1 with (fail)
    go_cut [8] (fun _ wr => ∃ lo, Bears wr (bufA (.slice oa bn oc) lo * (bufA (.slice ad' l' c') t.b * (stA s p d' 1024 (outL 1024) S' * (Assn.obj w4.heap.size (.cells #[.int .i64 t.n, .string ⟨#[]⟩, .int .i64 t.e] 85 (0, 0)) * RR)))))
    case first =>
      go_wp2_with fail
      go_loopw [8] (fun i wr => ∃ j : Nat, j ≤ bn ∧ i = .int .i64 j ∧ ∃ lo : List UInt8, lo.length = bn ∧ Bears wr (bufA (.slice oa bn oc) lo * (bufA (.slice ad' l' c') t.b * (stA s p d' 1024 (outL 1024) S' * (Assn.obj w4.heap.size (.cells #[.int .i64 t.n, .string ⟨#[]⟩, .int .i64 t.e] 85 (0, 0)) * RR))))) (fun i _ => bn - (intOf i).toNat)
      case atStart => exact ⟨0, by omega, rfl, b, h7.pull4.bufLen.symm, h7.pull4⟩
      case round =>
        clear h7
        obtain ⟨j, hj, rfl, lo, hlo, h8⟩ := hrel
        by_cases hlt : j < bn
        · obtain ⟨g, o, rfl, hc, hfz, hset⟩ := h8.bufAt (j := j) (by omega)
          have h9 : Bears (wr.setCell ⟨g, o + j, none⟩ (.int .u8 99)) _ := hset 99
          have hl2 : (lo.set j 99).length = bn := by simpa using hlo
          generalize lo.getD j 0 = old at hc
          generalize lo.set j 99 = lo2 at h9 hl2
          have Hl2 := Lib.hid hl2
          unfold byteV at hc
          clear hset h8 hl2 hlo
          go_wp2_with fail
          go_roundw
          case rel => exact ⟨j + 1, hlt, by go_num, lo2, Hl2.out, h9⟩
          case measure => simp [intOf]; omega
        · go_wp2_with fail
          go_meet
          case rel => exact ⟨lo, h8⟩
    case rest =>
      obtain ⟨lo, h8⟩ := hcut
      have hb8 := buf_tells _ h8.right
      have hl8 : l' = t.b.length := h8.right.bufLen
      have c1 := cell_of_obj h8.pull4.obj 1
      have f1 := frozen_of_obj h8.pull4.obj 1
      simp only [List.getElem?_toArray, List.getElem?_cons_zero, List.getElem?_cons_succ] at c1
      have h9 : Bears (wc.setCell ⟨w4.heap.size, 1, none⟩ (strV t.b)) (Assn.obj w4.heap.size (.cells #[.int .i64 t.n, strV t.b, .int .i64 t.e] 85 (0, 0)) * _) := h8.pull4.setCell (i := 1) (strV t.b)
      have hbig : t.b.length ≤ 9223372036854775807 := by have := h8.right.bufMax; unfold maxLen at this; omega
      have Hl8 := Lib.hid hl8
      clear hl8 h7
      go_wp2_with (refine wpList_op rfl (exec_convert rfl rfl (run_convert_in hb8)) ?_)
      go_loopw [9] (fun i wr => ∃ j : Nat, j ≤ l' ∧ i = .int .i64 j ∧ ∃ lb : List UInt8, lb.length = l' ∧ Bears wr (bufA (.slice ad' l' c') lb * (Assn.obj w4.heap.size (.cells #[.int .i64 t.n, strV t.b, .int .i64 t.e] 85 (0, 0)) * (stA s p d' 1024 (outL 1024) S' * RR)))) (fun i _ => l' - (intOf i).toNat)
      case atStart => exact ⟨0, by omega, rfl, t.b, Hl8.out.symm, h9.pull2.right.pull2⟩
      case round =>
        obtain ⟨j, hj, rfl, lb, hlb, h10⟩ := hrel
        by_cases hlt : j < l'
        · obtain ⟨g, o, rfl, hc, hfz, hset⟩ := h10.bufAt (j := j) (by omega)
          have h11 : Bears (wr.setCell ⟨g, o + j, none⟩ (.int .u8 98)) _ := hset 98
          have hl2 : (lb.set j 98).length = l' := by simpa using hlb
          have hl' : l' ≤ 9223372036854775807 := by rw [Hl8.out]; exact hbig
          generalize lb.getD j 0 = old at hc
          generalize lb.set j 98 = lb2 at h11 hl2
          have Hl2 := Lib.hid hl2
          unfold byteV at hc
          clear hset h10 hl2 hlb h8 h9 hb8 c1 f1
          go_wp2_with fail
          go_roundw
          case rel => exact ⟨j + 1, hlt, by go_num, lb2, Hl2.out, h11⟩
          case measure => simp [intOf]; omega
        · have d0 := cell_of_obj h10.pull2.obj 0
          have d1 := cell_of_obj h10.pull2.obj 1
          have d2 := cell_of_obj h10.pull2.obj 2
          simp only [List.getElem?_toArray, List.getElem?_cons_zero, List.getElem?_cons_succ] at d0 d1 d2
          have h12 := h10.pull2.right.right
          rw [← HRR.out] at h12
          have h13 := h12.pull2
          clear h8 h9 hb8 c1 f1 h10
          go_wp2_with (refine wpList_store_obj h13 rfl rfl rfl rfl rfl (by kernel_rfl) (by intro v hv; simp at hv; rcases hv with rfl | rfl | rfl <;> rfl) ?_; intro w14 h14)
          have hr := rangeAt_of_obj h14.obj
          refine bodyPost_ret (results_cell rfl _ rfl (run_loadVar_mid w14 (w.heap.size + 1) 0 85 [.int .i64 t.n, strV t.b, .int .i64 t.e] _ hr Try.underlying85 rfl (by kernel_rfl))) rfl ?_
          exact ⟨d', rfl, hf', h14.right⟩

end Go.Proofs.Ytaiobekochhemaa

/- Which blocks of a space of 1024 sectors are taken; no program in sight but the contracts. -/
namespace Go.Proofs.Ytaiobekochhemaa
open Go.RowKit Go.MapKept

/-- The blocks that are taken, counted from the first. -/
structure Took (G : Nat → Sec) (f : Nat → Bool) : Prop where
  g64 : ∀ i, (G i).length = 64
  bits : ∀ m, m < 1024 → bitN G m = (decide (751 ≤ m) && f (m - 751))
theorem Took.fresh : Took (freshF 1024) (fun _ => false) := ⟨freshF64 1024, fun m _ => by rw [bitN_fresh]; simp⟩
theorem Took.alloc {G : Nat → Sec} {f : Nat → Bool} (h : Took G f) {k : Nat} (hk : k < 273) : Took (allocG G (751 + k)) (fun j => decide (j = k) || f j) := by
  refine ⟨alloc64 h.g64 _, fun m hm => ?_⟩
  rw [bitN_alloc (len := 1024) h.g64 (by rw [firstB1024]; omega) m hm, h.bits m hm]
  by_cases e : m = 751 + k
  · rw [if_pos e]; subst e; simp
  · rw [if_neg e]
    by_cases h7 : 751 ≤ m
    · have : ¬ m - 751 = k := by omega
      simp [h7, this]
    · simp [h7]
theorem Took.free {G : Nat → Sec} {f : Nat → Bool} (h : Took G f) {k : Nat} : Took (freeG G (751 + k)) (fun j => !decide (j = k) && f j) := by
  refine ⟨free64 h.g64 _, fun m hm => ?_⟩
  rw [bitN_free h.g64 m, h.bits m hm]
  by_cases e : m = 751 + k
  · rw [if_pos e]; subst e; simp
  · rw [if_neg e]
    by_cases h7 : 751 ≤ m
    · have : ¬ m - 751 = k := by omega
      simp [h7, this]
    · simp [h7]
theorem Took.congr {G : Nat → Sec} {f g : Nat → Bool} (h : Took G f) (he : ∀ j, j < 273 → f j = g j) : Took G g :=
  ⟨h.g64, fun m hm => by rw [h.bits m hm, he _ (by omega)]⟩
theorem Took.blk {G : Nat → Sec} {f : Nat → Bool} (h : Took G f) : blkN 1024 G = 273 - (cntB f 273 : Int) := by
  have e1 : cntB (bitN G) 1024 = cntB f 273 := by
    rw [show 1024 = 751 + 273 from rfl, cntB_add]
    have a1 : cntB (bitN G) 751 = 0 := by
      rw [cntB_congr (g := fun _ => false) 751 (fun i hi => by rw [h.bits i (by omega), decide_eq_false (by omega)]; rfl)]
      exact cntB_zero (fun _ => rfl) 751
    rw [a1, cntB_congr (g := f) 273 (fun i hi => by rw [h.bits _ (by omega), decide_eq_true (by omega), show 751 + i - 751 = i by omega]; rfl)]
    omega
  unfold blkN
  rw [usedTo_cnt, show 512 * mapsN 1024 = 1024 from by decide, e1, firstB1024]
  rfl
theorem Took.at {G : Nat → Sec} {f : Nat → Bool} (h : Took G f) {k : Nat} (hk : k < 273) : bitN G (751 + k) = f k := by
  rw [h.bits _ (by omega), decide_eq_true (by omega), show 751 + k - 751 = k by omega]
  rfl

theorem talloc_any {s p g : Nat} {k : List Nat} {d : DiskM} {F G : Nat → Sec} {R : Assn} {w : World} (h : Bears w (spA s p d 1024 g k true F G * R)) {f : Nat → Bool} (hT : Took G f) {j : Nat} (hj : j < 273) (hf : f j = false) (hfull : ∀ i, i < j → f i = true) :
    Calls Try.prog 49 #[.pointer (some ⟨s, 0, none⟩)] w fun e w' => e = .returned (.tuple #[.int .i64 ((751 + j : Nat) : Int), .int .i64 0]) ∧ Bears w' (spA s p d 1024 g (outL 1024) true F (allocG G (751 + j)) * R) :=
  (salloc_at (n := 751 + j) h (by rw [firstB1024]; omega) (by omega) (by rw [hT.at hj]; exact hf) (fun m h1 h2 => by
    rw [firstB1024] at h1
    obtain ⟨i, rfl⟩ : ∃ i, m = 751 + i := ⟨m - 751, by omega⟩
    rw [hT.at (by omega)]
    exact hfull i (by omega))).mono fun e w' ⟨he, hb⟩ => ⟨he, hb.spLeast⟩
theorem tfull_any {s p g : Nat} {k : List Nat} {d : DiskM} {F G : Nat → Sec} {R : Assn} {w : World} (h : Bears w (spA s p d 1024 g k true F G * R)) {f : Nat → Bool} (hT : Took G f) (hfull : ∀ i, i < 273 → f i = true) :
    Calls Try.prog 49 #[.pointer (some ⟨s, 0, none⟩)] w fun e w' => e = .returned (.tuple #[.int .i64 0, .int .i64 3]) ∧ Bears w' (spA s p d 1024 g k true F G * R) :=
  salloc_full h (fun m h1 h2 => by
    rw [firstB1024] at h1
    obtain ⟨i, rfl⟩ : ∃ i, m = 751 + i := ⟨m - 751, by omega⟩
    rw [hT.at (by omega)]
    exact hfull i (by omega))
theorem tfree_any {s p g : Nat} {k : List Nat} {d : DiskM} {F G : Nat → Sec} {R : Assn} {w : World} (h : Bears w (spA s p d 1024 g k true F G * R)) {f : Nat → Bool} (hT : Took G f) {j : Nat} (hj : j < 273) (hf : f j = true) :
    Calls Try.prog 51 #[.pointer (some ⟨s, 0, none⟩), .int .i64 ((751 + j : Nat) : Int)] w fun e w' => e = .returned (.int .i64 0) ∧ Bears w' (spA s p d 1024 g (outL 1024) true F (freeG G (751 + j)) * R) :=
  (sfree_at (n := 751 + j) h (by rw [firstB1024]; omega) (by omega) (by rw [hT.at hj]; exact hf)).mono fun e w' ⟨he, hb⟩ => ⟨he, hb.spLeast⟩
theorem tfree_no {s p g : Nat} {k : List Nat} {d : DiskM} {F G : Nat → Sec} {R : Assn} {w : World} (h : Bears w (spA s p d 1024 g k true F G * R)) {f : Nat → Bool} (hT : Took G f) {j : Nat} (hj : j < 273) (hf : f j = false) :
    Calls Try.prog 51 #[.pointer (some ⟨s, 0, none⟩), .int .i64 ((751 + j : Nat) : Int)] w fun e w' => e = .returned (.int .i64 41) ∧ Bears w' (spA s p d 1024 g k true F G * R) :=
  sfree_bad h _ (chk_unused (n := 751 + j) (by rw [firstB1024]; omega) (by omega) (by rw [hT.at hj]; exact hf)) (by decide)

theorem tblocks_any {s p g : Nat} {k : List Nat} {d : DiskM} {op : Bool} {F G : Nat → Sec} {R : Assn} {w : World} (h : Bears w (spA s p d 1024 g k op F G * R)) {f : Nat → Bool} (hT : Took G f) {v : Int} (hv : 273 - (cntB f 273 : Int) = v) :
    Calls Try.prog 18 #[.pointer (some ⟨s, 0, none⟩)] w fun e w' => e = .returned (.int .i64 v) ∧ Bears w' (spA s p d 1024 g k op F G * R) := by
  have := sblocks_any h
  rwa [hT.blk, hv] at this
theorem tread_any {s p g : Nat} {k : List Nat} {d : DiskM} {op : Bool} {F G : Nat → Sec} {R : Assn} {w : World} (h : Bears w (spA s p d 1024 g k op F G * R)) {f : Nat → Bool} (hT : Took G f) {j : Nat} (hj : j < 273) (hf : f j = true) {r : Sec} (hr : G (751 + j) = r) :
    Calls Try.prog 52 #[.pointer (some ⟨s, 0, none⟩), .int .i64 ((751 + j : Nat) : Int)] w fun e w' => ∃ ad cap, e = .returned (.tuple #[.slice ad 64 cap, .int .i64 0]) ∧ Bears w' (rowA 5 1 (.slice ad 64 cap) 64 (cellsV r) * (spA s p d 1024 g k op F G * R)) :=
  sreads_any h (751 + j) rfl (chk_used (n := 751 + j) (by rw [firstB1024]; omega) (by omega) (by rw [hT.at hj]; exact hf)) (by rw [firstB1024]; omega) (by omega) hr
theorem tcommit_any {s p g : Nat} {k : List Nat} {d : DiskM} {F G : Nat → Sec} {R : Assn} {w : World} (h : Bears w (spA s p d 1024 g k true F G * R)) (hf : d.fuse = -1) (hg : g < 4611686018427387904) :
    Calls Try.prog 53 #[.pointer (some ⟨s, 0, none⟩)] w fun e w' => ∃ d', e = .returned (.int .i64 0) ∧ d'.fuse = -1 ∧ Bears w' (spA s p d' 1024 (g + 1) [] false G G * R) :=
  scommit_any h.spLeast (outL_few (by decide) (by decide)) hf hg

/-- How many of a row hold, from k on. -/
def cntN (n : Nat) (lb : List Bool) (k : Nat) : Nat := cntB (fun j => decide (k ≤ j) && lb.getD j false) n
def cntL (lb : List Bool) (k : Nat) : Nat := cntN 273 lb k
theorem getD_rep (n j : Nat) : (List.replicate n false).getD j false = false := by
  rw [List.getD_eq_getElem?_getD, List.getElem?_replicate]
  split <;> rfl
theorem cntL_new (k : Nat) : cntL (List.replicate 273 false) k = 0 := cntB_zero (fun j => by rw [getD_rep]; simp) 273
theorem cntN_set {n : Nat} {lb : List Bool} {v : Nat} (hl : lb.length = n) (hv : v < n) (h : lb.getD v false = false) : cntN n (lb.set v true) 0 = cntN n lb 0 + 1 := by
  have e := cntB_put (f := fun j => decide (0 ≤ j) && lb.getD j false) (g := fun j => decide (0 ≤ j) && (lb.set v true).getD j false) (m := v) n hv (fun i _ hne => by
    simp only [List.getD_eq_getElem?_getD, List.getElem?_set_ne (Ne.symm hne)])
  have e2 : (lb.set v true).getD v false = true := by simp [List.getD_eq_getElem?_getD, hl, hv]
  simp only [h, e2] at e
  unfold cntN
  simpa using e
theorem cntL_set {lb : List Bool} {v : Nat} (hl : lb.length = 273) (hv : v < 273) (h : lb.getD v false = false) : cntL (lb.set v true) 0 = cntL lb 0 + 1 := cntN_set hl hv h
theorem cntL_same {lb : List Bool} {v : Nat} (h : lb.getD v false = true) : lb.set v true = lb := by
  apply List.ext_getElem? 
  intro i
  by_cases e : v = i
  · subst e
    rw [List.getD_eq_getElem?_getD] at h
    cases hx : lb[v]? with
    | none => simp [hx] at h
    | some y => simp [hx] at h; subst h; rw [List.getElem?_set_self (List.getElem?_eq_some_iff.1 hx).1]
  · rw [List.getElem?_set_ne e]
theorem cntN_step {n : Nat} {lb : List Bool} {k : Nat} (hk : k < n) : cntN n lb k = cntN n lb (k + 1) + (lb.getD k false).toNat := by
  have e := cntB_put (f := fun j => decide (k + 1 ≤ j) && lb.getD j false) (g := fun j => decide (k ≤ j) && lb.getD j false) (m := k) n hk (fun i _ hne => by
    have : decide (k ≤ i) = decide (k + 1 ≤ i) := by rw [decide_eq_decide]; omega
    simp only [this])
  have e3 : decide (k + 1 ≤ k) = false := decide_eq_false (by omega)
  have e4 : decide (k ≤ k) = true := decide_eq_true (Nat.le_refl k)
  simp only [e3, e4, Bool.false_and, Bool.true_and, Bool.toNat_false, Nat.add_zero] at e
  exact e
theorem cntL_step {lb : List Bool} {k : Nat} (hk : k < 273) : cntL lb k = cntL lb (k + 1) + (lb.getD k false).toNat := cntN_step hk
theorem cntN_end (n : Nat) (lb : List Bool) : cntN n lb n = 0 := by
  unfold cntN
  rw [cntB_congr (g := fun _ => false) n (fun i hi => by rw [decide_eq_false (by omega)]; rfl)]
  exact cntB_zero (fun _ => rfl) n
theorem cntL_end (lb : List Bool) : cntL lb 273 = 0 := cntN_end 273 lb
theorem cntB_le (f : Nat → Bool) : ∀ n, cntB f n ≤ n
  | 0 => Nat.le_refl _
  | n + 1 => by
    have := cntB_le f n
    simp only [cntB]
    have : (f n).toNat ≤ 1 := by cases f n <;> decide
    omega
theorem cntL_le (lb : List Bool) (k : Nat) : cntL lb k ≤ 273 := cntB_le _ _

theorem Took.none {G : Nat → Sec} {f : Nat → Bool} (h : Took G f) (hf : ∀ j, j < 273 → f j = true) : ∃ lb : List Bool, lb = List.replicate 273 false ∧ lb.length = 273 ∧ ((cntL lb 0 : Nat) : Int) = 0 ∧ Took G (fun j => !lb.getD j false) := by
  refine ⟨_, rfl, List.length_replicate, by rw [cntL_new]; rfl, h.congr (fun j hj => ?_)⟩
  rw [hf j hj]
  exact (congrArg not (getD_rep 273 j)).symm

end Go.Proofs.Ytaiobekochhemaa

/- From the readings of a row to what a walk is told of its slices; no condition. -/
namespace Go.Proofs.Ytaiobekochhemaa
open Go.RowKit

theorem old_tells {W : World} {p : World → Prop} (h : ∀ w, (∀ b, b < W.heap.size → w.heap[b]? = W.heap[b]?) → p w) : (Assn.old W.heap.size W).Tells p := by
  rintro w ⟨F, rfl, h0, _, _, _, h4⟩
  exact h w h4

/-- The form in which a slice of integers comes in. -/
abbrev RowIn (k : IntKind) (w : World) (a : Option Addr) (len cap : Nat) (zs : List Int) : Prop :=
  (a = none ∧ len = 0 ∧ cap = 0 ∧ zs = []) ∨
  ∃ x, a = some x ∧ len ≤ cap ∧ cap ≤ maxLen ∧ zs.length = cap ∧ (∀ i, i < zs.length → w.cell? (x.add i) = some (.int k (zs.getD i 0))) ∧ ∀ n ∈ zs, (Lit.int k n).wf = true

theorem addr_of_cell {w : World} {x : Addr} {v : Value} (h : w.cell? x = some v) : x = ⟨x.block, x.off, none⟩ := by
  unfold World.cell? at h
  split at h
  · cases hs : x.spot with
    | none => cases x; simp_all
    | some s => simp [hs] at h
  · cases h

theorem row_range {k : IntKind} {W : World} {a : Option Addr} {len cap : Nat} {zs : List Int} (h : RowIn k W a len cap zs) (hl : 0 < len) :
    ∃ b o, a = some ⟨b, o, none⟩ ∧ b < W.heap.size ∧ W.rangeAt b o ((zs.take len).map (Value.int k)) := by
  rcases h with ⟨_, h0, _⟩ | ⟨x, rfl, hlc, _, hz, hc, _⟩
  · omega
  · have h0 := hc 0 (by omega)
    have e0 : x.add 0 = x := by simp [Addr.add]
    rw [e0] at h0
    have ex := addr_of_cell h0
    refine ⟨x.block, x.off, by rw [← ex], World.block_lt_of_cell? W x h0, fun j v hv => ?_⟩
    rw [List.getElem?_map, List.getElem?_take] at hv
    split at hv
    · rename_i hj
      have hj' : j < zs.length := by omega
      have := hc j hj'
      rw [ex, Addr.add_mid] at this
      rw [this]
      rw [List.getElem?_eq_getElem hj'] at hv
      simp only [Option.map_some, Option.some.injEq] at hv
      rw [← hv, List.getD_eq_getElem?_getD, List.getElem?_eq_getElem hj']
      rfl
    · cases hv

theorem range_old {W w : World} {b o : Nat} {cs : List Value} (h : W.rangeAt b o cs) (hb : b < W.heap.size) (hw : ∀ b, b < W.heap.size → w.heap[b]? = W.heap[b]?) : w.rangeAt b o cs :=
  rangeAt_block h (hw b hb)

theorem row_bytes {W : World} {a : Option Addr} {len cap : Nat} {zs : List Int} (h : RowIn .u8 W a len cap zs) :
    ∃ l : List UInt8, l.length = len ∧ (Assn.old W.heap.size W).Tells (fun w => BytesIn w (.slice a len cap) l) ∧ len ≤ 9223372036854775807 := by
  have hlen : (zs.take len).length = len ∧ len ≤ 9223372036854775807 := by
    rcases h with ⟨_, rfl, _, rfl⟩ | ⟨x, _, hlc, hm, hz, _, _⟩
    · simp
    · unfold maxLen at hm
      simp; omega
  have hwf : ∀ n ∈ zs.take len, 0 ≤ n ∧ n ≤ 255 := by
    intro n hn
    rcases h with ⟨_, _, _, rfl⟩ | ⟨x, _, _, _, _, _, hw⟩
    · simp at hn
    · have := hw n (List.mem_of_mem_take hn)
      simp [Lit.wf, IntKind.min, IntKind.max, IntKind.signed, IntKind.bits] at this
      omega
  refine ⟨(zs.take len).map (fun n => UInt8.ofNat n.toNat), by simpa using hlen.1, old_tells (fun w hw => ?_), hlen.2⟩
  have hl2 : ((zs.take len).map (fun n => UInt8.ofNat n.toNat)).length = len := by simpa using hlen.1
  refine ⟨a, cap, by rw [hl2], fun hne => ?_⟩
  have hpos : 0 < len := by rw [← hl2]; exact List.length_pos_iff.2 hne
  obtain ⟨b, o, ha, hb, hr⟩ := row_range h hpos
  refine ⟨b, o, ha, ?_⟩
  have e : cellsV ((zs.take len).map (fun n => UInt8.ofNat n.toNat)) = (zs.take len).map (Value.int .u8) := by
    unfold cellsV
    rw [List.map_map]
    refine List.map_congr_left (fun n hn => ?_)
    have := hwf n hn
    simp only [Function.comp_apply, byteV]
    congr 1
    rw [UInt8.toNat_ofNat_of_lt' (by show n.toNat < 256; omega)]
    omega
  rw [e]
  exact range_old hr hb hw

theorem row_ints {W : World} {a : Option Addr} {len cap : Nat} {zs : List Int} (h : RowIn .i64 W a len cap zs) :
    ∃ l : List Int, l.length = len ∧ (Assn.old W.heap.size W).Tells (fun w => IntsIn w (.slice a len cap) l) ∧ len ≤ 9223372036854775807 ∧ ∀ x ∈ l, -9223372036854775808 ≤ x ∧ x ≤ 9223372036854775807 := by
  have hlen : (zs.take len).length = len ∧ len ≤ 9223372036854775807 := by
    rcases h with ⟨_, rfl, _, rfl⟩ | ⟨x, _, hlc, hm, hz, _, _⟩
    · simp
    · unfold maxLen at hm
      simp; omega
  refine ⟨zs.take len, hlen.1, old_tells (fun w hw => ?_), hlen.2, fun n hn => ?_⟩
  · refine ⟨a, cap, by rw [hlen.1], fun hne => ?_⟩
    have hpos : 0 < len := by rw [← hlen.1]; exact List.length_pos_iff.2 hne
    obtain ⟨b, o, ha, hb, hr⟩ := row_range h hpos
    exact ⟨b, o, ha, range_old hr hb hw⟩
  · rcases h with ⟨_, _, _, rfl⟩ | ⟨x, _, _, _, _, _, hw⟩
    · simp at hn
    · have := hw n (List.mem_of_mem_take hn)
      simp [Lit.wf, IntKind.min, IntKind.max, IntKind.signed, IntKind.bits] at this
      omega

theorem old_below {W w' : World} (h : Bears w' (Assn.old W.heap.size W)) : Below W.heap.size W w' := by
  obtain ⟨F, rfl, h0, h1, h2, h3, h4⟩ := h
  exact ⟨h1, h2, h3, h0, h4⟩

end Go.Proofs.Ytaiobekochhemaa
