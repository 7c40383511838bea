/- Texts of this claim, put together: AllocW12, AllocW13, AllocP, AllocT, AllocU, Buf, ALawA, ALawB, FullM, FullW, RowB, Ops; no condition. -/
import Derived.Test.YtaiobekochhemaaAllocFullB9
import Derived.ChangeKeysEq
import Derived.Laws.Append
import Derived.Laws.AppendOwn
import Derived.Test.YtaiobekochhemaaChecked
import Derived.Deep.Slices
import Derived.Deep.Fields

/- Sectors that are compared; Open; no condition. -/
namespace Go.Proofs.Ytaiobekochhemaa
open Go.RowKit Go.MapKept

theorem beq_toNat (x y : UInt8) : ((x.toNat : Int) == (y.toNat : Int)) = (x == y) := by
  rw [Bool.eq_iff_iff, beq_iff_eq, beq_iff_eq]
  constructor
  · intro h
    exact UInt8.toNat_inj.1 (by omega)
  · rintro h; rw [h]
theorem all_range {a b : List UInt8} {n : Nat} (ha : a.length = n) (hb : b.length = n) : ((List.range n).all fun i => a.getD i 0 == b.getD i 0) = decide (a = b) := by
  rw [Bool.eq_iff_iff, decide_eq_true_iff, List.all_eq_true]
  constructor
  · intro h
    refine List.ext_getElem (by omega) (fun j h1 h2 => ?_)
    have := h j (by simp; omega)
    rw [beq_iff_eq] at this
    simpa [h1, h2] using this
  · rintro rfl j _
    simp

theorem run_eqItems_bytes (w : World) (d : Nat) (a b : List UInt8) (is : List Nat) (hi : ∀ i ∈ is, i < a.length ∧ i < b.length) :
    (Op.eqItems (d + 1) 5 (Try.prog.cellsOf 5) (cellsV a).toArray (cellsV b).toArray is).run Try.prog w = .ok (is.all fun i => a.getD i 0 == b.getD i 0) w := by
  induction is with
  | nil => simp [Op.eqItems]
  | cons i is ih =>
    have h1 := (hi i (by simp)).1
    have h2 := (hi i (by simp)).2
    have hc : Try.prog.cellsOf 5 = 1 := by kernel_rfl
    have p1 : (part 5 (cellsV a).toArray (i * 1)).run Try.prog w = .ok (byteV (a.getD i 0)) w := run_part_plain w (by kernel_rfl) (by simp [cellsV, h1])
    have p2 : (part 5 (cellsV b).toArray (i * 1)).run Try.prog w = .ok (byteV (b.getD i 0)) w := run_part_plain w (by kernel_rfl) (by simp [cellsV, h2])
    have p3 : (Op.equalIn (d + 1) 5 (byteV (a.getD i 0)) (byteV (b.getD i 0))).run Try.prog w = .ok (a.getD i 0 == b.getD i 0) w := by
      unfold byteV
      rw [run_equalIn_int w d 5 .u8 .u8 _ _ Try.underlying5]
      rw [beq_toNat]
    have ih' := ih (fun j hj => hi j (by simp [hj]))
    rw [hc] at ih' ⊢
    simp only [Op.eqItems, Sem.run_bind, p1, p2, p3, Result.andThen_ok, List.all_cons]
    cases a.getD i 0 == b.getD i 0
    · simp
    · simpa using ih'

theorem neq_sec (w : World) (a b : Sec) (ha : a.length = 64) (hb : b.length = 64) : (binOp .neq 94 (.agg (cellsV a).toArray) (.agg (cellsV b).toArray)).run Try.prog w = .ok (.bool (!decide (a = b))) w := by
  obtain ⟨i, hi⟩ : ∃ i, Try.prog.info? 5 = some i := Option.isSome_iff_exists.1 (by kernel_rfl)
  rw [run_neq_struct, run_equalIn_array w 9999 _ _ u_asec hi, run_eqItems_bytes w 9998 a b _ (fun j hj => by simp at hj; omega)]
  simp only [Result.andThen_ok]
  rw [all_range ha hb]

set_option maxRecDepth 100000 in
set_option maxHeartbeats 400000 in
theorem space_args {p : Nat} {d : DiskM} {R : Assn} {w : World} (h : Bears w (diskA p d * R)) (hl : d.len < 1024 ∨ 8192 < d.len) (hb : d.len ≤ 8192) :
    Calls Try.prog 16 #[ptrB p] w fun e w' => e = .returned (.tuple #[.pointer none, .int .i64 1]) ∧ w' = w := by
  have e1 : firstN (d.len : Int) = 0 := by unfold firstN; rw [if_pos (by omega)]
  have E1 := Lib.hid e1
  clear e1
  go_enter Try.func16, Try.ntmps16
  go_wp2_with fail
  refine (len_any h).mono ?_
  rintro e w1 ⟨rfl, rfl⟩
  go_wp2_with fail
  refine (first_any (d.len : Int) _ (by omega)).mono ?_
  rintro e w2 ⟨rfl, rfl⟩
  rw [E1.out]
  go_wp2_with fail
  go_ret2
  exact ⟨rfl, rfl⟩

set_option maxRecDepth 100000 in
set_option maxHeartbeats 400000 in
theorem format_args {p : Nat} {d : DiskM} {R : Assn} {w : World} (h : Bears w (diskA p d * R)) (hl : d.len < 1024 ∨ 8192 < d.len) (hb : d.len ≤ 8192) :
    Calls Try.prog 17 #[ptrB p] w fun e w' => e = .returned (.int .i64 1) ∧ Bears w' (diskA p d * R) := by
  have e1 : firstN (d.len : Int) = 0 := by unfold firstN; rw [if_pos (by omega)]
  have E1 := Lib.hid e1
  have hb1 := (h.alloc (.cells #[ptrB p] 23))
  clear e1 h
  go_enter Try.func17, Try.ntmps17
  go_wp2_with fail
  refine (len_any hb1.pull2).mono ?_
  rintro e w1 ⟨rfl, rfl⟩
  go_wp2_with fail
  refine (first_any (d.len : Int) _ (by omega)).mono ?_
  rintro e w2 ⟨rfl, rfl⟩
  rw [E1.out]
  have hb2 := hb1.alloc (.cells #[.int .i64 0] 3)
  go_wp2_with fail
  go_ret
  exact ⟨rfl, hb2.right.right⟩

set_option maxRecDepth 100000 in
set_option maxHeartbeats 1000000 in
theorem space_none {p : Nat} {d : DiskM} {R : Assn} {w : World} (h : Bears w (diskA p d * R)) (ho : d.off = false) (hlo : 1024 ≤ d.len) (hhi : d.len ≤ 8192) {s0 : Sec} (hs0 : d.now 0 = s0) (hs64 : s0.length = 64) (hne : s0 ≠ superB d.len) :
    Calls Try.prog 16 #[ptrB p] w fun e w' => e = .returned (.tuple #[.pointer none, .int .i64 4]) ∧ Bears w' (diskA p d * R) := by
  have hfn := firstN_eq hlo hhi
  have hf621 : 621 ≤ firstB d.len := by unfold firstB; omega
  have hsl := superB_length d.len
  have hnq : ∀ w, (binOp .neq 94 (.agg (cellsV s0).toArray) (.agg (cellsV (superB d.len)).toArray)).run Try.prog w = .ok (.bool true) w := fun w => by
    rw [neq_sec w _ _ hs64 hsl, decide_eq_false hne]; rfl
  have hck : d.check 0 = 0 := by unfold DiskM.check; rw [ho, if_neg (by simp), if_neg (by omega)]
  have Hnq := Lib.hid hnq
  have H64 := Lib.hid hs64
  have Hs0 := Lib.hid hs0
  have Hfn := Lib.hid hfn
  have Hne := Lib.hid hne
  clear hnq hs64 hs0 hne hfn
  go_enter Try.func16, Try.ntmps16
  go_wp2_with fail
  refine (len_any h).mono ?_
  rintro e w1 ⟨rfl, rfl⟩
  go_wp2_with fail
  refine (first_any (d.len : Int) _ (by omega)).mono ?_
  rintro e w2 ⟨rfl, rfl⟩
  rw [Hfn.out]
  go_wp2_with fail
  refine (read_to 0 h hck Hs0.out).mono ?_
  rintro e w3 ⟨g, rfl, h3⟩
  go_wp2_with fail
  have hap : ∀ w, (Instr.arrayAt 94 (.slice (some ⟨g, 0, none⟩) 64 64)).run Try.prog w = .ok (.pointer (some ⟨g, 0, none⟩)) w := fun w => by kernel_rfl
  have hcl : (Try.prog.info? 94).map (·.size) = some (cellsV s0).length := by rw [length_cellsV, H64.out]; exact i_asec
  have hon : ∀ w, (∃ Q, Bears w (diskA p d * (Assn.obj g (.cells (cellsV s0).toArray 125 (0, 0)) * Q))) → w.rangeAt g 0 (cellsV s0) := fun w ⟨_, hq⟩ => rangeAt_of_obj hq.pull2.obj
  refine wp_region_L (fun w' => ∃ Q, Bears w' (diskA p d * (Assn.obj g (.cells (cellsV s0).toArray 125 (0, 0)) * Q))) 7 [(true, 0), (true, 1), (true, 2), (true, 3), (false, 4), (false, 5), (true, 6)] [] (by kernel_rfl) (by kernel_rfl) ⟨_, h3.pull2.drew⟩ ?_
  simp only [pick, List.getElem?_cons_zero, List.getElem?_cons_succ]
  refine wpL_guarded (v := ?_) rfl (fun w' hS => ?_) ?_
  rotate_left
  · (go_simp; try with_reducible rfl)
  simp only [Act.put, List.setIfInBounds_toArray, List.set_cons_zero, List.set_cons_succ]
  refine wpL_guarded (v := ?_) rfl (fun w' hS => ?_) ?_
  rotate_left
  · (go_simp; try with_reducible rfl)
  simp only [Act.put, List.setIfInBounds_toArray, List.set_cons_zero, List.set_cons_succ]
  refine wpL_load_mid 94 _ rfl rfl g 0 rfl (cellsV s0) _ hon u_asec rfl hcl ?_
  simp only [Act.put, List.setIfInBounds_toArray, List.set_cons_zero, List.set_cons_succ]
  refine wpL_guarded (v := ?_) rfl (fun w' hS => ?_) ?_
  rotate_left
  · (go_simp; try with_reducible rfl)
  simp only [Act.put, List.setIfInBounds_toArray, List.set_cons_zero, List.set_cons_succ]
  refine wpL_effG rfl ?_
  go_simp
  refine (len_any h3.pull2.drew).mono ?_
  rintro e w4 ⟨rfl, rfl⟩
  refine ⟨⟨_, h3.pull2.drew⟩, ?_⟩
  refine wpL_effG rfl ?_
  go_simp
  refine (super_any h3.pull2.drew d.len (by omega)).mono ?_
  rintro e w5 ⟨rfl, h5⟩
  refine ⟨⟨_, h5⟩, ?_⟩
  have hnq := Hnq.out
  have heg : Try.prog.eqGuardType Try.prog.depth 94 = false := by kernel_rfl
  simp only [secV]
  refine wpL_guarded (v := ?_) rfl (fun w' hS => ?_) ?_
  rotate_left
  · (go_simp; try with_reducible rfl)
  simp only [Act.put, List.setIfInBounds_toArray, List.set_cons_zero, List.set_cons_succ]
  refine wpL_nil ?_
  refine wpL_nil ?_
  go_wp2_with fail
  go_ret2
  exact ⟨rfl, h5.pull2.right⟩

set_option maxRecDepth 100000 in
set_option maxHeartbeats 1000000 in
theorem space_opens {p g0 : Nat} {d : DiskM} {F : Nat → Sec} {R : Assn} {w : World} (h : Bears w (diskA p d * R)) (hL : LogOn d 1 620 g0 F) (hlo : 1024 ≤ d.len) (hhi : d.len ≤ 8192) (hF : F 0 = superB d.len) (h64 : ∀ i, (F i).length = 64) (hg : g0 < 9223372036854775808) :
    Calls Try.prog 16 #[ptrB p] w fun e w' => ∃ s, e = .returned (.tuple #[ptrB s, .int .i64 0]) ∧ Bears w' (spA s p d d.len g0 [] false F F * R) := by
  have ho := hL.off
  have hs0 : d.now 0 = superB d.len := by rw [hL.now (by omega)]; exact hF
  have hs64 : (superB d.len).length = 64 := superB_length _
  obtain ⟨hop, hgr⟩ := hL.opens hg
  have hfew := hL.few 20000 (by omega)
  have hsp : SpOk d.len d g0 F F := ⟨hL, rfl, hlo, hhi, h64, h64⟩
  have hfn := firstN_eq hlo hhi
  have hf621 : 621 ≤ firstB d.len := by unfold firstB; omega
  have hfl : firstB d.len ≤ d.len := by unfold firstB mapsN; omega
  have hfm : firstB d.len = 621 + mapsN d.len + 128 := rfl
  have hnq : ∀ w, (binOp .neq 94 (.agg (cellsV (superB d.len)).toArray) (.agg (cellsV (superB d.len)).toArray)).run Try.prog w = .ok (.bool false) w := fun w => by
    rw [neq_sec w _ _ hs64 hs64, decide_eq_true rfl]; rfl
  have hck : d.check 0 = 0 := by unfold DiskM.check; rw [ho, if_neg (by simp), if_neg (by omega)]
  have Hnq := Lib.hid hnq
  have H64 := Lib.hid hs64
  have Hs0 := Lib.hid hs0
  have Hfn := Lib.hid hfn
  have Hop := Lib.hid hop
  have Hgr := Lib.hid hgr
  have Hsp := Lib.hid hsp
  have Hfm := Lib.hid hfm
  clear hnq hs64 hs0 hfn hop hgr hsp hF hfm
  go_enter Try.func16, Try.ntmps16
  go_wp2_with fail
  refine (len_any h).mono ?_
  rintro e w1 ⟨rfl, rfl⟩
  go_wp2_with fail
  refine (first_any (d.len : Int) _ (by omega)).mono ?_
  rintro e w2 ⟨rfl, rfl⟩
  rw [Hfn.out]
  go_wp2_with fail
  refine (read_to 0 h hck Hs0.out).mono ?_
  rintro e w3 ⟨g, rfl, h3⟩
  go_wp2_with fail
  have hap : ∀ w, (Instr.arrayAt 94 (.slice (some ⟨g, 0, none⟩) 64 64)).run Try.prog w = .ok (.pointer (some ⟨g, 0, none⟩)) w := fun w => by kernel_rfl
  have hcl : (Try.prog.info? 94).map (·.size) = some (cellsV (superB d.len)).length := by rw [length_cellsV, H64.out]; exact i_asec
  have hon : ∀ w, (∃ Q, Bears w (diskA p d * (Assn.obj g (.cells (cellsV (superB d.len)).toArray 125 (0, 0)) * Q))) → w.rangeAt g 0 (cellsV (superB d.len)) := fun w ⟨_, hq⟩ => rangeAt_of_obj hq.pull2.obj
  refine wp_region_L (fun w' => ∃ Q, Bears w' (diskA p d * (Assn.obj g (.cells (cellsV (superB d.len)).toArray 125 (0, 0)) * Q))) 7 [(true, 0), (true, 1), (true, 2), (true, 3), (false, 4), (false, 5), (true, 6)] [] (by kernel_rfl) (by kernel_rfl) ⟨_, h3.pull2.drew⟩ ?_
  simp only [pick, List.getElem?_cons_zero, List.getElem?_cons_succ]
  refine wpL_guarded (v := ?_) rfl (fun w' hS => ?_) ?_
  rotate_left
  · (go_simp; try with_reducible rfl)
  simp only [Act.put, List.setIfInBounds_toArray, List.set_cons_zero, List.set_cons_succ]
  refine wpL_guarded (v := ?_) rfl (fun w' hS => ?_) ?_
  rotate_left
  · (go_simp; try with_reducible rfl)
  simp only [Act.put, List.setIfInBounds_toArray, List.set_cons_zero, List.set_cons_succ]
  refine wpL_load_mid 94 _ rfl rfl g 0 rfl (cellsV (superB d.len)) _ hon u_asec rfl hcl ?_
  simp only [Act.put, List.setIfInBounds_toArray, List.set_cons_zero, List.set_cons_succ]
  refine wpL_guarded (v := ?_) rfl (fun w' hS => ?_) ?_
  rotate_left
  · (go_simp; try with_reducible rfl)
  simp only [Act.put, List.setIfInBounds_toArray, List.set_cons_zero, List.set_cons_succ]
  refine wpL_effG rfl ?_
  go_simp
  refine (len_any h3.pull2.drew).mono ?_
  rintro e w4 ⟨rfl, rfl⟩
  refine ⟨⟨_, h3.pull2.drew⟩, ?_⟩
  refine wpL_effG rfl ?_
  go_simp
  refine (super_any h3.pull2.drew d.len (by omega)).mono ?_
  rintro e w5 ⟨rfl, h5⟩
  refine ⟨⟨_, h5⟩, ?_⟩
  have hnq := Hnq.out
  have heg : Try.prog.eqGuardType Try.prog.depth 94 = false := by kernel_rfl
  simp only [secV]
  refine wpL_guarded (v := ?_) rfl (fun w' hS => ?_) ?_
  rotate_left
  · (go_simp; try with_reducible rfl)
  simp only [Act.put, List.setIfInBounds_toArray, List.set_cons_zero, List.set_cons_succ]
  refine wpL_nil ?_
  refine wpL_nil ?_
  go_wp2_with fail
  have h6 : Bears w5 (diskA p d * R) := h5.pull2.right
  refine (open_yes h6 Hop.out Hgr.out (by omega) (by omega) hfew).mono ?_
  rintro e w7 ⟨x, rfl, h7⟩
  go_wp2_with fail
  refine (cnew_ok h7 p x 64 (by omega) (by omega)).mono ?_
  rintro e w8 ⟨c, rfl, h8⟩
  go_wp2_with fail
  refine (len_any h8.pull3).mono ?_
  rintro e w9 ⟨rfl, rfl⟩
  go_wp2_with fail
  go_ret2
  have e1 : ((firstB d.len : Int) - 621 - 128) = ((mapsN d.len : Nat) : Int) := by have := Hfm.out; omega
  have e2 : ((d.len : Int) - (firstB d.len : Int)) = ((d.len - firstB d.len : Nat) : Int) := by omega
  rw [e1, e2]
  have h9 := h8.alloc (.cells #[.pointer (some ⟨c, 0, none⟩), .pointer (some ⟨x, 0, none⟩), .int .i64 (mapsN d.len), .int .i64 (firstB d.len), .int .i64 ((d.len - firstB d.len : Nat) : Int)] 97)
  have h10 : Bears _ (cacheA c p x (CacheM.new 64) * (spObj w8.heap.size c x d.len * (diskA p d * (walObj x p 1 620 (g0 : Int) * R)))) := h9.pull2.c34
  have h11 := Bears.cv.2 ⟨CacheM.new 64, CV.new (a := 1) (s := 620) (F := F) (m := 64) hhi, h10⟩
  exact ⟨w8.heap.size, rfl, Bears.sp.2 ⟨c, x, Hsp.out, h11.pull2⟩⟩

end Go.Proofs.Ytaiobekochhemaa

/- A new space; a transaction's bound; no condition. -/
namespace Go.Proofs.Ytaiobekochhemaa
open Go.RowKit Go.MapKept

/-- What a new space has. -/
def freshF (n : Nat) : Nat → Sec := updS (fun _ => zeroSec) 0 (superB n)
theorem freshF64 (n i : Nat) : (freshF n i).length = 64 := upd64 (fun _ => rfl) 0 (superB_length n) i

theorem DiskM.new_plain (n : Nat) : (DiskM.new n).Plain := ⟨rfl, rfl⟩
theorem fmtD7 (d d3 : DiskM) (f : Nat) : fmtD d d3 f 7 = ((cleanD d3 (f - 621)).bar.put 0 (superB d.len)).bar := rfl

theorem format_new {p n : Nat} {R : Assn} {w : World} (hlo : 1024 ≤ n) (hhi : n ≤ 8192) (h : Bears w (diskA p (DiskM.new n) * R)) :
    Calls Try.prog 17 #[ptrB p] w fun e w' => ∃ d, e = .returned (.int .i64 0) ∧ LogOn d 1 620 0 (freshF n) ∧ d.fuse = -1 ∧ d.len = n ∧ Bears w' (diskA p d * R) := by
  have hz : ∀ i, ((DiskM.new n).put 0 zeroSec).bar.now i = zeroSec := fun i => by
    rw [now_bar, now_put]
    unfold updS
    split
    · rfl
    · rfl
  obtain ⟨d3, h1, h2, h3, h4⟩ := formats (d := ((DiskM.new n).put 0 zeroSec).bar) (a := 1) (s := 620) (F := fun _ => zeroSec) rfl rfl (by decide) (by show 1 + 620 ≤ n; omega) hhi (fun i _ => hz i)
  have hp3 : d3.Plain := ⟨h2.off, h3⟩
  refine (format_space h (DiskM.new_plain n) hlo hhi (by show 0 + 10000 < 1099511627776; omega) h1 hp3 h4 h2.quiet).mono ?_
  rintro e w' ⟨rfl, h5⟩
  rw [fmtD7, show (DiskM.new n).len = n from rfl] at h5
  rw [show ((DiskM.new n).put 0 zeroSec).bar.len = n from rfl] at h4
  generalize firstB n - 621 = q at h5
  refine ⟨_, rfl, ?_, ?_, ?_, h5⟩
  · obtain ⟨c1, c2, c3, c4, c5⟩ := cleanD_is hp3 q
    have hl : ((cleanD d3 q).bar.put 0 (superB n)).bar.len = n := c2.trans h4
    have hs : ∀ i, ((cleanD d3 q).bar.put 0 (superB n)).bar.sure i = updS (cleanD d3 q).now 0 (superB n) i := fun i => by
      show ((cleanD d3 q).bar.put 0 (superB n)).now i = _
      rw [now_put, now_bar]
    refine ⟨c1.off, rfl, by decide, by rw [hl]; omega, by rw [hl]; omega, ?_, fun i hi => ?_⟩
    · rw [hs]
      unfold updS
      rw [if_neg (by decide), c5, if_neg (by omega), now_quiet h2.quiet]
      exact h2.rest.head
    · rw [hs]
      unfold freshF updS
      by_cases h0 : i = 0
      · rw [if_pos h0, if_pos h0]
      · rw [if_neg h0, if_neg h0, c5]
        split
        · rfl
        · exact h2.now (by omega)
  · exact (cleanD_is hp3 q).1.fuse
  · exact (cleanD_is hp3 q).2.1.trans h4

end Go.Proofs.Ytaiobekochhemaa

/- What a space's bits count; no program in sight. -/
namespace Go.Proofs.Ytaiobekochhemaa
open Go.RowKit Go.MapKept

/-- How many hold, below n. -/
def cntB (f : Nat → Bool) : Nat → Nat
  | 0 => 0
  | n + 1 => cntB f n + (f n).toNat
theorem cntB_add (f : Nat → Bool) (a : Nat) : ∀ b, cntB f (a + b) = cntB f a + cntB (fun i => f (a + i)) b
  | 0 => rfl
  | b + 1 => by
    show cntB f (a + b) + (f (a + b)).toNat = _
    rw [cntB_add f a b]
    simp only [cntB]
    omega
theorem cntB_congr {f g : Nat → Bool} : ∀ n, (∀ i, i < n → f i = g i) → cntB f n = cntB g n
  | 0, _ => rfl
  | n + 1, h => by
    simp only [cntB]
    rw [cntB_congr n (fun i hi => h i (by omega)), h n (by omega)]
theorem cntB_put {f g : Nat → Bool} {m : Nat} : ∀ n, m < n → (∀ i, i < n → i ≠ m → g i = f i) → cntB g n + (f m).toNat = cntB f n + (g m).toNat
  | n + 1, hm, h => by
    simp only [cntB]
    by_cases e : m = n
    · subst e
      rw [cntB_congr m (fun i hi => h i (by omega) (by omega))]
      omega
    · have := cntB_put n (by omega) (fun i hi hne => h i (by omega) hne)
      rw [h n (by omega) (fun h => e h.symm)]
      omega
theorem ones_cnt : ∀ x : Fin 256, Lib.onesCount x.val = cntB (fun b => x.val.testBit b) 8 := by decide +kernel
theorem onesTo_cnt (r : Sec) : ∀ j, onesTo r j = cntB (bitOf r) (8 * j)
  | 0 => rfl
  | j + 1 => by
    have h := ones_cnt ⟨(r.getD j 0).toNat, (r.getD j 0).toNat_lt⟩
    simp only at h
    rw [show 8 * (j + 1) = 8 * j + 8 by omega, cntB_add, ← onesTo_cnt r j]
    have e := cntB_congr (f := fun b => (r.getD j 0).toNat.testBit b) (g := fun i => bitOf r (8 * j + i)) 8 (fun i hi => by
      simp only [bitOf]
      rw [show (8 * j + i) / 8 = j by omega, show (8 * j + i) % 8 = i by omega])
    rw [← e, ← h]
    rfl
theorem usedTo_cnt (G : Nat → Sec) : ∀ i, usedTo G i = cntB (bitN G) (512 * i)
  | 0 => rfl
  | i + 1 => by
    rw [show 512 * (i + 1) = 512 * i + 512 by omega, cntB_add, ← usedTo_cnt G i]
    have e := cntB_congr (f := bitOf (G (621 + i))) (g := fun k => bitN G (512 * i + k)) 512 (fun k hk => by
      simp only [bitN]
      rw [show (512 * i + k) / 512 = i by omega, show (512 * i + k) % 512 = k by omega])
    rw [← e, show 512 = 8 * 64 from rfl, ← onesTo_cnt]
    rfl

theorem bitSet_bits : ∀ (c : Fin 256) (j b : Fin 8) (u : Bool), ((UInt8.ofNat ((c.val - (if c.val.testBit j.val then 2 ^ j.val else 0)) + (if u then 2 ^ j.val else 0))).toNat.testBit b.val) = (if b.val = j.val then u else c.val.testBit b.val) := by decide +kernel
theorem bitOf_set {r : Sec} (hr : r.length = 64) {k : Nat} (hk : k < 512) (u : Bool) (m : Nat) : bitOf (secSet r k u) m = if m = k then u else bitOf r m := by
  unfold bitOf secSet
  have h := bitSet_bits ⟨(r.getD (k / 8) 0).toNat, (r.getD (k / 8) 0).toNat_lt⟩ ⟨k % 8, by omega⟩ ⟨m % 8, by omega⟩ u
  simp only at h
  by_cases e : m / 8 = k / 8
  · have e2 : (r.set (k / 8) (bitSet (r.getD (k / 8) 0) (k % 8) u)).getD (m / 8) 0 = bitSet (r.getD (k / 8) 0) (k % 8) u := by
      rw [e]; simp [List.getD, hr, show k / 8 < 64 by omega]
    rw [e2]
    unfold bitSet
    rw [h, e]
    by_cases e3 : m % 8 = k % 8
    · rw [if_pos e3, if_pos (by omega)]
    · rw [if_neg e3, if_neg (fun h => e3 (by rw [h]))]
  · have e2 : (r.set (k / 8) (bitSet (r.getD (k / 8) 0) (k % 8) u)).getD (m / 8) 0 = r.getD (m / 8) 0 := by
      rw [List.getD_eq_getElem?_getD, List.getElem?_set_ne (fun h => e h.symm), ← List.getD_eq_getElem?_getD]
    rw [e2, if_neg (fun h => e (by rw [h]))]
theorem bitN_set {G : Nat → Sec} (h64 : ∀ i, (G i).length = 64) (n : Nat) (u : Bool) (m : Nat) :
    bitN (updS G (621 + n / 512) (secSet (G (621 + n / 512)) (n % 512) u)) m = if m = n then u else bitN G m := by
  unfold bitN updS
  by_cases e : m / 512 = n / 512
  · rw [if_pos (by omega), bitOf_set (h64 _) (by omega), e]
    by_cases e2 : m = n
    · rw [if_pos (by omega), if_pos e2]
    · rw [if_neg (by omega), if_neg e2]
  · rw [if_neg (by omega), if_neg (fun h => e (by rw [h]))]
theorem bitN_other {G : Nat → Sec} {i : Nat} {b : Sec} {m : Nat} (h : 621 + m / 512 ≠ i) : bitN (updS G i b) m = bitN G m := by
  unfold bitN updS
  rw [if_neg h]

end Go.Proofs.Ytaiobekochhemaa

/- The space's functions, with what they answer named; no condition. -/
namespace Go.Proofs.Ytaiobekochhemaa
open Go.RowKit Go.MapKept

/-- A block that is taken, or given back. -/
def allocG (G : Nat → Sec) (n : Nat) : Nat → Sec := updS (updS G (621 + n / 512) (secSet (G (621 + n / 512)) (n % 512) true)) n zeroSec
def freeG (G : Nat → Sec) (n : Nat) : Nat → Sec := updS G (621 + n / 512) (secSet (G (621 + n / 512)) (n % 512) false)
theorem map_lt {len m : Nat} (hm : m < len) : 621 + m / 512 < 621 + mapsN len := by unfold mapsN; omega
theorem bitN_alloc {G : Nat → Sec} {len n : Nat} (h64 : ∀ i, (G i).length = 64) (hn : firstB len ≤ n) (m : Nat) (hm : m < len) : bitN (allocG G n) m = if m = n then true else bitN G m := by
  unfold allocG
  rw [bitN_other (by have := map_lt hm; unfold firstB at hn; omega), bitN_set h64]
theorem bitN_free {G : Nat → Sec} {n : Nat} (h64 : ∀ i, (G i).length = 64) (m : Nat) : bitN (freeG G n) m = if m = n then false else bitN G m := by
  unfold freeG
  rw [bitN_set h64]
theorem secSet64 {r : Sec} (h : r.length = 64) (k : Nat) (u : Bool) : (secSet r k u).length = 64 := by simp [secSet, h]
theorem alloc64 {G : Nat → Sec} (h64 : ∀ i, (G i).length = 64) (n i : Nat) : (allocG G n i).length = 64 :=
  upd64 (upd64 h64 _ (secSet64 (h64 _) _ _)) n rfl i
theorem free64 {G : Nat → Sec} (h64 : ∀ i, (G i).length = 64) (n i : Nat) : (freeG G n i).length = 64 := upd64 h64 _ (secSet64 (h64 _) _ _) i

theorem salloc_at {s p len g : Nat} {k : List Nat} {d : DiskM} {F G : Nat → Sec} {R : Assn} {w : World} (h : Bears w (spA s p d len g k true F G * R)) {n : Nat} (hn : firstB len ≤ n) (hn2 : n < len) (hf : bitN G n = false) (hfull : ∀ m, firstB len ≤ m → m < n → bitN G m = true) :
    Calls Try.prog 49 #[.pointer (some ⟨s, 0, none⟩)] w fun e w' => e = .returned (.tuple #[.int .i64 n, .int .i64 0]) ∧ Bears w' (spA s p d len g (n :: (621 + n / 512) :: k) true F (allocG G n) * R) := by
  refine (salloc_any h).mono ?_
  rintro e w' (⟨m, h1, h2, h3, h4, rfl, h5⟩ | ⟨h1, _⟩)
  · have : m = n := by
      rcases Nat.lt_trichotomy m n with q | q | q
      · have := hfull m h1 q; rw [h3] at this; cases this
      · exact q
      · have := h4 n q hn hn2; rw [hf] at this; cases this
    subst this
    exact ⟨rfl, h5⟩
  · have := h1 n hn2 hn hn2; rw [hf] at this; cases this
theorem salloc_full {s p len g : Nat} {k : List Nat} {d : DiskM} {F G : Nat → Sec} {R : Assn} {w : World} (h : Bears w (spA s p d len g k true F G * R)) (hfull : ∀ m, firstB len ≤ m → m < len → bitN G m = true) :
    Calls Try.prog 49 #[.pointer (some ⟨s, 0, none⟩)] w fun e w' => e = .returned (.tuple #[.int .i64 0, .int .i64 3]) ∧ Bears w' (spA s p d len g k true F G * R) := by
  refine (salloc_any h).mono ?_
  rintro e w' (⟨m, h1, h2, h3, h4, rfl, h5⟩ | ⟨h1, rfl, h2⟩)
  · have := hfull m h1 h2; rw [h3] at this; cases this
  · exact ⟨rfl, h2⟩
theorem chk_used {len : Nat} {G : Nat → Sec} {n : Nat} (h1 : firstB len ≤ n) (h2 : n < len) (hb : bitN G n = true) : chkN len G n = 0 := by
  unfold chkN
  rw [if_neg (by omega), Int.toNat_natCast, if_pos (by unfold bitN at hb; exact hb)]
theorem chk_unused {len : Nat} {G : Nat → Sec} {n : Nat} (h1 : firstB len ≤ n) (h2 : n < len) (hb : bitN G n = false) : chkN len G n = 41 := by
  unfold chkN
  rw [if_neg (by omega), Int.toNat_natCast, if_neg (by unfold bitN at hb; rw [hb]; decide)]
theorem sfree_at {s p len g : Nat} {k : List Nat} {d : DiskM} {F G : Nat → Sec} {R : Assn} {w : World} (h : Bears w (spA s p d len g k true F G * R)) {n : Nat} (h1 : firstB len ≤ n) (h2 : n < len) (hb : bitN G n = true) :
    Calls Try.prog 51 #[.pointer (some ⟨s, 0, none⟩), .int .i64 n] w fun e w' => e = .returned (.int .i64 0) ∧ Bears w' (spA s p d len g ((621 + n / 512) :: k) true F (freeG G n) * R) :=
  sfree_any h n rfl (chk_used h1 h2 hb) h2 rfl

/-- A new space's bits, blocks and inodes. -/
theorem freshF_other {n i : Nat} (h : i ≠ 0) : freshF n i = zeroSec := by unfold freshF updS; rw [if_neg h]
theorem zero_getD (i : Nat) : zeroSec.getD i 0 = 0 := by
  unfold zeroSec
  rw [List.getD_eq_getElem?_getD, List.getElem?_replicate]
  split <;> rfl
theorem bitN_fresh (n m : Nat) : bitN (freshF n) m = false := by
  unfold bitN bitOf
  rw [freshF_other (by omega), zero_getD]
  simp
theorem cntB_zero {f : Nat → Bool} (h : ∀ i, f i = false) : ∀ n, cntB f n = 0
  | 0 => rfl
  | n + 1 => by
    simp only [cntB]
    rw [cntB_zero h n, h]
    rfl
theorem blk_fresh (n m : Nat) : blkN n (freshF m) = ((n - firstB n : Nat) : Int) := by
  unfold blkN
  rw [usedTo_cnt, cntB_zero (bitN_fresh m)]
  simp
theorem ifree_fresh (n m j : Nat) : ifreeB n (freshF m) j = true := by
  unfold ifreeB
  rw [freshF_other (by unfold iSec; omega), zero_getD]
  rfl
theorem ifreeTo_fresh (n m : Nat) : ∀ j, ifreeTo n (freshF m) j = j
  | 0 => rfl
  | j + 1 => by
    simp only [ifreeTo]
    rw [ifreeTo_fresh n m j, ifree_fresh]
    rfl
theorem blk_alloc {G : Nat → Sec} {len n : Nat} (h64 : ∀ i, (G i).length = 64) (hn : firstB len ≤ n) (h2 : n < len) (h8 : 512 * mapsN len ≤ len) (hb : bitN G n = false) : blkN len (allocG G n) = blkN len G - 1 := by
  have h := cntB_put (f := bitN G) (g := bitN (allocG G n)) (m := n) (512 * mapsN len) (by unfold mapsN; omega) (fun i hi hne => by rw [bitN_alloc h64 hn i (by omega), if_neg hne])
  rw [hb, bitN_alloc h64 hn n h2, if_pos rfl, ← usedTo_cnt, ← usedTo_cnt] at h
  unfold blkN
  simp at h
  omega
theorem blk_free {G : Nat → Sec} {len n : Nat} (h64 : ∀ i, (G i).length = 64) (h2 : n < len) (hb : bitN G n = true) : blkN len (freeG G n) = blkN len G + 1 := by
  have h := cntB_put (f := bitN G) (g := bitN (freeG G n)) (m := n) (512 * mapsN len) (by unfold mapsN; omega) (fun i hi hne => by rw [bitN_free h64, if_neg hne])
  rw [hb, bitN_free h64, if_pos rfl, ← usedTo_cnt, ← usedTo_cnt] at h
  unfold blkN
  simp at h
  omega

end Go.Proofs.Ytaiobekochhemaa

/- A transaction on a small space always fits; no condition. -/
namespace Go.Proofs.Ytaiobekochhemaa
open Go.RowKit Go.MapKept

/-- The sectors outside the log. -/
def outL (len : Nat) : List Nat := 0 :: (List.range (len - 621)).map (621 + ·)
theorem outL_few {len : Nat} (h : len ≤ 1220) (_h2 : 621 ≤ len) : Few (outL len) 600 := Few.of (by simp [outL]; omega)
/-- However often sectors were written: none is pinned but those outside the log. -/
theorem CV.least {len : Nat} {k : List Nat} {F G : Nat → Sec} {op : Bool} {cm : CacheM} (h : CV len 1 620 F G k op cm) : CV len 1 620 F G (outL len) op cm :=
  ⟨h.nodup, h.out, h.free, h.view, fun y hy _ => by
    have o := h.out y hy
    unfold outL
    by_cases e : y.at'.toNat = 0
    · rw [e]; simp
    · refine List.mem_cons_of_mem _ (List.mem_map.2 ⟨y.at'.toNat - 621, ?_, by omega⟩)
      rw [List.mem_range]; omega, h.opn, h.len⟩
theorem Bears.spSub {s p len g : Nat} {k k' : List Nat} {d : DiskM} {F G : Nat → Sec} {op : Bool} {R : Assn} {w : World} (h : Bears w (spA s p d len g k op F G * R)) (hs : ∀ i ∈ k, i ∈ k') : Bears w (spA s p d len g k' op F G * R) := by
  obtain ⟨c, x, hok, h0⟩ := Bears.sp.1 h
  exact Bears.sp.2 ⟨c, x, hok, (h0.pull2.cvSub hs).pull2⟩
theorem Bears.spLeast {s p len g : Nat} {k : List Nat} {d : DiskM} {F G : Nat → Sec} {op : Bool} {R : Assn} {w : World} (h : Bears w (spA s p d len g k op F G * R)) : Bears w (spA s p d len g (outL len) op F G * R) := by
  obtain ⟨c, x, hok, h0⟩ := Bears.sp.1 h
  obtain ⟨cm, hV, h1⟩ := Bears.cv.1 h0.pull2
  exact Bears.sp.2 ⟨c, x, hok, (Bears.cv.2 ⟨cm, hV.least, h1⟩).pull2⟩

end Go.Proofs.Ytaiobekochhemaa

/- A slice of bytes that nobody else has: a part of a row; append onto nothing; no condition. -/
namespace Go.Proofs.Ytaiobekochhemaa
open Go.RowKit Go.MapKept

/-- The slice v has the bytes l, and lies in a block of its own. -/
def bufA (v : Value) (l : List UInt8) : Assn := Assn.ex fun (z : Option (Nat × Nat × List UInt8 × List UInt8)) => match z with
  | none => Assn.fact (∃ ad c, v = .slice ad 0 c ∧ l = [])
  | some (g, cap, pre, post) => Assn.fact (∃ c, v = .slice (some ⟨g, pre.length, none⟩) l.length c) *
      rowA 5 1 (.slice (some ⟨g, 0, none⟩) (pre ++ l ++ post).length cap) (pre ++ l ++ post).length (cellsV (pre ++ l ++ post))

theorem Bears.bufNil {w : World} {ad : Option Addr} {c : Nat} {R : Assn} (h : Bears w R) : Bears w (bufA (.slice ad 0 c) [] * R) := by
  unfold bufA
  rw [Bears.ex]
  exact ⟨none, Bears.fact.2 ⟨⟨ad, c, rfl, rfl⟩, h⟩⟩
theorem Bears.bufPart {w : World} {g c cap n : Nat} {pre l post : List UInt8} {R : Assn} (h : Bears w (rowA 5 1 (.slice (some ⟨g, 0, none⟩) n cap) n (cellsV (pre ++ l ++ post)) * R)) (hn : n = (pre ++ l ++ post).length) :
    Bears w (bufA (.slice (some ⟨g, pre.length, none⟩) l.length c) l * R) := by
  subst hn
  unfold bufA
  rw [Bears.ex]
  refine ⟨some (g, cap, pre, post), ?_⟩
  simp only [Assn.mul_assoc']
  exact Bears.fact.2 ⟨⟨c, rfl⟩, h⟩
theorem Bears.bufCases {w : World} {v : Value} {l : List UInt8} {R : Assn} (h : Bears w (bufA v l * R)) : (l = [] ∧ ∃ ad c, v = .slice ad 0 c) ∨
    ∃ g cap c pre post, v = .slice (some ⟨g, pre.length, none⟩) l.length c ∧ Bears w (rowA 5 1 (.slice (some ⟨g, 0, none⟩) (pre ++ l ++ post).length cap) (pre ++ l ++ post).length (cellsV (pre ++ l ++ post)) * R) := by
  unfold bufA at h
  rw [Bears.ex] at h
  obtain ⟨z, h⟩ := h
  match z with
  | none =>
    obtain ⟨⟨ad, c, h1, h2⟩, _⟩ := Bears.fact.1 h
    exact .inl ⟨h2, ad, c, h1⟩
  | some (g, cap, pre, post) =>
    simp only [Assn.mul_assoc'] at h
    obtain ⟨⟨c, h1⟩, h2⟩ := Bears.fact.1 h
    exact .inr ⟨g, cap, c, pre, post, h1, h2⟩
theorem Bears.bufRow {w : World} {ad : Option Addr} {n c : Nat} {l : List UInt8} {R : Assn} (h : Bears w (rowA 5 1 (.slice ad n c) n (cellsV l) * R)) : Bears w (bufA (.slice ad n c) l * R) := by
  obtain ⟨hl, hr⟩ := h.row
  rcases hr with ⟨e1, e2⟩ | ⟨g, cap, cur, hv, _⟩
  · subst e2
    have : l = [] := by
      have : l.length = 0 := by simpa using hl
      exact List.length_eq_zero_iff.1 this
    subst this
    cases e1
    exact (h.right).bufNil
  · simp only [Value.slice.injEq] at hv
    obtain ⟨rfl, _, rfl⟩ := hv
    have hn : n = l.length := by simpa using hl.symm
    have := Bears.bufPart (pre := []) (post := []) (c := c) (l := l) (by simpa using h) (by simpa using hn)
    rw [hn]
    exact this
theorem Bears.bufLen {w : World} {ad : Option Addr} {n c : Nat} {l : List UInt8} {R : Assn} (h : Bears w (bufA (.slice ad n c) l * R)) : n = l.length := by
  rcases h.bufCases with ⟨rfl, _, _, e⟩ | ⟨_, _, _, _, _, e, _⟩
  · simp only [Value.slice.injEq] at e; simp [e.2.1]
  · simp only [Value.slice.injEq] at e; exact e.2.1

theorem Bears.bufMax {w : World} {v : Value} {l : List UInt8} {R : Assn} (h : Bears w (bufA v l * R)) : l.length ≤ maxLen := by
  rcases h.bufCases with ⟨rfl, _⟩ | ⟨g, cap, c, pre, post, _, h1⟩
  · exact Nat.zero_le _
  · obtain ⟨_, c', e, h2, h3, _⟩ := h1.rowForm
    simp at h2
    omega

theorem Bears.bufAt {w : World} {ad : Option Addr} {n c : Nat} {l : List UInt8} {R : Assn} (h : Bears w (bufA (.slice ad n c) l * R)) {j : Nat} (hj : j < l.length) :
    ∃ g o, ad = some ⟨g, o, none⟩ ∧ w.cell? ⟨g, o + j, none⟩ = some (byteV (l.getD j 0)) ∧ w.frozen? ⟨g, o + j, none⟩ = false ∧
      ∀ u, Bears (w.setCell ⟨g, o + j, none⟩ (byteV u)) (bufA (.slice ad n c) (l.set j u) * R) := by
  rcases h.bufCases with ⟨rfl, _, _, e⟩ | ⟨g, cap, c', pre, post, e, h1⟩
  · simp at hj
  · simp only [Value.slice.injEq] at e
    obtain ⟨rfl, rfl, rfl⟩ := e
    have hlt : pre.length + j < (pre ++ l ++ post).length := by simp; omega
    refine ⟨g, pre.length, rfl, h1.rowCell hlt ?_, h1.rowFrozen _, fun u => ?_⟩
    · simp [cellsV, List.getElem?_append, hj]
    · have h2 := h1.rowSet hlt (byteV u)
      have e2 : (cellsV (pre ++ l ++ post)).set (pre.length + j) (byteV u) = cellsV (pre ++ l.set j u ++ post) := by
        unfold cellsV
        rw [← List.map_set, List.append_assoc, List.append_assoc, List.set_append_right _ _ (Nat.le_add_right _ _), Nat.add_sub_cancel_left, List.set_append_left _ _ hj]
      rw [e2] at h2
      have := Bears.bufPart (pre := pre) (post := post) (c := c) (l := l.set j u) h2 (by simp)
      simpa using this
theorem buf_tells {ad : Option Addr} {n c : Nat} {l : List UInt8} {R : Assn} : (bufA (.slice ad n c) l * R).Tells (fun w => BytesIn w (.slice ad n c) l) := by
  intro w h
  have hn := h.bufLen
  subst hn
  refine ⟨ad, c, rfl, fun hne => ?_⟩
  have hpos : 0 < l.length := List.length_pos_iff.2 hne
  obtain ⟨g, o, rfl, _⟩ := h.bufAt hpos
  refine ⟨g, o, rfl, fun j v hv => ?_⟩
  have hj : j < l.length := by have := (List.getElem?_eq_some_iff.1 hv).1; simpa using this
  obtain ⟨g', o', e, h1, _⟩ := h.bufAt hj
  cases e
  rw [h1]
  simpa [cellsV, hj] using hv

theorem addr_cells {w : World} {b o : Nat} {vs : List Value} (h : w.rangeAt b o vs) : ∀ j u, vs[j]? = some u → w.cell? ((⟨b, o, none⟩ : Addr).add j) = some u := fun j u hu => by
  have h9 := h j u hu
  unfold Addr.add
  by_cases hj : j = 0
  · subst hj; simpa using h9
  · simpa [hj] using h9
/-- A slice that is made, in a region. -/
theorem wp_make {w w' : World} {o : Oper} {a : Act} {K : Act → World → Prop} {Q : Exit → Act → World → Prop} {ty : TypeId} {x y : Operand} {vx vy v : Value} (ho : o.op = .makeSlice ty x y) (hx : a.eval x = vx) (hy : a.eval y = vy)
    (hrun : (Instr.makeSlice ty vx vy).run Try.prog w = .ok v w') (h : K (a.put o.dst v) w') : o.wp Try.prog a w K Q := by
  unfold Oper.wp execOp
  simp only [ho, hx, hy, Sem.run_bind, Sem.run_pure, hrun, Result.andThen_ok]
  exact h
/-- 'append([]byte{}, s...)'. -/
theorem run_append_fresh {w : World} {R : Assn} (h : Bears w R) {ad : Option Addr} {n c : Nat} {l : List UInt8} (hs : BytesIn w (.slice ad n c) l) (hl : l.length ≤ 140737488355328) (b0 : Addr) (ty : TypeId) :
    ∃ a' c' w', (Builtin.append_ #[43, 43] ty #[.slice (some b0) 0 0, .slice ad n c]).run Try.prog w = .ok (.slice a' n c') w' ∧ Bears w' (bufA (.slice a' n c') l * R) := by
  have hn := hs.len
  subst hn
  obtain ⟨i, hi, hz⟩ : ∃ i, Try.prog.info? 5 = some i ∧ (i.zero = some (.int .u8 0) ∧ i.size = 1 ∧ i.bytes = 1) := by
    have : (Try.prog.info? 5).map (fun i => (i.zero, i.size, i.bytes)) = some (some (Value.int IntKind.u8 0), 1, 1) := by kernel_rfl
    obtain ⟨i, hi, e⟩ := Option.map_eq_some_iff.1 this
    simp only [Prod.mk.injEq] at e
    exact ⟨i, hi, e⟩
  obtain ⟨hz, hsz, hby⟩ := hz
  by_cases h0 : l = []
  · subst h0
    refine ⟨some b0, 0, w, ?_, h.bufNil⟩
    cases ad <;> simp [Builtin.append_, run_underlying Try.underlying43, sizeOf, typeInfo, hi, storeCells, Builtin.lenOf, Builtin.firstCells, loadCells, loadCellsFrom]
  · obtain ⟨b, o, rfl, hr⟩ := hs.at h0
    have hpos : 0 < l.length := List.length_pos_iff.2 h0
    have hg := run_append_grow (P := Try.prog) w 43 ty 5 i (.int .u8 0) Try.underlying43 hi hz b0 0 0 [] (by simp) (by intro j v hj; simp at hj) ⟨b, o, none⟩ l.length c (cellsV l) (by simp [hsz])
      (addr_cells hr) (by omega) (by omega) (growslice_fits (by omega) (by rw [hby]; omega))
    simp only [Nat.zero_add] at hg
    have hge := grownCap_ge w l.length 0 5
    have hcm : grownCap w l.length 0 5 ≤ maxLen := grownCap_le_maxLen w l.length 0 5 (by unfold maxLen; omega)
    generalize grownCap w l.length 0 5 = cap at hg hge hcm
    refine ⟨_, _, _, hg, Bears.bufRow ?_⟩
    refine (Bears.nilRow.2 h).appended ⟨by simp, .inr ⟨w.heap.size, cap, _, rfl, Nat.zero_le _, heap_alloc_new w.drew _, hge, hcm, ?_, ?_⟩⟩ ⟨rfl, rfl, rfl, by simp, fun k hk _ => heap_alloc_old w.drew _ hk⟩ (.inr rfl)
    · simp [size_zeroCells, Value.cells]
      omega
    · simp only [Array.toList_append, List.append_assoc]
      simp

theorem wpList_append_fresh {w : World} {ops : Array Oper} {rest : List Oper} {o : Oper} {a : Act} {Q : Exit → Act → World → Prop} {s x : Operand} {R : Assn} (h : Bears w R) (hg : o.guard = none)
    (ho : o.op = .call { callee := .builtin .append, args := #[s, x], argTypes := #[43, 43] }) {b0 : Addr} {ad : Option Addr} {n c : Nat} {l : List UInt8} (hs : a.eval s = .slice (some b0) 0 0) (hx : a.eval x = .slice ad n c)
    (hb : BytesIn w (.slice ad n c) l) (hl : l.length ≤ 140737488355328) (hK : ∀ a' c' w', Bears w' (bufA (.slice a' n c') l * R) → wpList Try.prog ops Q rest (a.put o.dst (.slice a' n c')) w') : wpList Try.prog ops Q (o :: rest) a w :=
  wpList_plain hg fun K hK' => by
    obtain ⟨a', c', w', hr, h'⟩ := run_append_fresh h hb hl b0 o.type
    unfold Oper.wp execOp
    simp only [ho, resolve, invoke, builtin, Sem.run_bind, Sem.run_pure, Result.andThen_ok, List.map_toArray, List.map_cons, List.map_nil, hs, hx, hr]
    exact hK' _ _ (hK a' c' w' h')

end Go.Proofs.Ytaiobekochhemaa

/- The space's statements: ground, kind, First of the document; no condition. -/
namespace Go.Proofs.Ytaiobekochhemaa
open Go.RowKit Go.MapKept

theorem kindN_lt (c : Int) (m : Nat) (hm : 0 < m) : ∃ s : Nat, s < m ∧ (if c < 0 then (-(c + 1)) % (m : Int) else c % (m : Int)) = (s : Int) := by
  have h : 0 ≤ (if c < 0 then (-(c + 1)) % (m : Int) else c % (m : Int)) ∧ (if c < 0 then (-(c + 1)) % (m : Int) else c % (m : Int)) < (m : Int) := by
    split
    · exact ⟨Int.emod_nonneg _ (by omega), Int.emod_lt_of_pos _ (by omega)⟩
    · exact ⟨Int.emod_nonneg _ (by omega), Int.emod_lt_of_pos _ (by omega)⟩
  exact ⟨_, by omega, (Int.toNat_of_nonneg h.1).symm⟩

set_option maxHeartbeats 400000 in
theorem kind4_any (c n : Int) (w : World) (h0 : -9223372036854775808 ≤ c ∧ c ≤ 9223372036854775807) (hn : 0 < n ∧ n < 9223372036854775807) :
    Calls Try.prog 50 #[.int .i64 c, .int .i64 n] w fun e w' => e = .returned (.int .i64 (if c < 0 then (-(c + 1)) % n else c % n)) ∧ w = w' := by
  obtain ⟨h0, h1⟩ := h0
  obtain ⟨hn, hn1⟩ := hn
  by_cases hc : c < 0
  · have e : -(c + 1).tmod n = (-(c + 1)) % n := by rw [← Int.neg_tmod, Int.tmod_eq_emod_of_nonneg (by omega)]
    have He := Lib.hid e
    clear e
    go_enter Try.func50, Try.ntmps50
    go_wp2
    go_ret
    refine ⟨?_, rfl⟩
    exact congrArg (fun x => Ending.returned (.int .i64 x)) He.out
  · have e : c.tmod n = c % n := Int.tmod_eq_emod_of_nonneg (by omega)
    have He := Lib.hid e
    clear e
    go_enter Try.func50, Try.ntmps50
    go_wp2
    go_ret
    refine ⟨?_, rfl⟩
    first | rfl | exact congrArg (fun x => Ending.returned (.int .i64 x)) He.out | exact congrArg (fun x => Ending.returned (.int .i64 x)) (He.out.trans (if_neg (by omega)).symm)

set_option maxRecDepth 100000 in
set_option maxHeartbeats 400000 in
theorem ground4_any {R : Assn} {w : World} (h : Bears w R) :
    Calls Try.prog 47 #[.int .i64 1024] w fun e w' => ∃ p s d, e = .returned (.tuple #[ptrB p, ptrB s]) ∧ d.fuse = -1 ∧ Bears w' (spA s p d 1024 0 [] false (freshF 1024) (freshF 1024) * R) := by
  go_enter Try.func47, Try.ntmps47
  go_wp2_with fail
  refine (new_ok h 1024 (by omega) (by omega)).mono ?_
  rintro e w1 ⟨p, rfl, h1⟩
  go_wp2_with fail
  refine (format_new (by omega) (by omega) h1).mono ?_
  rintro e w2 ⟨d, rfl, hL, hf, hl, h2⟩
  have Hl := Lib.hid hl
  have Hf := Lib.hid hf
  clear hl hf
  go_wp2_with fail
  refine (space_opens h2 hL (by rw [Hl.out]; omega) (by rw [Hl.out]; omega) (by rw [Hl.out]; rfl) (freshF64 1024) (by omega)).mono ?_
  rintro e w3 ⟨s, rfl, h3⟩
  rw [Hl.out] at h3
  go_wp2_with fail
  go_ret2
  exact ⟨p, s, d, rfl, Hf.out, h3⟩

set_option maxHeartbeats 400000 in
theorem rfirst_any (n : Int) (w : World) (hn : -9223372036854775808 ≤ n ∧ n ≤ 9223372036854775807) :
    Calls Try.prog 15 #[.int .i64 n] w fun e w' => e = .returned (.int .i64 (firstN n)) ∧ w = w' := by
  by_cases h : n < 1024 ∨ 8192 < n
  · have e1 : firstN n = 0 := by unfold firstN; rw [if_pos h]
    rw [e1]
    by_cases h1 : n < 1024
    · have d1 : decide (n < 1024) = true := decide_eq_true h1
      go_enter Try.func15, Try.ntmps15
      go_wp2
      go_ret
      exact ⟨rfl, rfl⟩
    · have d1 : decide (n < 1024) = false := decide_eq_false h1
      have d2 : decide (8192 < n) = true := decide_eq_true (by omega)
      go_enter Try.func15, Try.ntmps15
      go_wp2
      go_ret
      exact ⟨rfl, rfl⟩
  · have e1 : firstN n = 621 + (n + 511) / 512 + 128 := by unfold firstN; rw [if_neg h]
    rw [e1]
    have d1 : decide (n < 1024) = false := decide_eq_false (by omega)
    have d2 : decide (8192 < n) = false := decide_eq_false (by omega)
    have q1 : (n + 511).tdiv 512 = (n + 511) / 512 := Int.tdiv_eq_ediv_of_nonneg (by omega)
    clear e1
    go_enter Try.func15, Try.ntmps15
    go_wp2
    go_ret
    exact ⟨rfl, rfl⟩

end Go.Proofs.Ytaiobekochhemaa

/- The space's statements: the document's examples; no condition. -/
namespace Go.Proofs.Ytaiobekochhemaa
open Go.RowKit Go.MapKept

theorem first1023 : firstN 1023 = 0 := by decide
theorem first1024 : firstN 1024 = 751 := by decide
theorem first8192 : firstN 8192 = 765 := by decide
theorem firstB1024 : firstB 1024 = 751 := by decide

set_option maxRecDepth 100000 in
set_option maxHeartbeats 2000000 in
theorem shown4_any {R : Assn} {w : World} (h : Bears w R) :
    Calls Try.prog 12 #[] w fun e w' => e = .returned (.bool true) ∧ Bears w' R := by
  have g0 := freshF64 1024
  have b0 := bitN_fresh 1024
  have e0 : blkN 1024 (freshF 1024) = 273 := by rw [blk_fresh]; decide
  have i0 : ifreeTo 1024 (freshF 1024) 256 = 256 := ifreeTo_fresh 1024 1024 256
  obtain ⟨G0, hG0⟩ : ∃ G, freshF 1024 = G := ⟨_, rfl⟩
  rw [hG0] at g0 b0 e0 i0
  have fb := firstB1024
  have g1 := alloc64 g0 751
  have b1 : ∀ m, m < 1024 → bitN (allocG G0 751) m = if m = 751 then true else bitN G0 m := fun m hm => bitN_alloc (len := 1024) g0 (by omega) m hm
  have e1 := blk_alloc (len := 1024) (n := 751) g0 (by omega) (by omega) (by decide) (b0 751)
  obtain ⟨G1, hG1⟩ : ∃ G, allocG G0 751 = G := ⟨_, rfl⟩
  rw [hG1] at g1 b1 e1
  have g2 := alloc64 g1 752
  have b2 : ∀ m, m < 1024 → bitN (allocG G1 752) m = if m = 752 then true else bitN G1 m := fun m hm => bitN_alloc (len := 1024) g1 (by omega) m hm
  have e2 := blk_alloc (len := 1024) (n := 752) g1 (by omega) (by omega) (by decide) (by rw [b1 752 (by omega), if_neg (by omega), b0])
  obtain ⟨G2, hG2⟩ : ∃ G, allocG G1 752 = G := ⟨_, rfl⟩
  rw [hG2] at g2 b2 e2
  have g3 := free64 g2 751
  have b3 : ∀ m, bitN (freeG G2 751) m = if m = 751 then false else bitN G2 m := fun m => bitN_free g2 m
  have u2 : bitN G2 751 = true := by rw [b2 751 (by omega), if_neg (by omega), b1 751 (by omega), if_pos rfl]
  have e3 := blk_free (len := 1024) (n := 751) g2 (by omega) u2
  obtain ⟨G3, hG3⟩ : ∃ G, freeG G2 751 = G := ⟨_, rfl⟩
  rw [hG3] at g3 b3 e3
  have u3 : bitN G3 751 = false := by rw [b3 751, if_pos rfl]
  have g4 := alloc64 g3 751
  have b4 : ∀ m, m < 1024 → bitN (allocG G3 751) m = if m = 751 then true else bitN G3 m := fun m hm => bitN_alloc (len := 1024) g3 (by omega) m hm
  have e4 := blk_alloc (len := 1024) (n := 751) g3 (by omega) (by omega) (by decide) u3
  obtain ⟨G4, hG4⟩ : ∃ G, allocG G3 751 = G := ⟨_, rfl⟩
  rw [hG4] at g4 b4 e4
  have u4 : bitN G4 751 = true := by rw [b4 751 (by omega), if_pos rfl]
  have n4 : bitN G4 760 = false := by rw [b4 760 (by omega), if_neg (by omega), b3, if_neg (by omega), b2 760 (by omega), if_neg (by omega), b1 760 (by omega), if_neg (by omega), b0]
  have x4 : blkN 1024 G4 = 271 := by omega
  have c750 : chkN 1024 G4 750 = 40 := by unfold chkN; rw [if_pos (.inl (by rw [fb]; omega))]
  have c760 : chkN 1024 G4 760 = 41 := chk_unused (n := 760) (by omega) (by omega) n4
  have c751 : chkN 1024 G4 751 = 0 := chk_used (n := 751) (by omega) (by omega) u4
  have a1 : ∀ m, firstB 1024 ≤ m → m < 751 → bitN G0 m = true := fun m h1 h2 => absurd h1 (by omega)
  have a2 : ∀ m, firstB 1024 ≤ m → m < 752 → bitN G1 m = true := fun m h1 h2 => by rw [b1 m (by omega), if_pos (by omega)]
  have u1 : bitN G1 752 = false := by rw [b1 752 (by omega), if_neg (by omega), b0]
  have a4 : ∀ m, firstB 1024 ≤ m → m < 751 → bitN G3 m = true := fun m h1 h2 => absurd h1 (by omega)
  have z0 := b0 751
  have f1 : firstB 1024 ≤ 751 := by omega
  have f2 : firstB 1024 ≤ 752 := by omega
  have H := Lib.hid (And.intro hG0 (And.intro hG1 (And.intro hG2 (And.intro hG3 hG4))))
  have HE := Lib.hid (And.intro e0 (And.intro i0 x4))
  have HU := Lib.hid (And.intro z0 (And.intro u1 (And.intro u2 (And.intro u3 u4))))
  have HA := Lib.hid (And.intro a1 (And.intro a2 a4))
  have HC := Lib.hid (And.intro c750 (And.intro c760 c751))
  clear g0 b0 e0 i0 hG0 fb g1 b1 e1 hG1 g2 b2 e2 hG2 g3 b3 u2 e3 hG3 u3 g4 b4 e4 hG4 u4 n4 x4 c750 c760 c751 a1 a2 u1 a4 z0
  go_enter Try.func12, Try.ntmps12
  go_wp2_with fail
  refine (ground4_any h).mono ?_
  rintro e w1 ⟨p, s, d, rfl, _, h1⟩
  rw [H.out.1] at h1
  go_wp2_with fail
  refine (first_any 1023 _ (by omega)).mono ?_
  rintro e w2 ⟨rfl, rfl⟩
  rw [first1023]
  go_wp2_with fail
  refine (first_any 1024 _ (by omega)).mono ?_
  rintro e w3 ⟨rfl, rfl⟩
  rw [first1024]
  go_wp2_with fail
  refine (first_any 8192 _ (by omega)).mono ?_
  rintro e w4 ⟨rfl, rfl⟩
  rw [first8192]
  go_wp2_with fail
  refine (sblocks_any h1).mono ?_
  rintro e w5 ⟨rfl, h5⟩
  rw [HE.out.1]
  go_wp2_with fail
  refine (sinodes_any h5).mono ?_
  rintro e w6 ⟨rfl, h6⟩
  rw [HE.out.2.1]
  go_wp2_with fail
  refine (sgroups_any h6).mono ?_
  rintro e w7 ⟨rfl, h7⟩
  go_wp2_with fail
  refine (salloc_closed h7).mono ?_
  rintro e w8 ⟨rfl, h8⟩
  go_wp2_with fail
  refine (sbegin_any h8).mono ?_
  rintro e w9 ⟨rfl, h9⟩
  go_wp2_with fail
  refine (salloc_at (n := 751) h9 f1 (by omega) HU.out.1 HA.out.1).mono ?_
  rintro e w10 ⟨rfl, h10⟩
  rw [H.out.2.1] at h10
  go_wp2_with fail
  refine (salloc_at (n := 752) h10 f2 (by omega) HU.out.2.1 HA.out.2.1).mono ?_
  rintro e w11 ⟨rfl, h11⟩
  rw [H.out.2.2.1] at h11
  go_wp2_with fail
  refine (sfree_at (n := 751) h11 f1 (by omega) HU.out.2.2.1).mono ?_
  rintro e w12 ⟨rfl, h12⟩
  rw [H.out.2.2.2.1] at h12
  go_wp2_with fail
  refine (salloc_at (n := 751) h12 f1 (by omega) HU.out.2.2.2.1 HA.out.2.2).mono ?_
  rintro e w13 ⟨rfl, h13⟩
  rw [H.out.2.2.2.2] at h13
  go_wp2_with fail
  refine (sblocks_any h13).mono ?_
  rintro e w14 ⟨rfl, h14⟩
  rw [HE.out.2.2]
  go_wp2_with fail
  refine (sfree_bad h14 750 HC.out.1 (by decide)).mono ?_
  rintro e w15 ⟨rfl, h15⟩
  go_wp2_with fail
  refine (sfree_bad h15 760 HC.out.2.1 (by decide)).mono ?_
  rintro e w16 ⟨rfl, h16⟩
  go_wp2_with fail
  refine (sread_bad h16 760 HC.out.2.1 (by decide)).mono ?_
  rintro e w17 ⟨rfl, h17⟩
  go_wp2_with fail
  have h18 : Bears (w17.alloc (.cells #[.int .u8 1, .int .u8 2, .int .u8 3] 5)) _ := h17.alloc (.cells (cellsV [1, 2, 3]).toArray 5)
  refine (swrites_any h18.pull2 751 rfl HC.out.2.2 f1 (by omega) (b := [1, 2, 3]) (BytesIn.tells _ _ rfl)).mono ?_
  rintro e w18 ⟨rfl, h19⟩
  rw [show (wrN G4 751 [1, 2, 3]).1 = 11 from rfl]
  go_wp2_with fail
  go_ret
  exact ⟨rfl, h19.right.right⟩

end Go.Proofs.Ytaiobekochhemaa

/- Which blocks of a space of 1024 sectors are taken; no program in sight but the contracts. -/
namespace Go.Proofs.Ytaiobekochhemaa
open Go.RowKit Go.MapKept

/-- The blocks that are taken, counted from the first. -/
structure Took (G : Nat → Sec) (f : Nat → Bool) : Prop where
  g64 : ∀ i, (G i).length = 64
  bits : ∀ m, m < 1024 → bitN G m = (decide (751 ≤ m) && f (m - 751))
theorem Took.fresh : Took (freshF 1024) (fun _ => false) := ⟨freshF64 1024, fun m _ => by rw [bitN_fresh]; simp⟩
theorem Took.alloc {G : Nat → Sec} {f : Nat → Bool} (h : Took G f) {k : Nat} (hk : k < 273) : Took (allocG G (751 + k)) (fun j => decide (j = k) || f j) := by
  refine ⟨alloc64 h.g64 _, fun m hm => ?_⟩
  rw [bitN_alloc (len := 1024) h.g64 (by rw [firstB1024]; omega) m hm, h.bits m hm]
  by_cases e : m = 751 + k
  · rw [if_pos e]; subst e; simp
  · rw [if_neg e]
    by_cases h7 : 751 ≤ m
    · have : ¬ m - 751 = k := by omega
      simp [h7, this]
    · simp [h7]
theorem Took.free {G : Nat → Sec} {f : Nat → Bool} (h : Took G f) {k : Nat} : Took (freeG G (751 + k)) (fun j => !decide (j = k) && f j) := by
  refine ⟨free64 h.g64 _, fun m hm => ?_⟩
  rw [bitN_free h.g64 m, h.bits m hm]
  by_cases e : m = 751 + k
  · rw [if_pos e]; subst e; simp
  · rw [if_neg e]
    by_cases h7 : 751 ≤ m
    · have : ¬ m - 751 = k := by omega
      simp [h7, this]
    · simp [h7]
theorem Took.congr {G : Nat → Sec} {f g : Nat → Bool} (h : Took G f) (he : ∀ j, j < 273 → f j = g j) : Took G g :=
  ⟨h.g64, fun m hm => by rw [h.bits m hm, he _ (by omega)]⟩
theorem Took.blk {G : Nat → Sec} {f : Nat → Bool} (h : Took G f) : blkN 1024 G = 273 - (cntB f 273 : Int) := by
  have e1 : cntB (bitN G) 1024 = cntB f 273 := by
    rw [show 1024 = 751 + 273 from rfl, cntB_add]
    have a1 : cntB (bitN G) 751 = 0 := by
      rw [cntB_congr (g := fun _ => false) 751 (fun i hi => by rw [h.bits i (by omega), decide_eq_false (by omega)]; rfl)]
      exact cntB_zero (fun _ => rfl) 751
    rw [a1, cntB_congr (g := f) 273 (fun i hi => by rw [h.bits _ (by omega), decide_eq_true (by omega), show 751 + i - 751 = i by omega]; rfl)]
    omega
  unfold blkN
  rw [usedTo_cnt, show 512 * mapsN 1024 = 1024 from by decide, e1, firstB1024]
  rfl
theorem Took.at {G : Nat → Sec} {f : Nat → Bool} (h : Took G f) {k : Nat} (hk : k < 273) : bitN G (751 + k) = f k := by
  rw [h.bits _ (by omega), decide_eq_true (by omega), show 751 + k - 751 = k by omega]
  rfl

theorem talloc_any {s p g : Nat} {k : List Nat} {d : DiskM} {F G : Nat → Sec} {R : Assn} {w : World} (h : Bears w (spA s p d 1024 g k true F G * R)) {f : Nat → Bool} (hT : Took G f) {j : Nat} (hj : j < 273) (hf : f j = false) (hfull : ∀ i, i < j → f i = true) :
    Calls Try.prog 49 #[.pointer (some ⟨s, 0, none⟩)] w fun e w' => e = .returned (.tuple #[.int .i64 ((751 + j : Nat) : Int), .int .i64 0]) ∧ Bears w' (spA s p d 1024 g (outL 1024) true F (allocG G (751 + j)) * R) :=
  (salloc_at (n := 751 + j) h (by rw [firstB1024]; omega) (by omega) (by rw [hT.at hj]; exact hf) (fun m h1 h2 => by
    rw [firstB1024] at h1
    obtain ⟨i, rfl⟩ : ∃ i, m = 751 + i := ⟨m - 751, by omega⟩
    rw [hT.at (by omega)]
    exact hfull i (by omega))).mono fun e w' ⟨he, hb⟩ => ⟨he, hb.spLeast⟩
theorem tfull_any {s p g : Nat} {k : List Nat} {d : DiskM} {F G : Nat → Sec} {R : Assn} {w : World} (h : Bears w (spA s p d 1024 g k true F G * R)) {f : Nat → Bool} (hT : Took G f) (hfull : ∀ i, i < 273 → f i = true) :
    Calls Try.prog 49 #[.pointer (some ⟨s, 0, none⟩)] w fun e w' => e = .returned (.tuple #[.int .i64 0, .int .i64 3]) ∧ Bears w' (spA s p d 1024 g k true F G * R) :=
  salloc_full h (fun m h1 h2 => by
    rw [firstB1024] at h1
    obtain ⟨i, rfl⟩ : ∃ i, m = 751 + i := ⟨m - 751, by omega⟩
    rw [hT.at (by omega)]
    exact hfull i (by omega))
theorem tfree_any {s p g : Nat} {k : List Nat} {d : DiskM} {F G : Nat → Sec} {R : Assn} {w : World} (h : Bears w (spA s p d 1024 g k true F G * R)) {f : Nat → Bool} (hT : Took G f) {j : Nat} (hj : j < 273) (hf : f j = true) :
    Calls Try.prog 51 #[.pointer (some ⟨s, 0, none⟩), .int .i64 ((751 + j : Nat) : Int)] w fun e w' => e = .returned (.int .i64 0) ∧ Bears w' (spA s p d 1024 g (outL 1024) true F (freeG G (751 + j)) * R) :=
  (sfree_at (n := 751 + j) h (by rw [firstB1024]; omega) (by omega) (by rw [hT.at hj]; exact hf)).mono fun e w' ⟨he, hb⟩ => ⟨he, hb.spLeast⟩
theorem tfree_no {s p g : Nat} {k : List Nat} {d : DiskM} {F G : Nat → Sec} {R : Assn} {w : World} (h : Bears w (spA s p d 1024 g k true F G * R)) {f : Nat → Bool} (hT : Took G f) {j : Nat} (hj : j < 273) (hf : f j = false) :
    Calls Try.prog 51 #[.pointer (some ⟨s, 0, none⟩), .int .i64 ((751 + j : Nat) : Int)] w fun e w' => e = .returned (.int .i64 41) ∧ Bears w' (spA s p d 1024 g k true F G * R) :=
  sfree_bad h _ (chk_unused (n := 751 + j) (by rw [firstB1024]; omega) (by omega) (by rw [hT.at hj]; exact hf)) (by decide)

theorem tblocks_any {s p g : Nat} {k : List Nat} {d : DiskM} {op : Bool} {F G : Nat → Sec} {R : Assn} {w : World} (h : Bears w (spA s p d 1024 g k op F G * R)) {f : Nat → Bool} (hT : Took G f) {v : Int} (hv : 273 - (cntB f 273 : Int) = v) :
    Calls Try.prog 18 #[.pointer (some ⟨s, 0, none⟩)] w fun e w' => e = .returned (.int .i64 v) ∧ Bears w' (spA s p d 1024 g k op F G * R) := by
  have := sblocks_any h
  rwa [hT.blk, hv] at this
theorem tread_any {s p g : Nat} {k : List Nat} {d : DiskM} {op : Bool} {F G : Nat → Sec} {R : Assn} {w : World} (h : Bears w (spA s p d 1024 g k op F G * R)) {f : Nat → Bool} (hT : Took G f) {j : Nat} (hj : j < 273) (hf : f j = true) {r : Sec} (hr : G (751 + j) = r) :
    Calls Try.prog 52 #[.pointer (some ⟨s, 0, none⟩), .int .i64 ((751 + j : Nat) : Int)] w fun e w' => ∃ ad cap, e = .returned (.tuple #[.slice ad 64 cap, .int .i64 0]) ∧ Bears w' (rowA 5 1 (.slice ad 64 cap) 64 (cellsV r) * (spA s p d 1024 g k op F G * R)) :=
  sreads_any h (751 + j) rfl (chk_used (n := 751 + j) (by rw [firstB1024]; omega) (by omega) (by rw [hT.at hj]; exact hf)) (by rw [firstB1024]; omega) (by omega) hr
theorem tcommit_any {s p g : Nat} {k : List Nat} {d : DiskM} {F G : Nat → Sec} {R : Assn} {w : World} (h : Bears w (spA s p d 1024 g k true F G * R)) (hf : d.fuse = -1) (hg : g < 4611686018427387904) :
    Calls Try.prog 53 #[.pointer (some ⟨s, 0, none⟩)] w fun e w' => ∃ d', e = .returned (.int .i64 0) ∧ d'.fuse = -1 ∧ Bears w' (spA s p d' 1024 (g + 1) [] false G G * R) :=
  scommit_any h.spLeast (outL_few (by decide) (by decide)) hf hg

/-- How many of a row hold, from k on. -/
def cntN (n : Nat) (lb : List Bool) (k : Nat) : Nat := cntB (fun j => decide (k ≤ j) && lb.getD j false) n
def cntL (lb : List Bool) (k : Nat) : Nat := cntN 273 lb k
theorem getD_rep (n j : Nat) : (List.replicate n false).getD j false = false := by
  rw [List.getD_eq_getElem?_getD, List.getElem?_replicate]
  split <;> rfl
theorem cntL_new (k : Nat) : cntL (List.replicate 273 false) k = 0 := cntB_zero (fun j => by rw [getD_rep]; simp) 273
theorem cntN_set {n : Nat} {lb : List Bool} {v : Nat} (hl : lb.length = n) (hv : v < n) (h : lb.getD v false = false) : cntN n (lb.set v true) 0 = cntN n lb 0 + 1 := by
  have e := cntB_put (f := fun j => decide (0 ≤ j) && lb.getD j false) (g := fun j => decide (0 ≤ j) && (lb.set v true).getD j false) (m := v) n hv (fun i _ hne => by
    simp only [List.getD_eq_getElem?_getD, List.getElem?_set_ne (Ne.symm hne)])
  have e2 : (lb.set v true).getD v false = true := by simp [List.getD_eq_getElem?_getD, hl, hv]
  simp only [h, e2] at e
  unfold cntN
  simpa using e
theorem cntL_set {lb : List Bool} {v : Nat} (hl : lb.length = 273) (hv : v < 273) (h : lb.getD v false = false) : cntL (lb.set v true) 0 = cntL lb 0 + 1 := cntN_set hl hv h
theorem cntL_same {lb : List Bool} {v : Nat} (h : lb.getD v false = true) : lb.set v true = lb := by
  apply List.ext_getElem? 
  intro i
  by_cases e : v = i
  · subst e
    rw [List.getD_eq_getElem?_getD] at h
    cases hx : lb[v]? with
    | none => simp [hx] at h
    | some y => simp [hx] at h; subst h; rw [List.getElem?_set_self (List.getElem?_eq_some_iff.1 hx).1]
  · rw [List.getElem?_set_ne e]
theorem cntN_step {n : Nat} {lb : List Bool} {k : Nat} (hk : k < n) : cntN n lb k = cntN n lb (k + 1) + (lb.getD k false).toNat := by
  have e := cntB_put (f := fun j => decide (k + 1 ≤ j) && lb.getD j false) (g := fun j => decide (k ≤ j) && lb.getD j false) (m := k) n hk (fun i _ hne => by
    have : decide (k ≤ i) = decide (k + 1 ≤ i) := by rw [decide_eq_decide]; omega
    simp only [this])
  have e3 : decide (k + 1 ≤ k) = false := decide_eq_false (by omega)
  have e4 : decide (k ≤ k) = true := decide_eq_true (Nat.le_refl k)
  simp only [e3, e4, Bool.false_and, Bool.true_and, Bool.toNat_false, Nat.add_zero] at e
  exact e
theorem cntL_step {lb : List Bool} {k : Nat} (hk : k < 273) : cntL lb k = cntL lb (k + 1) + (lb.getD k false).toNat := cntN_step hk
theorem cntN_end (n : Nat) (lb : List Bool) : cntN n lb n = 0 := by
  unfold cntN
  rw [cntB_congr (g := fun _ => false) n (fun i hi => by rw [decide_eq_false (by omega)]; rfl)]
  exact cntB_zero (fun _ => rfl) n
theorem cntL_end (lb : List Bool) : cntL lb 273 = 0 := cntN_end 273 lb
theorem cntB_le (f : Nat → Bool) : ∀ n, cntB f n ≤ n
  | 0 => Nat.le_refl _
  | n + 1 => by
    have := cntB_le f n
    simp only [cntB]
    have : (f n).toNat ≤ 1 := by cases f n <;> decide
    omega
theorem cntL_le (lb : List Bool) (k : Nat) : cntL lb k ≤ 273 := cntB_le _ _

theorem Took.none {G : Nat → Sec} {f : Nat → Bool} (h : Took G f) (hf : ∀ j, j < 273 → f j = true) : ∃ lb : List Bool, lb = List.replicate 273 false ∧ lb.length = 273 ∧ ((cntL lb 0 : Nat) : Int) = 0 ∧ Took G (fun j => !lb.getD j false) := by
  refine ⟨_, rfl, List.length_replicate, by rw [cntL_new]; rfl, h.congr (fun j hj => ?_)⟩
  rw [hf j hj]
  exact (congrArg not (getD_rep 273 j)).symm

end Go.Proofs.Ytaiobekochhemaa

/- AllocFull walked; no condition. -/
namespace Go.Proofs.Ytaiobekochhemaa
open Go.RowKit Go.MapKept

theorem cnt_lt (i n : Nat) (h : i ≤ n) : cntB (fun j => decide (j < i)) n = i := by
  induction n with
  | zero => simp [cntB]; omega
  | succ n ih =>
    simp only [cntB]
    by_cases e : i ≤ n
    · rw [ih e, decide_eq_false (by omega)]; rfl
    · obtain rfl : i = n + 1 := by omega
      rw [decide_eq_true (by omega), cntB_congr (g := fun j => decide (j < n)) n (fun j hj => by simp; omega)]
      have : ∀ m, cntB (fun j => decide (j < m)) m = m := fun m => by
        rw [cntB_congr (g := fun _ => true) m (fun j hj => by simp; omega)]
        induction m with
        | zero => rfl
        | succ m ih => simp only [cntB]; rw [ih]; rfl
      rw [this]; rfl

set_option maxRecDepth 100000 in
set_option maxHeartbeats 4000000 in
theorem allocFull_walk {R : Assn} {w : World} (h : Bears w R) {l : List Int} {ad : Option Addr} {n cap : Nat} (hl : R.Tells (fun w => IntsIn w (.slice ad n cap) l)) (hb : ∀ x ∈ l, -9223372036854775808 ≤ x ∧ x ≤ 9223372036854775807) (hn : n ≤ 9223372036854775806) :
    Calls Try.prog 9 #[.slice ad n cap] w fun e w' => e = .returned (.bool true) ∧ Bears w' R := by
  obtain rfl : n = l.length := by
    obtain ⟨_, _, e, _⟩ := hl _ h
    simp only [Value.slice.injEq] at e
    exact e.2.1
  have Hl := Lib.hid hl
  have Hb := Lib.hid hb
  have hmk : ∀ w, (Instr.makeSlice 75 (.int .i64 273) (.int .i64 273)).run Try.prog w = .ok (.slice (some ⟨w.heap.size, 0, none⟩) 273 273) (w.alloc (.cells (boolsV (List.replicate 273 false)).toArray 4)) := fun _ => by kernel_rfl
  have Hmk := Lib.hid hmk
  clear hl hb hmk
  go_enter Try.func9, Try.ntmps9
  go_wp2_with fail
  refine (shown4_any h).mono ?_
  rintro e w1 ⟨rfl, h1⟩
  go_wp2_with fail
  refine (ground4_any h1).mono ?_
  rintro e w2 ⟨p, s, d, rfl, hfu, h2⟩
  go_wp2_with fail
  refine (sbegin_any h2).mono ?_
  rintro e w3 ⟨rfl, h3⟩
  go_wp2_with fail
  go_loopw [7] (fun iv wr => ∃ (i : Nat) (G : Nat → Sec), i ≤ 273 ∧ iv = .int .i64 i ∧ Took G (fun j => decide (j < i)) ∧ Bears wr (spA s p d 1024 0 (outL 1024) true (freshF 1024) G * R)) (fun iv _ => 273 - (intOf iv).toNat)
  case atStart => exact ⟨0, _, by omega, rfl, Took.fresh.congr (fun j _ => by simp), h3.spLeast⟩
  case round =>
    clear h h1 h2 h3
    obtain ⟨i, G, hi, rfl, hT, h4⟩ := hrel
    have HT := Lib.hid hT
    clear hT
    by_cases hlt : i < 273
    · have ha := talloc_any h4 HT.out hlt (by simp) (fun j hj => by simpa using hj)
      have hT2 : Took (allocG G (751 + i)) (fun j => decide (j < i + 1)) := (HT.out.alloc hlt).congr (fun j _ => by
        rw [Bool.eq_iff_iff]; simp; omega)
      have HT2 := Lib.hid hT2
      have Ha := Lib.hid ha
      have hv : (273 : Int) - (cntB (fun j => decide (j < i + 1)) 273 : Int) = 272 - (i : Int) := by rw [cnt_lt (i + 1) 273 (by omega)]; omega
      have Hv := Lib.hid hv
      clear hT2 ha h4 HT hv
      go_wp2_with fail
      refine Ha.out.mono ?_
      rintro e w5 ⟨rfl, h5⟩
      have e1 : ((751 + i : Nat) : Int) = 751 + (i : Int) := by omega
      rw [e1]
      go_wp2_with fail
      refine (tblocks_any h5 HT2.out Hv.out).mono ?_
      rintro e w6 ⟨rfl, h6⟩
      go_wp2_with fail
      go_roundw
      case rel => exact ⟨i + 1, _, hlt, by go_num, HT2.out, h6⟩
      case measure => simp [intOf]; omega
    · obtain rfl : i = 273 := by omega
      have hf := tfull_any h4 HT.out (fun j hj => by simpa using hj)
      have Hf := Lib.hid hf
      have hT3 : ∃ f, (∀ j, j < 273 → f j = true) ∧ Took G f := ⟨_, fun j hj => by simpa using hj, HT.out⟩
      obtain ⟨f, hf3, hT3⟩ := hT3
      have HT3 := Lib.hid hT3
      have Hf3 := Lib.hid hf3
      clear hf HT h4 hT3 hf3
      go_wp2_with fail
      refine Hf.out.mono ?_
      rintro e w5 ⟨rfl, h5⟩
      have h6 := h5.alloc (.cells (boolsV (List.replicate 273 false)).toArray 4)
      have hmk := Hmk.out
      obtain ⟨lb0, hl0, hlb0, hc0, hT4⟩ := HT3.out.none Hf3.out
      rw [← hl0] at hmk h6
      clear hl0
      have HT4 := Lib.hid hT4
      have Hc0 := Lib.hid hc0
      have Hlb0 := Lib.hid hlb0
      clear hT4 hc0 hlb0
      obtain ⟨fb, hfb⟩ : ∃ fb, w5.heap.size = fb := ⟨_, rfl⟩
      rw [hfb] at h6
      go_upto_block 2 with (fail)
      go_cut [13] (fun m wr => ∃ lb G, m = .int .i64 (cntL lb 0) ∧ lb.length = 273 ∧ Took G (fun j => !lb.getD j false) ∧ Bears wr (Assn.obj fb (.cells (boolsV lb).toArray 4 (0, 0)) * (spA s p d 1024 0 (outL 1024) true (freshF 1024) G * R)))
      case first =>
        go_wp2_with fail
        go_loopw [13, 14] (fun m iv wr => ∃ k : Nat, k ≤ l.length ∧ k ≤ 100 ∧ iv = .int .i64 k ∧ ∃ lb G, m = .int .i64 (cntL lb 0) ∧ lb.length = 273 ∧ Took G (fun j => !lb.getD j false) ∧ Bears wr (Assn.obj fb (.cells (boolsV lb).toArray 4 (0, 0)) * (spA s p d 1024 0 (outL 1024) true (freshF 1024) G * R))) (fun _ iv _ => 100 - (intOf iv).toNat)
        case atStart => exact ⟨0, by omega, by omega, rfl, lb0, _, by rw [Hc0.out], Hlb0.out, HT4.out, h6⟩
        case round =>
          clear h6 h5
          obtain ⟨k, hk, hk2, rfl, lb, G, rfl, hlb, hT, h7⟩ := hrel
          have HT := Lib.hid hT
          clear hT
          by_cases hlt : k < l.length ∧ k < 100
          · obtain ⟨hlt, hlt2⟩ := hlt
            obtain ⟨x, hx⟩ : ∃ x, l.getD k 0 = x := ⟨_, rfl⟩
            have hxm : x ∈ l := by rw [← hx, List.getD_eq_getElem?_getD, List.getElem?_eq_getElem hlt]; exact List.getElem_mem _
            have hxb := Hb.out x hxm
            obtain ⟨b0, o0, rfl, _⟩ := (Hl.out _ h7.right.right).at (fun e => by rw [e] at hlt; simp at hlt)
            have hc := (Hl.out _ h7.right.right).cell hlt
            rw [hx] at hc
            obtain ⟨v, hv, hkv⟩ := kindN_lt x 273 (by omega)
            rw [show ((273 : Nat) : Int) = 273 from rfl] at hkv
            have Hkv := Lib.hid hkv
            have e1 : ((751 + v : Nat) : Int) = 751 + (v : Int) := by omega
            have hcell := h7.boolCell (j := v) (by rw [hlb]; exact hv)
            have hll := cntL_le lb 0
            have Hlb := Lib.hid hlb
            clear hx hxm hkv hlb
            by_cases hbv : lb.getD v false = true
            · have ha := tfree_no h7.pull2 HT.out hv (by rw [hbv]; rfl)
              rw [e1] at ha
              have hset := (fun w' Q (h : Bears w' (Assn.obj fb (.cells (boolsV lb).toArray 4 (0, 0)) * Q)) => (And.intro (h.boolCell (j := v) (by rw [Hlb.out]; exact hv)) (h.setBool v true)))
              rw [cntL_same hbv, hbv] at hset
              have Hset := Lib.hid hset
              have Ha := Lib.hid ha
              rw [hbv] at hcell
              clear ha hset hbv e1
              go_wp2_with fail
              refine (kind4_any x 273 _ hxb (by omega)).mono ?_
              rintro e w' ⟨rfl, rfl⟩
              rw [Hkv.out]
              go_wp2_with fail
              refine Ha.out.mono ?_
              rintro e w8 ⟨rfl, h8⟩
              obtain ⟨hc8, h9⟩ := Hset.out _ _ h8.pull2
              have f8 := frozen_of_obj h8.pull2.obj v
              clear h7 hc hcell h8
              go_wp2_with fail
              go_roundw
              case rel => exact ⟨k + 1, hlt, hlt2, by go_num, lb, G, rfl, Hlb.out, HT.out, h9⟩
              case measure => simp [intOf]; omega
            · have hbf : lb.getD v false = false := by simpa using hbv
              have ha := tfree_any h7.pull2 HT.out hv (by rw [hbf]; rfl)
              rw [e1] at ha
              have hT2 := (HT.out.free (k := v)).congr (g := fun j => !(lb.set v true).getD j false) (fun j hj => by
                rw [List.getD_eq_getElem?_getD, List.getD_eq_getElem?_getD]
                by_cases e : j = v
                · subst e; rw [List.getElem?_set_self (by rw [Hlb.out]; exact hv)]; simp
                · rw [List.getElem?_set_ne (Ne.symm e)]; simp [e])
              have hcn := cntL_set Hlb.out hv hbf
              have hset := (fun w' Q (h : Bears w' (Assn.obj fb (.cells (boolsV lb).toArray 4 (0, 0)) * Q)) => (And.intro (h.boolCell (j := v) (by rw [Hlb.out]; exact hv)) (h.setBool v true)))
              rw [hbf] at hset
              have hl2 : (lb.set v true).length = 273 := by rw [List.length_set]; exact Hlb.out
              generalize lb.set v true = lb2 at hT2 hcn hset hl2
              have Hset := Lib.hid hset
              have Ha := Lib.hid ha
              have HT2 := Lib.hid hT2
              have Hcn := Lib.hid hcn
              have Hl2 := Lib.hid hl2
              rw [hbf] at hcell
              clear ha hset hbv hbf e1 hT2 hcn hl2
              go_wp2_with fail
              refine (kind4_any x 273 _ hxb (by omega)).mono ?_
              rintro e w' ⟨rfl, rfl⟩
              rw [Hkv.out]
              go_wp2_with fail
              refine Ha.out.mono ?_
              rintro e w8 ⟨rfl, h8⟩
              obtain ⟨hc8, h9⟩ := Hset.out _ _ h8.pull2
              have f8 := frozen_of_obj h8.pull2.obj v
              clear h7 hc hcell h8
              go_wp2_with fail
              go_roundw
              case rel => exact ⟨k + 1, hlt, hlt2, by go_num, lb2, _, congrArg (Value.int IntKind.i64) (by rw [Hcn.out]; omega), Hl2.out, HT2.out, h9⟩
              case measure => simp [intOf]; omega
          · go_wp2_with fail
            all_goals
              go_meet
              case rel => exact ⟨lb, G, rfl, hlb, HT.out, h7⟩
      case rest =>
        obtain ⟨lb, G, rfl, hlb, hT, h7⟩ := hcut
        have HT := Lib.hid (hT.congr (g := fun j => decide (j < 0) || !lb.getD j false) (fun j _ => by simp))
        have Hlb := Lib.hid hlb
        have hmk2 : ∀ w, (Instr.makeSlice 43 (.int .i64 64) (.int .i64 64)).run Try.prog w = .ok (.slice (some ⟨w.heap.size, 0, none⟩) 64 64) (w.alloc (.cells (cellsV zeroSec).toArray 5)) := fun _ => by kernel_rfl
        have Hmk2 := Lib.hid hmk2
        clear hT hlb h6 h5 hmk hmk2
        go_wp2_with fail
        go_loopw [13, 17] (fun m iv wr => ∃ (k : Nat) (G : Nat → Sec), k ≤ 273 ∧ iv = .int .i64 k ∧ m = .int .i64 (cntL lb k) ∧ Took G (fun j => decide (j < k) || !lb.getD j false) ∧ Bears wr (Assn.obj fb (.cells (boolsV lb).toArray 4 (0, 0)) * (spA s p d 1024 0 (outL 1024) true (freshF 1024) G * R))) (fun _ iv _ => 273 - (intOf iv).toNat)
        case atStart => exact ⟨0, G, by omega, rfl, rfl, HT.out, h7⟩
        case round =>
          clear h7 HT
          obtain ⟨k, G2, hk, rfl, rfl, hT, h7⟩ := hrel
          have HT := Lib.hid hT
          clear hT
          by_cases hlt : k < 273
          · have hcell := h7.boolCell (j := k) (by rw [Hlb.out]; exact hlt)
            have hst := cntL_step (lb := lb) hlt
            by_cases hbv : lb.getD k false = true
            · have ha := talloc_any h7.pull2 HT.out hlt (by rw [hbv]; simp) (fun i hi => by simp [hi])
              have hT2 : Took (allocG G2 (751 + k)) (fun j => decide (j < k + 1) || !lb.getD j false) := (HT.out.alloc hlt).congr (fun j _ => by
                by_cases e : j = k
                · subst e; simp
                · by_cases e2 : j < k
                  · simp [e2, show j < k + 1 by omega]
                  · simp [e, e2, show ¬ j < k + 1 by omega])
              have hz : allocG G2 (751 + k) (751 + k) = zeroSec := by unfold allocG updS; rw [if_pos rfl]
              obtain ⟨G3, hG3⟩ : ∃ G3, allocG G2 (751 + k) = G3 := ⟨_, rfl⟩
              rw [hG3] at ha hT2 hz
              have e1 : ((751 + k : Nat) : Int) = 751 + (k : Int) := by omega
              have hrd := fun w' (h : Bears w' (spA s p d 1024 0 (outL 1024) true (freshF 1024) G3 * (Assn.obj fb (.cells (boolsV lb).toArray 4 (0, 0)) * R))) => tread_any h hT2 hlt (by simp) hz
              rw [e1] at ha hrd
              rw [hbv] at hcell hst
              have hst2 : ((cntL lb k : Nat) : Int) - 1 = (cntL lb (k + 1) : Int) := by rw [hst]; simp
              have hle := cntL_le lb k
              have HT2 := Lib.hid hT2
              have Ha := Lib.hid ha
              have Hrd := Lib.hid hrd
              have Hst := Lib.hid hst2
              clear ha hT2 hz hG3 e1 hrd hbv hst hst2 h7
              go_wp2_with fail
              refine Ha.out.mono ?_
              rintro e w8 ⟨rfl, h8⟩
              go_wp2_with fail
              refine (Hrd.out _ h8).mono ?_
              rintro e w9 ⟨rad, rcap, rfl, h9⟩
              go_wp2_with fail
              have r1 : IntKind.i64.wrap (751 + (k : Int)) = 751 + (k : Int) := IntWalk.i64_in _ (by omega)
              have hzl : zeroSec.length = 64 := rfl
              generalize zeroSec = z at h9 hzl Hmk2
              refine wp_region_L (fun w' => ∃ Q, Bears w' (rowA 5 1 (.slice rad 64 rcap) 64 (cellsV z) * Q)) 19
                [(true, 0), (true, 1), (true, 2), (true, 3), (true, 4), (true, 5), (true, 6), (true, 7), (true, 8), (true, 9), (true, 10), (true, 11), (true, 12), (true, 13), (true, 14), (false, 15), (false, 16), (true, 17), (true, 18)] [] (by kernel_rfl) (by kernel_rfl) ⟨_, h9.drew⟩ ?_
              simp only [pick, List.getElem?_cons_zero, List.getElem?_cons_succ]
              refine wpL_guarded (v := ?_) rfl (fun w' hS => ?_) ?_
              rotate_left
              · (go_simp; try with_reducible rfl)
              simp only [Act.put, List.setIfInBounds_toArray, List.set_cons_zero, List.set_cons_succ]
              refine wpL_guarded (v := ?_) rfl (fun w' hS => ?_) ?_
              rotate_left
              · (go_simp; try with_reducible rfl)
              simp only [Act.put, List.setIfInBounds_toArray, List.set_cons_zero, List.set_cons_succ]
              refine wpL_guarded (v := ?_) rfl (fun w' hS => ?_) ?_
              rotate_left
              · (go_simp; try with_reducible rfl)
              simp only [Act.put, List.setIfInBounds_toArray, List.set_cons_zero, List.set_cons_succ]
              refine wpL_guarded (v := ?_) rfl (fun w' hS => ?_) ?_
              rotate_left
              · (go_simp; try with_reducible rfl)
              simp only [Act.put, List.setIfInBounds_toArray, List.set_cons_zero, List.set_cons_succ]
              refine wpL_guarded (v := ?_) rfl (fun w' hS => ?_) ?_
              rotate_left
              · (go_simp; try with_reducible rfl)
              simp only [Act.put, List.setIfInBounds_toArray, List.set_cons_zero, List.set_cons_succ]
              refine wpL_guarded (v := ?_) rfl (fun w' hS => ?_) ?_
              rotate_left
              · (go_simp; try with_reducible rfl)
              simp only [Act.put, List.setIfInBounds_toArray, List.set_cons_zero, List.set_cons_succ]
              refine wpL_guarded (v := ?_) rfl (fun w' hS => ?_) ?_
              rotate_left
              · (go_simp; try with_reducible rfl)
              simp only [Act.put, List.setIfInBounds_toArray, List.set_cons_zero, List.set_cons_succ]
              refine wpL_guarded (v := ?_) rfl (fun w' hS => ?_) ?_
              rotate_left
              · (go_simp; try with_reducible rfl)
              simp only [Act.put, List.setIfInBounds_toArray, List.set_cons_zero, List.set_cons_succ]
              refine wpL_guarded (v := ?_) rfl (fun w' hS => ?_) ?_
              rotate_left
              · (go_simp; try with_reducible rfl)
              simp only [Act.put, List.setIfInBounds_toArray, List.set_cons_zero, List.set_cons_succ]
              refine wpL_guarded (v := ?_) rfl (fun w' hS => ?_) ?_
              rotate_left
              · (go_simp; try with_reducible rfl)
              simp only [Act.put, List.setIfInBounds_toArray, List.set_cons_zero, List.set_cons_succ]
              refine wpL_guarded (v := ?_) rfl (fun w' hS => ?_) ?_
              rotate_left
              · (go_simp; try with_reducible rfl)
              simp only [Act.put, List.setIfInBounds_toArray, List.set_cons_zero, List.set_cons_succ]
              refine wpL_guarded (v := ?_) rfl (fun w' hS => ?_) ?_
              rotate_left
              · (go_simp; try with_reducible rfl)
              simp only [Act.put, List.setIfInBounds_toArray, List.set_cons_zero, List.set_cons_succ]
              refine wpL_guarded (v := ?_) rfl (fun w' hS => ?_) ?_
              rotate_left
              · (go_simp; try with_reducible rfl)
              simp only [Act.put, List.setIfInBounds_toArray, List.set_cons_zero, List.set_cons_succ]
              refine wpL_guarded (v := ?_) rfl (fun w' hS => ?_) ?_
              rotate_left
              · (go_simp; try with_reducible rfl)
              simp only [Act.put, List.setIfInBounds_toArray, List.set_cons_zero, List.set_cons_succ]
              refine wpL_guarded rfl (fun w' hS => exec_convert rfl rfl (run_convert_in (by obtain ⟨_, hS⟩ := hS; exact rowA_bytes hzl.symm _ hS))) ?_
              simp only [Act.put, List.setIfInBounds_toArray, List.set_cons_zero, List.set_cons_succ]
              have h10 := h9.drew.alloc (.cells (cellsV z).toArray 5)
              refine wpL_effG rfl (wp_make rfl rfl rfl (Hmk2.out _) ⟨⟨_, h10.pull2⟩, ?_⟩)
              simp only [Act.put, List.setIfInBounds_toArray, List.set_cons_zero, List.set_cons_succ]
              refine wpL_effG rfl (wp_of_run (exec_convert rfl rfl (run_convert_in (BytesIn.tells _ _ hzl.symm _ h10))) ⟨⟨_, h10.pull2⟩, ?_⟩)
              simp only [Act.put, List.setIfInBounds_toArray, List.set_cons_zero, List.set_cons_succ]
              refine wpL_guarded (v := ?_) rfl (fun w' hS => ?_) ?_
              rotate_left
              · (go_simp; try with_reducible rfl)
              simp only [Act.put, List.setIfInBounds_toArray, List.set_cons_zero, List.set_cons_succ]
              refine wpL_guarded (v := ?_) rfl (fun w' hS => ?_) ?_
              rotate_left
              · (go_simp; try with_reducible rfl)
              simp only [Act.put, List.setIfInBounds_toArray, List.set_cons_zero, List.set_cons_succ]
              refine wpL_nil ?_
              refine wpL_nil ?_
              go_wp2_with fail
              go_roundw
              case rel => exact ⟨k + 1, G3, hlt, by go_num, by rw [Hst.out], HT2.out, h10.right.right.pull2⟩
              case measure => simp [intOf]; omega
            · have hbf : lb.getD k false = false := by simpa using hbv
              have hT2 : Took G2 (fun j => decide (j < k + 1) || !lb.getD j false) := HT.out.congr (fun j _ => by
                by_cases e : j = k
                · subst e; rw [hbf]; simp
                · rw [show decide (j < k + 1) = decide (j < k) by rw [decide_eq_decide]; omega])
              rw [hbf] at hcell hst
              have HT2 := Lib.hid hT2
              have Hst := Lib.hid hst
              clear hbv hbf hT2 hst
              go_wp2_with fail
              go_roundw
              case rel => exact ⟨k + 1, G2, hlt, by go_num, by rw [Hst.out]; rfl, HT2.out, h7⟩
              case measure => simp [intOf]; omega
          · obtain rfl : k = 273 := by omega
            have ha := tfull_any h7.pull2 HT.out (fun i hi => by simp [hi])
            have hv : (273 : Int) - (cntB (fun j => decide (j < 273) || !lb.getD j false) 273 : Int) = 0 := by
              rw [cntB_congr (g := fun j => decide (j < 273)) 273 (fun j hj => by rw [decide_eq_true hj]; rfl), cnt_lt 273 273 (Nat.le_refl _)]; rfl
            have hbl := fun w' g k d op F R (h : Bears w' (spA s p d 1024 g k op F G2 * R)) => tblocks_any h HT.out hv
            have hce : (cntL lb 273 : Int) = 0 := by rw [cntL_end]; rfl
            rw [hce]
            have Ha := Lib.hid ha
            have Hbl := Lib.hid hbl
            clear ha hv hbl hce HT h7
            go_wp2_with fail
            refine Ha.out.mono ?_
            rintro e w8 ⟨rfl, h8⟩
            go_wp2_with fail
            refine (tcommit_any h8 hfu (by decide)).mono ?_
            rintro e w9 ⟨d9, rfl, _, h9⟩
            go_wp2_with fail
            refine (Hbl.out _ _ _ _ _ _ _ h9).mono ?_
            rintro e w10 ⟨rfl, h10⟩
            go_wp2_with fail
            go_ret
            exact ⟨rfl, h10.right.right⟩

end Go.Proofs.Ytaiobekochhemaa

/- From the readings of a row to what a walk is told of its slices; no condition. -/
namespace Go.Proofs.Ytaiobekochhemaa
open Go.RowKit

theorem old_tells {W : World} {p : World → Prop} (h : ∀ w, (∀ b, b < W.heap.size → w.heap[b]? = W.heap[b]?) → p w) : (Assn.old W.heap.size W).Tells p := by
  rintro w ⟨F, rfl, h0, _, _, _, h4⟩
  exact h w h4

/-- The form in which a slice of integers comes in. -/
abbrev RowIn (k : IntKind) (w : World) (a : Option Addr) (len cap : Nat) (zs : List Int) : Prop :=
  (a = none ∧ len = 0 ∧ cap = 0 ∧ zs = []) ∨
  ∃ x, a = some x ∧ len ≤ cap ∧ cap ≤ maxLen ∧ zs.length = cap ∧ (∀ i, i < zs.length → w.cell? (x.add i) = some (.int k (zs.getD i 0))) ∧ ∀ n ∈ zs, (Lit.int k n).wf = true

theorem addr_of_cell {w : World} {x : Addr} {v : Value} (h : w.cell? x = some v) : x = ⟨x.block, x.off, none⟩ := by
  unfold World.cell? at h
  split at h
  · cases hs : x.spot with
    | none => cases x; simp_all
    | some s => simp [hs] at h
  · cases h

theorem row_range {k : IntKind} {W : World} {a : Option Addr} {len cap : Nat} {zs : List Int} (h : RowIn k W a len cap zs) (hl : 0 < len) :
    ∃ b o, a = some ⟨b, o, none⟩ ∧ b < W.heap.size ∧ W.rangeAt b o ((zs.take len).map (Value.int k)) := by
  rcases h with ⟨_, h0, _⟩ | ⟨x, rfl, hlc, _, hz, hc, _⟩
  · omega
  · have h0 := hc 0 (by omega)
    have e0 : x.add 0 = x := by simp [Addr.add]
    rw [e0] at h0
    have ex := addr_of_cell h0
    refine ⟨x.block, x.off, by rw [← ex], World.block_lt_of_cell? W x h0, fun j v hv => ?_⟩
    rw [List.getElem?_map, List.getElem?_take] at hv
    split at hv
    · rename_i hj
      have hj' : j < zs.length := by omega
      have := hc j hj'
      rw [ex, Addr.add_mid] at this
      rw [this]
      rw [List.getElem?_eq_getElem hj'] at hv
      simp only [Option.map_some, Option.some.injEq] at hv
      rw [← hv, List.getD_eq_getElem?_getD, List.getElem?_eq_getElem hj']
      rfl
    · cases hv

theorem range_old {W w : World} {b o : Nat} {cs : List Value} (h : W.rangeAt b o cs) (hb : b < W.heap.size) (hw : ∀ b, b < W.heap.size → w.heap[b]? = W.heap[b]?) : w.rangeAt b o cs :=
  rangeAt_block h (hw b hb)

theorem row_bytes {W : World} {a : Option Addr} {len cap : Nat} {zs : List Int} (h : RowIn .u8 W a len cap zs) :
    ∃ l : List UInt8, l.length = len ∧ (Assn.old W.heap.size W).Tells (fun w => BytesIn w (.slice a len cap) l) ∧ len ≤ 9223372036854775807 := by
  have hlen : (zs.take len).length = len ∧ len ≤ 9223372036854775807 := by
    rcases h with ⟨_, rfl, _, rfl⟩ | ⟨x, _, hlc, hm, hz, _, _⟩
    · simp
    · unfold maxLen at hm
      simp; omega
  have hwf : ∀ n ∈ zs.take len, 0 ≤ n ∧ n ≤ 255 := by
    intro n hn
    rcases h with ⟨_, _, _, rfl⟩ | ⟨x, _, _, _, _, _, hw⟩
    · simp at hn
    · have := hw n (List.mem_of_mem_take hn)
      simp [Lit.wf, IntKind.min, IntKind.max, IntKind.signed, IntKind.bits] at this
      omega
  refine ⟨(zs.take len).map (fun n => UInt8.ofNat n.toNat), by simpa using hlen.1, old_tells (fun w hw => ?_), hlen.2⟩
  have hl2 : ((zs.take len).map (fun n => UInt8.ofNat n.toNat)).length = len := by simpa using hlen.1
  refine ⟨a, cap, by rw [hl2], fun hne => ?_⟩
  have hpos : 0 < len := by rw [← hl2]; exact List.length_pos_iff.2 hne
  obtain ⟨b, o, ha, hb, hr⟩ := row_range h hpos
  refine ⟨b, o, ha, ?_⟩
  have e : cellsV ((zs.take len).map (fun n => UInt8.ofNat n.toNat)) = (zs.take len).map (Value.int .u8) := by
    unfold cellsV
    rw [List.map_map]
    refine List.map_congr_left (fun n hn => ?_)
    have := hwf n hn
    simp only [Function.comp_apply, byteV]
    congr 1
    rw [UInt8.toNat_ofNat_of_lt' (by show n.toNat < 256; omega)]
    omega
  rw [e]
  exact range_old hr hb hw

theorem row_ints {W : World} {a : Option Addr} {len cap : Nat} {zs : List Int} (h : RowIn .i64 W a len cap zs) :
    ∃ l : List Int, l.length = len ∧ (Assn.old W.heap.size W).Tells (fun w => IntsIn w (.slice a len cap) l) ∧ len ≤ 9223372036854775807 ∧ ∀ x ∈ l, -9223372036854775808 ≤ x ∧ x ≤ 9223372036854775807 := by
  have hlen : (zs.take len).length = len ∧ len ≤ 9223372036854775807 := by
    rcases h with ⟨_, rfl, _, rfl⟩ | ⟨x, _, hlc, hm, hz, _, _⟩
    · simp
    · unfold maxLen at hm
      simp; omega
  refine ⟨zs.take len, hlen.1, old_tells (fun w hw => ?_), hlen.2, fun n hn => ?_⟩
  · refine ⟨a, cap, by rw [hlen.1], fun hne => ?_⟩
    have hpos : 0 < len := by rw [← hlen.1]; exact List.length_pos_iff.2 hne
    obtain ⟨b, o, ha, hb, hr⟩ := row_range h hpos
    exact ⟨b, o, ha, range_old hr hb hw⟩
  · rcases h with ⟨_, _, _, rfl⟩ | ⟨x, _, _, _, _, _, hw⟩
    · simp at hn
    · have := hw n (List.mem_of_mem_take hn)
      simp [Lit.wf, IntKind.min, IntKind.max, IntKind.signed, IntKind.bits] at this
      omega

theorem old_below {W w' : World} (h : Bears w' (Assn.old W.heap.size W)) : Below W.heap.size W w' := by
  obtain ⟨F, rfl, h0, h1, h2, h3, h4⟩ := h
  exact ⟨h1, h2, h3, h0, h4⟩

end Go.Proofs.Ytaiobekochhemaa

/- A slice of calls (structs of five cells) that came in: its cells; no condition. -/
namespace Go.Proofs.Ytaiobekochhemaa
open Go.RowKit Go.ChangeShapes Go.WideShapes Go.Deep

section
variable {H : Type} {enc : TypeId × Value → H} {P : Program} {W : World} {spare : Nat → Bool} {held : Bool}

/-- The cells of a slice of structs whose fields are of one cell each, row by row. -/
theorem trod_rows {t e : TypeId} {fs : Array Field} (ht : P.underlying t = some (.slice e)) (he : P.underlying e = some (.struct fs)) (hone : oneCellFields P fs = true) (hC : P.cellsOf e = fs.size) (hpos : 0 < fs.size)
    {a : Option Addr} {len cap fuel : Nat} {x : DataW H × List MemPlace} (h : DataW.trod enc P W 0 spare held fuel t [.slice a len cap] = some x) :
    len ≤ maxLen ∧ ∃ rows : Nat → List Value, (0 < len → ∃ b o, a = some ⟨b, o, none⟩ ∧ b < W.heap.size ∧ ∀ i j, i < len → j < fs.size → W.cell? ⟨b, o + i * fs.size + j, none⟩ = (rows i)[j]?) ∧
      ∀ i, i < len → (rows i).length = fs.size ∧ ∀ (j : Nat) (f : Field), fs[j]? = some f → ∃ v n y, (rows i)[j]? = some v ∧ DataW.trod enc P W 0 spare held n f.type [v] = some y := by
  rcases open_slice ht h with ⟨hcs, _⟩ | ⟨a', len', cap', m, n, D, Pl, hcs, hb, hl, hm, hmm, hx, hi⟩
  · simp only [List.cons.injEq, Value.slice.injEq, and_true] at hcs
    obtain ⟨_, rfl, _⟩ := hcs
    exact ⟨by omega, fun _ => [], fun h => absurd h (by omega), fun i h => absurd h (by omega)⟩
  · simp only [List.cons.injEq, Value.slice.injEq, and_true] at hcs
    obtain ⟨rfl, rfl, rfl⟩ := hcs
    have hlm : len ≤ m := by rw [hmm]; split <;> omega
    obtain ⟨rows, hr⟩ := choose_lt hi
    have hrow : ∀ i, i < len → (rows i).length = fs.size ∧ ∀ j, j < fs.size → W.cell? (a'.add (i * fs.size + j)) = (rows i)[j]? := by
      intro i hi
      obtain ⟨h1, _⟩ := hr i (by omega)
      rw [hC] at h1
      obtain ⟨_, h2, h3⟩ := World.cells?_some h1
      exact ⟨h2, fun j hj => by rw [← add_add]; exact h3 j hj⟩
    refine ⟨by omega, rows, fun h0 => ?_, fun i hi => ⟨(hrow i hi).1, fun j f hj => ?_⟩⟩
    · obtain ⟨h1, h2⟩ := hrow 0 h0
      have h3 := h2 0 hpos
      rw [List.getElem?_eq_getElem (by omega)] at h3
      have e0 : a'.add (0 * fs.size + 0) = a' := by simp [Addr.add]
      rw [e0] at h3
      have ex := addr_of_cell h3
      refine ⟨a'.block, a'.off, by rw [← ex], World.block_lt_of_cell? W a' h3, fun i j hi hj => ?_⟩
      have h4 := (hrow i hi).2 j hj
      rw [ex, Addr.add_mid] at h4
      rw [← h4, Nat.add_assoc]
    · obtain ⟨hcl, h2⟩ := hrow i hi
      obtain ⟨_, h1⟩ := hr i (by omega)
      obtain ⟨ys, n', hn', hy, hlen, hyl, hf⟩ := DataW.trod_struct he h1
      obtain ⟨ho, hk⟩ := hone_of hone j f hj
      have hjl : j < fs.size := (Array.getElem?_eq_some_iff.1 hj).1
      have h4 := hf j f hj
      rw [ho, hk] at h4
      have h5 : ((rows i).drop j).take 1 = [(rows i)[j]'(by omega)] := by
        rw [List.drop_eq_getElem_cons (by omega)]
        rfl
      rw [h5, List.getElem?_eq_getElem (by omega)] at h4
      exact ⟨_, _, _, List.getElem?_eq_getElem (by omega), h4⟩

theorem trod_i64 {t : TypeId} {v : Value} {n : Nat} {y : DataW H × List MemPlace} (ht : P.underlying t = some (.int .i64)) (h : DataW.trod enc P W 0 spare held n t [v] = some y) :
    ∃ z, v = .int .i64 z ∧ -9223372036854775808 ≤ z ∧ z ≤ 9223372036854775807 := by
  obtain ⟨z, h1, _, h2⟩ := DataW.trod_int ht h
  simp only [List.cons.injEq, and_true] at h1
  simp [Lit.wf, IntKind.min, IntKind.max, IntKind.signed, IntKind.bits] at h2
  exact ⟨z, h1, by omega, by omega⟩
theorem trod_u8 {t : TypeId} {v : Value} {n : Nat} {y : DataW H × List MemPlace} (ht : P.underlying t = some (.int .u8)) (h : DataW.trod enc P W 0 spare held n t [v] = some y) : ∃ c, v = byteV c := by
  obtain ⟨z, h1, _, h2⟩ := DataW.trod_int ht h
  simp only [List.cons.injEq, and_true] at h1
  simp [Lit.wf, IntKind.min, IntKind.max, IntKind.signed, IntKind.bits] at h2
  refine ⟨UInt8.ofNat z.toNat, ?_⟩
  rw [h1]
  unfold byteV
  congr 1
  rw [UInt8.toNat_ofNat_of_lt' (by show z.toNat < 256; omega)]
  omega
theorem trod_row {t e : TypeId} {k : IntKind} {v : Value} {n : Nat} {y : DataW H × List MemPlace} (ht : P.underlying t = some (.slice e)) (he : P.underlying e = some (.int k)) (hc : P.cellsOf e = 1)
    (h : DataW.trod enc P W 0 (fun _ => true) held n t [v] = some y) : ∃ a len cap zs, v = .slice a len cap ∧ RowIn k W a len cap zs := by
  rcases open_ints ht he hc h with ⟨hcs, _⟩ | ⟨x, l, c, zs, hcs, _, hl, hm, hz, _, hcell, hwz⟩
  · simp only [List.cons.injEq, and_true] at hcs
    exact ⟨none, 0, 0, [], hcs, .inl ⟨rfl, rfl, rfl, rfl⟩⟩
  · simp only [List.cons.injEq, and_true] at hcs
    exact ⟨_, _, _, zs, hcs, .inr ⟨_, rfl, hl, hm, by simpa using hz, hcell, hwz⟩⟩
end

/-- A call of the disk's laws. -/
structure OpM where
  kind : Int
  at' : Int
  n : Int
  byte : UInt8
  kad : Option Addr
  kcap : Nat
  keep : List Int
instance : Inhabited OpM := ⟨⟨0, 0, 0, 0, none, 0, []⟩⟩
def OpM.row (o : OpM) : List Value := [.int .i64 o.kind, .int .i64 o.at', .int .i64 o.n, byteV o.byte, .slice o.kad o.keep.length o.kcap]
structure OpM.Fine (o : OpM) : Prop where
  kind : -9223372036854775808 ≤ o.kind ∧ o.kind ≤ 9223372036854775807
  at' : -9223372036854775808 ≤ o.at' ∧ o.at' ≤ 9223372036854775807
  n : -9223372036854775808 ≤ o.n ∧ o.n ≤ 9223372036854775807
  keeps : o.keep.length ≤ 9223372036854775807
  keep : ∀ x ∈ o.keep, -9223372036854775808 ≤ x ∧ x ≤ 9223372036854775807

def OpsIn (w : World) (v : Value) (ops : List OpM) : Prop :=
  ∃ ad cap, v = .slice ad ops.length cap ∧ (ops ≠ [] → ∃ b o, ad = some ⟨b, o, none⟩ ∧ ∀ i j u, i < ops.length → (ops.getD i default).row[j]? = some u → w.cell? ⟨b, o + i * 5 + j, none⟩ = some u) ∧
    ∀ k, k < ops.length → IntsIn w (.slice (ops.getD k default).kad (ops.getD k default).keep.length (ops.getD k default).kcap) (ops.getD k default).keep

theorem OpsIn.cells {w : World} {ad : Option Addr} {n cap : Nat} {ops : List OpM} (h : OpsIn w (.slice ad n cap) ops) {k : Nat} (hk : k < ops.length) :
    ∃ b o, ad = some ⟨b, o, none⟩ ∧ w.cell? ⟨b, o + k * 5, none⟩ = some (.int .i64 (ops.getD k default).kind) ∧ w.cell? ⟨b, o + k * 5 + 1, none⟩ = some (.int .i64 (ops.getD k default).at') ∧
      w.cell? ⟨b, o + k * 5 + 2, none⟩ = some (.int .i64 (ops.getD k default).n) ∧ w.cell? ⟨b, o + k * 5 + 3, none⟩ = some (byteV (ops.getD k default).byte) ∧
      w.cell? ⟨b, o + k * 5 + 4, none⟩ = some (.slice (ops.getD k default).kad (ops.getD k default).keep.length (ops.getD k default).kcap) := by
  obtain ⟨ad', cap', hv, hr, _⟩ := h
  simp only [Value.slice.injEq] at hv
  obtain ⟨rfl, _, _⟩ := hv
  obtain ⟨b, o, e, hc⟩ := hr (by intro e; simp [e] at hk)
  exact ⟨b, o, e, hc k 0 _ hk rfl, hc k 1 _ hk rfl, hc k 2 _ hk rfl, hc k 3 _ hk rfl, hc k 4 _ hk rfl⟩
theorem OpsIn.keep {w : World} {v : Value} {ops : List OpM} (h : OpsIn w v ops) {k : Nat} (hk : k < ops.length) :
    IntsIn w (.slice (ops.getD k default).kad (ops.getD k default).keep.length (ops.getD k default).kcap) (ops.getD k default).keep := by
  obtain ⟨ad', cap', hv, hr, h⟩ := h
  exact h k hk

end Go.Proofs.Ytaiobekochhemaa
