/- Texts of this claim, put together: AllocW11, AllocW12, AllocW13, AllocP, AllocT, AllocU, AllocQ, Fused, Buf, AllocS, Vals, RSD, RSW1; no condition. -/
import Derived.Test.YtcggloceabjjdaaGreatM1bc0f0e841
import Derived.ChangeKeysEq

set_option linter.unusedSimpArgs false
set_option linter.unusedVariables false

/- Walks of the space's functions, part 11: Format; no condition. -/
namespace Go.Proofs.YtcggloceabjjdaaGreat
open Go.RowKit Go.MapKept

/-- The disk behind so many of Format's steps. -/
def fmtD (d d3 : DiskM) (f : Nat) : Nat → DiskM
  | 0 => d
  | 1 => d.put 0 zeroSec
  | 2 => (d.put 0 zeroSec).bar
  | 3 => d3
  | 4 => cleanD d3 (f - 621)
  | 5 => (cleanD d3 (f - 621)).bar
  | 6 => (cleanD d3 (f - 621)).bar.put 0 (superB d.len)
  | _ => ((cleanD d3 (f - 621)).bar.put 0 (superB d.len)).bar

/-- Format's steps: what it makes of them. -/
def stepsV (b c z p : Nat) : List Value := [.func (.func 70) #[] #[ptrB b, ptrB z], .func (.func 72) #[ptrB p] #[], .func (.func 73) #[] #[ptrB b],
  .func (.func 75) #[] #[ptrB b, ptrB c], .func (.func 72) #[ptrB p] #[], .func (.func 77) #[] #[ptrB b], .func (.func 72) #[ptrB p] #[]]

theorem Bears.rev5 {w : World} {a b c d e r : Assn} (h : Bears w (a * (b * (c * (d * (e * r)))))) : Bears w (e * (d * (c * (b * (a * r))))) := h.cast (by ac_rfl)

set_option maxRecDepth 100000 in
set_option maxHeartbeats 1000000 in
theorem format_space {p : Nat} {d d3 : DiskM} {R : Assn} {w : World} (h : Bears w (diskA p d * R)) (hd : d.Plain) (hlo : 1024 ≤ d.len) (hhi : d.len ≤ 8192) (hroom : d.waits.length + 10000 < 1099511627776)
    (hwf : wFormat (d.put 0 zeroSec).bar 1 620 = (0, d3)) (h3 : d3.Plain) (h3l : d3.len = d.len) (h3w : d3.waits = []) :
    Calls Tryz.prog 34 #[ptrB p] w fun e w' => e = .returned (.int .i64 0) ∧ Bears w' (diskA p (fmtD d d3 (firstB d.len) 7) * R) := by
  have hmf : ∀ (fn : Fn) (first cap : Array Value) (w : World), (Instr.makeFunc fn first cap).run Tryz.prog w = .ok (.func fn first cap) w := fun _ _ _ _ => rfl
  have hfl : firstB d.len ≤ d.len := by unfold firstB mapsN; omega
  have hf621 : 621 ≤ firstB d.len := by unfold firstB; omega
  have hfn := firstN_eq hlo hhi
  have hb1 := (h.alloc (.cells #[ptrB p] 24))
  obtain ⟨f, hf⟩ : ∃ f, firstB d.len = f := ⟨_, rfl⟩
  rw [hf] at hfl hf621 hfn
  have Hwf := Lib.hid hwf
  have H3p := Lib.hid h3
  have H3l := Lib.hid h3l
  have H3w := Lib.hid h3w
  have Hd := Lib.hid hd
  have Hf := Lib.hid hf
  have Hfn := Lib.hid hfn
  clear hwf h3 h3l h3w hfn hf hd h
  go_enter Tryz.func34, Tryz.ntmps34
  go_wp2_with fail
  refine (len_any hb1.pull2).mono ?_
  rintro e w1 ⟨rfl, rfl⟩
  go_wp2_with fail
  refine (first_any (d.len : Int) _ (by omega)).mono ?_
  rintro e w2 ⟨rfl, rfl⟩
  rw [Hfn.out]
  go_wp2_with (first
    | (refine wpList_alloc_z rfl rfl (z_asec' _) ?_))
  have hb2 := hb1.alloc (.cells #[.int .i64 f] 3)
  rw [show (w.alloc (.cells #[ptrB p] 24)).heap.size = w.heap.size + 1 from Array.size_push _] at hb2
  have hb3 := hb2.alloc (.cells (cellsV zeroSec).toArray 71)
  rw [show ((w.alloc (.cells #[ptrB p] 24)).alloc (.cells #[.int .i64 f] 3)).heap.size = w.heap.size + 1 + 1 from (Array.size_push _).trans (congrArg (· + 1) (Array.size_push _))] at hb3
  have hb4 := hb3.alloc (.cells (stepsV w.heap.size (w.heap.size + 1) (w.heap.size + 1 + 1) p).toArray 43)
  rw [show (((w.alloc (.cells #[ptrB p] 24)).alloc (.cells #[.int .i64 f] 3)).alloc (.cells (cellsV zeroSec).toArray 71)).heap.size = w.heap.size + 1 + 1 + 1 from (Array.size_push _).trans (congrArg (· + 1) ((Array.size_push _).trans (congrArg (· + 1) (Array.size_push _))))] at hb4
  have hb5 : Bears _ (diskA p (fmtD d d3 f 0) * (boxA w.heap.size (ptrB p) 24 * (boxA (w.heap.size + 1) (.int .i64 f) 3 * (Assn.obj (w.heap.size + 1 + 1) (.cells (cellsV zeroSec).toArray 71 (0, 0)) *
    (Assn.obj (w.heap.size + 1 + 1 + 1) (.cells (stepsV w.heap.size (w.heap.size + 1) (w.heap.size + 1 + 1) p).toArray 43 (0, 0)) * R))))) := hb4.rev5
  clear hb1 hb2 hb3 hb4
  go_loopw [25] (fun kv wr => ∃ k : Nat, k ≤ 7 ∧ kv = .int .i64 k ∧ Bears wr (diskA p (fmtD d d3 f k) * (boxA w.heap.size (ptrB p) 24 * (boxA (w.heap.size + 1) (.int .i64 f) 3 * (Assn.obj (w.heap.size + 1 + 1) (.cells (cellsV zeroSec).toArray 71 (0, 0)) *
    (Assn.obj (w.heap.size + 1 + 1 + 1) (.cells (stepsV w.heap.size (w.heap.size + 1) (w.heap.size + 1 + 1) p).toArray 43 (0, 0)) * R)))))) (fun kv _ => 7 - (intOf kv).toNat)
  case atStart => exact ⟨0, by omega, rfl, hb5⟩
  case round =>
    clear hb5
    obtain ⟨k, hk, rfl, h2⟩ := hrel
    obtain ⟨b, hb⟩ : ∃ b, w.heap.size = b := ⟨_, rfl⟩
    rw [hb] at h2 ⊢
    have Hb := Lib.hid hb
    clear hb
    match k, hk, h2 with
    | 0, _, h2 =>
      have cs : wr.cell? ⟨b + 1 + 1 + 1, 0, none⟩ = some ((stepsV b (b + 1) (b + 1 + 1) p).getD 0 undef) := cell_of_obj h2.pull5.obj 0
      simp only [stepsV, List.getD_cons_zero] at cs
      have Hc := Lib.hid (format1_any h2.c34 Hd.out (by show 0 < d.len; omega) hroom)
      have H2 := Lib.hid h2
      clear h2
      go_wp2_with fail
      refine Hc.out.mono ?_
      rintro e w3 ⟨rfl, h3⟩
      go_wp2_with fail
      go_roundw
      case rel => exact ⟨1, by omega, by go_num, h3.c34⟩
      case measure => simp [intOf]
    | 1, _, h2 =>
      have cs : wr.cell? ⟨b + 1 + 1 + 1, 1, none⟩ = some ((stepsV b (b + 1) (b + 1 + 1) p).getD 1 undef) := cell_of_obj h2.pull5.obj 1
      simp only [stepsV, List.getD_cons_zero, List.getD_cons_succ] at cs
      have Hc := Lib.hid (barrier_to h2 ((Hd.out.put 0 zeroSec).barrier) (by show (d.waits ++ [(0, zeroSec)]).length < _; rw [List.length_append]; simp only [List.length_cons, List.length_nil]; omega))
      have H2 := Lib.hid h2
      clear h2
      go_wp2_with fail
      refine Hc.out.mono ?_
      rintro e w3 ⟨rfl, h3⟩
      go_wp2_with fail
      go_roundw
      case rel => exact ⟨2, by omega, by go_num, h3⟩
      case measure => simp [intOf]
    | 2, _, h2 =>
      have cs : wr.cell? ⟨b + 1 + 1 + 1, 2, none⟩ = some ((stepsV b (b + 1) (b + 1 + 1) p).getD 2 undef) := cell_of_obj h2.pull5.obj 2
      simp only [stepsV, List.getD_cons_zero, List.getD_cons_succ] at cs
      have Hc := Lib.hid (format2_any h2 Hwf.out (by show 0 + 10000 < 1099511627776; omega))
      have H2 := Lib.hid h2
      clear h2
      go_wp2_with fail
      refine Hc.out.mono ?_
      rintro e w3 ⟨rfl, h3⟩
      go_wp2_with fail
      go_roundw
      case rel => exact ⟨3, by omega, by go_num, h3⟩
      case measure => simp [intOf]
    | 3, _, h2 =>
      have cs : wr.cell? ⟨b + 1 + 1 + 1, 3, none⟩ = some ((stepsV b (b + 1) (b + 1 + 1) p).getD 3 undef) := cell_of_obj h2.pull5.obj 3
      simp only [stepsV, List.getD_cons_zero, List.getD_cons_succ] at cs
      have Hc := Lib.hid (format3_any h2 H3p.out (by show f ≤ d3.len; rw [H3l.out]; exact hfl) (by show d3.len ≤ 8192; rw [H3l.out]; exact hhi) hf621 (by show d3.waits.length + 10000 < _; rw [H3w.out]; show 0 + 10000 < 1099511627776; omega))
      have H2 := Lib.hid h2
      clear h2
      go_wp2_with fail
      refine Hc.out.mono ?_
      rintro e w3 ⟨rfl, h3⟩
      go_wp2_with fail
      go_roundw
      case rel => exact ⟨4, by omega, by go_num, h3⟩
      case measure => simp [intOf]
    | 4, _, h2 =>
      have cs : wr.cell? ⟨b + 1 + 1 + 1, 4, none⟩ = some ((stepsV b (b + 1) (b + 1 + 1) p).getD 4 undef) := cell_of_obj h2.pull5.obj 4
      simp only [stepsV, List.getD_cons_zero, List.getD_cons_succ] at cs
      have Hc := Lib.hid (barrier_to h2 ((cleanD_is H3p.out (f - 621)).1.barrier) (by show (cleanD d3 (f - 621)).waits.length < _; rw [(cleanD_is H3p.out (f - 621)).2.2.2.1, H3w.out]; simp; omega))
      have H2 := Lib.hid h2
      clear h2
      go_wp2_with fail
      refine Hc.out.mono ?_
      rintro e w3 ⟨rfl, h3⟩
      go_wp2_with fail
      go_roundw
      case rel => exact ⟨5, by omega, by go_num, h3⟩
      case measure => simp [intOf]
    | 5, _, h2 =>
      have cs : wr.cell? ⟨b + 1 + 1 + 1, 5, none⟩ = some ((stepsV b (b + 1) (b + 1 + 1) p).getD 5 undef) := cell_of_obj h2.pull5.obj 5
      simp only [stepsV, List.getD_cons_zero, List.getD_cons_succ] at cs
      have Hc := Lib.hid (format4_any h2 ((cleanD_is H3p.out (f - 621)).1.bar) (by show 0 < (cleanD d3 (f - 621)).len; rw [(cleanD_is H3p.out (f - 621)).2.1, H3l.out]; omega) (by show (cleanD d3 (f - 621)).len ≤ 8192; rw [(cleanD_is H3p.out (f - 621)).2.1, H3l.out]; exact hhi) (by show 0 + 10000 < 1099511627776; omega))
      have H2 := Lib.hid h2
      clear h2
      go_wp2_with fail
      refine Hc.out.mono ?_
      rintro e w3 ⟨rfl, h3⟩
      go_wp2_with fail
      go_roundw
      case rel =>
        rw [show (fmtD d d3 f 5).len = d.len from (cleanD_is H3p.out (f - 621)).2.1.trans H3l.out] at h3
        exact ⟨6, by omega, by go_num, h3⟩
      case measure => simp [intOf]
    | 6, _, h2 =>
      have cs : wr.cell? ⟨b + 1 + 1 + 1, 6, none⟩ = some ((stepsV b (b + 1) (b + 1 + 1) p).getD 6 undef) := cell_of_obj h2.pull5.obj 6
      simp only [stepsV, List.getD_cons_zero, List.getD_cons_succ] at cs
      have Hc := Lib.hid (barrier_to h2 (((cleanD_is H3p.out (f - 621)).1.bar.put 0 (superB d.len)).barrier) (by show 1 < 1099511627776; omega))
      have H2 := Lib.hid h2
      clear h2
      go_wp2_with fail
      refine Hc.out.mono ?_
      rintro e w3 ⟨rfl, h3⟩
      go_wp2_with fail
      go_roundw
      case rel => exact ⟨7, by omega, by go_num, h3⟩
      case measure => simp [intOf]
    | 7, _, h2 =>
      have H2 := Lib.hid h2
      clear h2
      go_wp2_with fail
      go_ret
      rw [Hf.out]
      exact ⟨rfl, H2.out.pull2.right.pull2.right.pull2.right.pull2.right⟩

end Go.Proofs.YtcggloceabjjdaaGreat

/- Sectors that are compared; Open; no condition. -/
namespace Go.Proofs.YtcggloceabjjdaaGreat
open Go.RowKit Go.MapKept

theorem beq_toNat (x y : UInt8) : ((x.toNat : Int) == (y.toNat : Int)) = (x == y) := by
  rw [Bool.eq_iff_iff, beq_iff_eq, beq_iff_eq]
  constructor
  · intro h
    exact UInt8.toNat_inj.1 (by omega)
  · rintro h; rw [h]
theorem all_range {a b : List UInt8} {n : Nat} (ha : a.length = n) (hb : b.length = n) : ((List.range n).all fun i => a.getD i 0 == b.getD i 0) = decide (a = b) := by
  rw [Bool.eq_iff_iff, decide_eq_true_iff, List.all_eq_true]
  constructor
  · intro h
    refine List.ext_getElem (by omega) (fun j h1 h2 => ?_)
    have := h j (by simp; omega)
    rw [beq_iff_eq] at this
    simpa [h1, h2] using this
  · rintro rfl j _
    simp

theorem run_eqItems_bytes (w : World) (d : Nat) (a b : List UInt8) (is : List Nat) (hi : ∀ i ∈ is, i < a.length ∧ i < b.length) :
    (Op.eqItems (d + 1) 5 (Tryz.prog.cellsOf 5) (cellsV a).toArray (cellsV b).toArray is).run Tryz.prog w = .ok (is.all fun i => a.getD i 0 == b.getD i 0) w := by
  induction is with
  | nil => simp [Op.eqItems]
  | cons i is ih =>
    have h1 := (hi i (by simp)).1
    have h2 := (hi i (by simp)).2
    have hc : Tryz.prog.cellsOf 5 = 1 := by kernel_rfl
    have p1 : (part 5 (cellsV a).toArray (i * 1)).run Tryz.prog w = .ok (byteV (a.getD i 0)) w := run_part_plain w (by kernel_rfl) (by simp [cellsV, h1])
    have p2 : (part 5 (cellsV b).toArray (i * 1)).run Tryz.prog w = .ok (byteV (b.getD i 0)) w := run_part_plain w (by kernel_rfl) (by simp [cellsV, h2])
    have p3 : (Op.equalIn (d + 1) 5 (byteV (a.getD i 0)) (byteV (b.getD i 0))).run Tryz.prog w = .ok (a.getD i 0 == b.getD i 0) w := by
      unfold byteV
      rw [run_equalIn_int w d 5 .u8 .u8 _ _ Tryz.underlying5]
      rw [beq_toNat]
    have ih' := ih (fun j hj => hi j (by simp [hj]))
    rw [hc] at ih' ⊢
    simp only [Op.eqItems, Sem.run_bind, p1, p2, p3, Result.andThen_ok, List.all_cons]
    cases a.getD i 0 == b.getD i 0
    · simp
    · simpa using ih'

theorem neq_sec (w : World) (a b : Sec) (ha : a.length = 64) (hb : b.length = 64) : (binOp .neq 71 (.agg (cellsV a).toArray) (.agg (cellsV b).toArray)).run Tryz.prog w = .ok (.bool (!decide (a = b))) w := by
  obtain ⟨i, hi⟩ : ∃ i, Tryz.prog.info? 5 = some i := Option.isSome_iff_exists.1 (by kernel_rfl)
  rw [run_neq_struct, run_equalIn_array w 9999 _ _ u_asec hi, run_eqItems_bytes w 9998 a b _ (fun j hj => by simp at hj; omega)]
  simp only [Result.andThen_ok]
  rw [all_range ha hb]

set_option maxRecDepth 100000 in
set_option maxHeartbeats 400000 in
theorem space_args {p : Nat} {d : DiskM} {R : Assn} {w : World} (h : Bears w (diskA p d * R)) (hl : d.len < 1024 ∨ 8192 < d.len) (hb : d.len ≤ 8192) :
    Calls Tryz.prog 10 #[ptrB p] w fun e w' => e = .returned (.tuple #[.pointer none, .int .i64 1]) ∧ w' = w := by
  have e1 : firstN (d.len : Int) = 0 := by unfold firstN; rw [if_pos (by omega)]
  have E1 := Lib.hid e1
  clear e1
  go_enter Tryz.func10, Tryz.ntmps10
  go_wp2_with fail
  refine (len_any h).mono ?_
  rintro e w1 ⟨rfl, rfl⟩
  go_wp2_with fail
  refine (first_any (d.len : Int) _ (by omega)).mono ?_
  rintro e w2 ⟨rfl, rfl⟩
  rw [E1.out]
  go_wp2_with fail
  go_ret2
  exact ⟨rfl, rfl⟩

set_option maxRecDepth 100000 in
set_option maxHeartbeats 400000 in
theorem format_args {p : Nat} {d : DiskM} {R : Assn} {w : World} (h : Bears w (diskA p d * R)) (hl : d.len < 1024 ∨ 8192 < d.len) (hb : d.len ≤ 8192) :
    Calls Tryz.prog 34 #[ptrB p] w fun e w' => e = .returned (.int .i64 1) ∧ Bears w' (diskA p d * R) := by
  have e1 : firstN (d.len : Int) = 0 := by unfold firstN; rw [if_pos (by omega)]
  have E1 := Lib.hid e1
  have hb1 := (h.alloc (.cells #[ptrB p] 24))
  clear e1 h
  go_enter Tryz.func34, Tryz.ntmps34
  go_wp2_with fail
  refine (len_any hb1.pull2).mono ?_
  rintro e w1 ⟨rfl, rfl⟩
  go_wp2_with fail
  refine (first_any (d.len : Int) _ (by omega)).mono ?_
  rintro e w2 ⟨rfl, rfl⟩
  rw [E1.out]
  have hb2 := hb1.alloc (.cells #[.int .i64 0] 3)
  go_wp2_with fail
  go_ret
  exact ⟨rfl, hb2.right.right⟩

set_option maxRecDepth 100000 in
set_option maxHeartbeats 1000000 in
theorem space_none {p : Nat} {d : DiskM} {R : Assn} {w : World} (h : Bears w (diskA p d * R)) (ho : d.off = false) (hlo : 1024 ≤ d.len) (hhi : d.len ≤ 8192) {s0 : Sec} (hs0 : d.now 0 = s0) (hs64 : s0.length = 64) (hne : s0 ≠ superB d.len) :
    Calls Tryz.prog 10 #[ptrB p] w fun e w' => e = .returned (.tuple #[.pointer none, .int .i64 4]) ∧ Bears w' (diskA p d * R) := by
  have hfn := firstN_eq hlo hhi
  have hf621 : 621 ≤ firstB d.len := by unfold firstB; omega
  have hsl := superB_length d.len
  have hnq : ∀ w, (binOp .neq 71 (.agg (cellsV s0).toArray) (.agg (cellsV (superB d.len)).toArray)).run Tryz.prog w = .ok (.bool true) w := fun w => by
    rw [neq_sec w _ _ hs64 hsl, decide_eq_false hne]; rfl
  have hck : d.check 0 = 0 := by unfold DiskM.check; rw [ho, if_neg (by simp), if_neg (by omega)]
  have Hnq := Lib.hid hnq
  have H64 := Lib.hid hs64
  have Hs0 := Lib.hid hs0
  have Hfn := Lib.hid hfn
  have Hne := Lib.hid hne
  clear hnq hs64 hs0 hne hfn
  go_enter Tryz.func10, Tryz.ntmps10
  go_wp2_with fail
  refine (len_any h).mono ?_
  rintro e w1 ⟨rfl, rfl⟩
  go_wp2_with fail
  refine (first_any (d.len : Int) _ (by omega)).mono ?_
  rintro e w2 ⟨rfl, rfl⟩
  rw [Hfn.out]
  go_wp2_with fail
  refine (read_to 0 h hck Hs0.out).mono ?_
  rintro e w3 ⟨g, rfl, h3⟩
  go_wp2_with fail
  have hap : ∀ w, (Instr.arrayAt 71 (.slice (some ⟨g, 0, none⟩) 64 64)).run Tryz.prog w = .ok (.pointer (some ⟨g, 0, none⟩)) w := fun w => by kernel_rfl
  have hcl : (Tryz.prog.info? 71).map (·.size) = some (cellsV s0).length := by rw [length_cellsV, H64.out]; exact i_asec
  have hon : ∀ w, (∃ Q, Bears w (diskA p d * (Assn.obj g (.cells (cellsV s0).toArray 86 (0, 0)) * Q))) → w.rangeAt g 0 (cellsV s0) := fun w ⟨_, hq⟩ => rangeAt_of_obj hq.pull2.obj
  refine wp_region_L (fun w' => ∃ Q, Bears w' (diskA p d * (Assn.obj g (.cells (cellsV s0).toArray 86 (0, 0)) * Q))) 7 [(true, 0), (true, 1), (true, 2), (true, 3), (false, 4), (false, 5), (true, 6)] [] (by kernel_rfl) (by kernel_rfl) ⟨_, h3.pull2.drew⟩ ?_
  simp only [pick, List.getElem?_cons_zero, List.getElem?_cons_succ]
  refine wpL_guarded (v := ?_) rfl (fun w' hS => ?_) ?_
  rotate_left
  · (go_simp; try with_reducible rfl)
  simp only [Act.put, List.setIfInBounds_toArray, List.set_cons_zero, List.set_cons_succ]
  refine wpL_guarded (v := ?_) rfl (fun w' hS => ?_) ?_
  rotate_left
  · (go_simp; try with_reducible rfl)
  simp only [Act.put, List.setIfInBounds_toArray, List.set_cons_zero, List.set_cons_succ]
  refine wpL_load_mid 71 _ rfl rfl g 0 rfl (cellsV s0) _ hon u_asec rfl hcl ?_
  simp only [Act.put, List.setIfInBounds_toArray, List.set_cons_zero, List.set_cons_succ]
  refine wpL_guarded (v := ?_) rfl (fun w' hS => ?_) ?_
  rotate_left
  · (go_simp; try with_reducible rfl)
  simp only [Act.put, List.setIfInBounds_toArray, List.set_cons_zero, List.set_cons_succ]
  refine wpL_effG rfl ?_
  go_simp
  refine (len_any h3.pull2.drew).mono ?_
  rintro e w4 ⟨rfl, rfl⟩
  refine ⟨⟨_, h3.pull2.drew⟩, ?_⟩
  refine wpL_effG rfl ?_
  go_simp
  refine (super_any h3.pull2.drew d.len (by omega)).mono ?_
  rintro e w5 ⟨rfl, h5⟩
  refine ⟨⟨_, h5⟩, ?_⟩
  have hnq := Hnq.out
  have heg : Tryz.prog.eqGuardType Tryz.prog.depth 71 = false := by kernel_rfl
  simp only [secV]
  refine wpL_guarded (v := ?_) rfl (fun w' hS => ?_) ?_
  rotate_left
  · (go_simp; try with_reducible rfl)
  simp only [Act.put, List.setIfInBounds_toArray, List.set_cons_zero, List.set_cons_succ]
  refine wpL_nil ?_
  refine wpL_nil ?_
  go_wp2_with fail
  go_ret2
  exact ⟨rfl, h5.pull2.right⟩

set_option maxRecDepth 100000 in
set_option maxHeartbeats 1000000 in
theorem space_opens {p g0 : Nat} {d : DiskM} {F : Nat → Sec} {R : Assn} {w : World} (h : Bears w (diskA p d * R)) (hL : LogOn d 1 620 g0 F) (hlo : 1024 ≤ d.len) (hhi : d.len ≤ 8192) (hF : F 0 = superB d.len) (h64 : ∀ i, (F i).length = 64) (hg : g0 < 9223372036854775808) :
    Calls Tryz.prog 10 #[ptrB p] w fun e w' => ∃ s, e = .returned (.tuple #[ptrB s, .int .i64 0]) ∧ Bears w' (spA s p d d.len g0 [] false F F * R) := by
  have ho := hL.off
  have hs0 : d.now 0 = superB d.len := by rw [hL.now (by omega)]; exact hF
  have hs64 : (superB d.len).length = 64 := superB_length _
  obtain ⟨hop, hgr⟩ := hL.opens hg
  have hfew := hL.few 20000 (by omega)
  have hsp : SpOk d.len d g0 F F := ⟨hL, rfl, hlo, hhi, h64, h64⟩
  have hfn := firstN_eq hlo hhi
  have hf621 : 621 ≤ firstB d.len := by unfold firstB; omega
  have hfl : firstB d.len ≤ d.len := by unfold firstB mapsN; omega
  have hfm : firstB d.len = 621 + mapsN d.len + 128 := rfl
  have hnq : ∀ w, (binOp .neq 71 (.agg (cellsV (superB d.len)).toArray) (.agg (cellsV (superB d.len)).toArray)).run Tryz.prog w = .ok (.bool false) w := fun w => by
    rw [neq_sec w _ _ hs64 hs64, decide_eq_true rfl]; rfl
  have hck : d.check 0 = 0 := by unfold DiskM.check; rw [ho, if_neg (by simp), if_neg (by omega)]
  have Hnq := Lib.hid hnq
  have H64 := Lib.hid hs64
  have Hs0 := Lib.hid hs0
  have Hfn := Lib.hid hfn
  have Hop := Lib.hid hop
  have Hgr := Lib.hid hgr
  have Hsp := Lib.hid hsp
  have Hfm := Lib.hid hfm
  clear hnq hs64 hs0 hfn hop hgr hsp hF hfm
  go_enter Tryz.func10, Tryz.ntmps10
  go_wp2_with fail
  refine (len_any h).mono ?_
  rintro e w1 ⟨rfl, rfl⟩
  go_wp2_with fail
  refine (first_any (d.len : Int) _ (by omega)).mono ?_
  rintro e w2 ⟨rfl, rfl⟩
  rw [Hfn.out]
  go_wp2_with fail
  refine (read_to 0 h hck Hs0.out).mono ?_
  rintro e w3 ⟨g, rfl, h3⟩
  go_wp2_with fail
  have hap : ∀ w, (Instr.arrayAt 71 (.slice (some ⟨g, 0, none⟩) 64 64)).run Tryz.prog w = .ok (.pointer (some ⟨g, 0, none⟩)) w := fun w => by kernel_rfl
  have hcl : (Tryz.prog.info? 71).map (·.size) = some (cellsV (superB d.len)).length := by rw [length_cellsV, H64.out]; exact i_asec
  have hon : ∀ w, (∃ Q, Bears w (diskA p d * (Assn.obj g (.cells (cellsV (superB d.len)).toArray 86 (0, 0)) * Q))) → w.rangeAt g 0 (cellsV (superB d.len)) := fun w ⟨_, hq⟩ => rangeAt_of_obj hq.pull2.obj
  refine wp_region_L (fun w' => ∃ Q, Bears w' (diskA p d * (Assn.obj g (.cells (cellsV (superB d.len)).toArray 86 (0, 0)) * Q))) 7 [(true, 0), (true, 1), (true, 2), (true, 3), (false, 4), (false, 5), (true, 6)] [] (by kernel_rfl) (by kernel_rfl) ⟨_, h3.pull2.drew⟩ ?_
  simp only [pick, List.getElem?_cons_zero, List.getElem?_cons_succ]
  refine wpL_guarded (v := ?_) rfl (fun w' hS => ?_) ?_
  rotate_left
  · (go_simp; try with_reducible rfl)
  simp only [Act.put, List.setIfInBounds_toArray, List.set_cons_zero, List.set_cons_succ]
  refine wpL_guarded (v := ?_) rfl (fun w' hS => ?_) ?_
  rotate_left
  · (go_simp; try with_reducible rfl)
  simp only [Act.put, List.setIfInBounds_toArray, List.set_cons_zero, List.set_cons_succ]
  refine wpL_load_mid 71 _ rfl rfl g 0 rfl (cellsV (superB d.len)) _ hon u_asec rfl hcl ?_
  simp only [Act.put, List.setIfInBounds_toArray, List.set_cons_zero, List.set_cons_succ]
  refine wpL_guarded (v := ?_) rfl (fun w' hS => ?_) ?_
  rotate_left
  · (go_simp; try with_reducible rfl)
  simp only [Act.put, List.setIfInBounds_toArray, List.set_cons_zero, List.set_cons_succ]
  refine wpL_effG rfl ?_
  go_simp
  refine (len_any h3.pull2.drew).mono ?_
  rintro e w4 ⟨rfl, rfl⟩
  refine ⟨⟨_, h3.pull2.drew⟩, ?_⟩
  refine wpL_effG rfl ?_
  go_simp
  refine (super_any h3.pull2.drew d.len (by omega)).mono ?_
  rintro e w5 ⟨rfl, h5⟩
  refine ⟨⟨_, h5⟩, ?_⟩
  have hnq := Hnq.out
  have heg : Tryz.prog.eqGuardType Tryz.prog.depth 71 = false := by kernel_rfl
  simp only [secV]
  refine wpL_guarded (v := ?_) rfl (fun w' hS => ?_) ?_
  rotate_left
  · (go_simp; try with_reducible rfl)
  simp only [Act.put, List.setIfInBounds_toArray, List.set_cons_zero, List.set_cons_succ]
  refine wpL_nil ?_
  refine wpL_nil ?_
  go_wp2_with fail
  have h6 : Bears w5 (diskA p d * R) := h5.pull2.right
  refine (open_yes h6 Hop.out Hgr.out (by omega) (by omega) hfew).mono ?_
  rintro e w7 ⟨x, rfl, h7⟩
  go_wp2_with fail
  refine (cnew_ok h7 p x 64 (by omega) (by omega)).mono ?_
  rintro e w8 ⟨c, rfl, h8⟩
  go_wp2_with fail
  refine (len_any h8.pull3).mono ?_
  rintro e w9 ⟨rfl, rfl⟩
  go_wp2_with fail
  go_ret2
  have e1 : ((firstB d.len : Int) - 621 - 128) = ((mapsN d.len : Nat) : Int) := by have := Hfm.out; omega
  have e2 : ((d.len : Int) - (firstB d.len : Int)) = ((d.len - firstB d.len : Nat) : Int) := by omega
  rw [e1, e2]
  have h9 := h8.alloc (.cells #[.pointer (some ⟨c, 0, none⟩), .pointer (some ⟨x, 0, none⟩), .int .i64 (mapsN d.len), .int .i64 (firstB d.len), .int .i64 ((d.len - firstB d.len : Nat) : Int)] 80)
  have h10 : Bears _ (cacheA c p x (CacheM.new 64) * (spObj w8.heap.size c x d.len * (diskA p d * (walObj x p 1 620 (g0 : Int) * R)))) := h9.pull2.c34
  have h11 := Bears.cv.2 ⟨CacheM.new 64, CV.new (a := 1) (s := 620) (F := F) (m := 64) hhi, h10⟩
  exact ⟨w8.heap.size, rfl, Bears.sp.2 ⟨c, x, Hsp.out, h11.pull2⟩⟩

end Go.Proofs.YtcggloceabjjdaaGreat

/- A new space; a transaction's bound; no condition. -/
namespace Go.Proofs.YtcggloceabjjdaaGreat
open Go.RowKit Go.MapKept

/-- What a new space has. -/
def freshF (n : Nat) : Nat → Sec := updS (fun _ => zeroSec) 0 (superB n)
theorem freshF64 (n i : Nat) : (freshF n i).length = 64 := upd64 (fun _ => rfl) 0 (superB_length n) i

theorem DiskM.new_plain (n : Nat) : (DiskM.new n).Plain := ⟨rfl, rfl⟩
theorem fmtD7 (d d3 : DiskM) (f : Nat) : fmtD d d3 f 7 = ((cleanD d3 (f - 621)).bar.put 0 (superB d.len)).bar := rfl

theorem format_new {p n : Nat} {R : Assn} {w : World} (hlo : 1024 ≤ n) (hhi : n ≤ 8192) (h : Bears w (diskA p (DiskM.new n) * R)) :
    Calls Tryz.prog 34 #[ptrB p] w fun e w' => ∃ d, e = .returned (.int .i64 0) ∧ LogOn d 1 620 0 (freshF n) ∧ d.fuse = -1 ∧ d.len = n ∧ Bears w' (diskA p d * R) := by
  have hz : ∀ i, ((DiskM.new n).put 0 zeroSec).bar.now i = zeroSec := fun i => by
    rw [now_bar, now_put]
    unfold updS
    split
    · rfl
    · rfl
  obtain ⟨d3, h1, h2, h3, h4⟩ := formats (d := ((DiskM.new n).put 0 zeroSec).bar) (a := 1) (s := 620) (F := fun _ => zeroSec) rfl rfl (by decide) (by show 1 + 620 ≤ n; omega) hhi (fun i _ => hz i)
  have hp3 : d3.Plain := ⟨h2.off, h3⟩
  refine (format_space h (DiskM.new_plain n) hlo hhi (by show 0 + 10000 < 1099511627776; omega) h1 hp3 h4 h2.quiet).mono ?_
  rintro e w' ⟨rfl, h5⟩
  rw [fmtD7, show (DiskM.new n).len = n from rfl] at h5
  rw [show ((DiskM.new n).put 0 zeroSec).bar.len = n from rfl] at h4
  generalize firstB n - 621 = q at h5
  refine ⟨_, rfl, ?_, ?_, ?_, h5⟩
  · obtain ⟨c1, c2, c3, c4, c5⟩ := cleanD_is hp3 q
    have hl : ((cleanD d3 q).bar.put 0 (superB n)).bar.len = n := c2.trans h4
    have hs : ∀ i, ((cleanD d3 q).bar.put 0 (superB n)).bar.sure i = updS (cleanD d3 q).now 0 (superB n) i := fun i => by
      show ((cleanD d3 q).bar.put 0 (superB n)).now i = _
      rw [now_put, now_bar]
    refine ⟨c1.off, rfl, by decide, by rw [hl]; omega, by rw [hl]; omega, ?_, fun i hi => ?_⟩
    · rw [hs]
      unfold updS
      rw [if_neg (by decide), c5, if_neg (by omega), now_quiet h2.quiet]
      exact h2.rest.head
    · rw [hs]
      unfold freshF updS
      by_cases h0 : i = 0
      · rw [if_pos h0, if_pos h0]
      · rw [if_neg h0, if_neg h0, c5]
        split
        · rfl
        · exact h2.now (by omega)
  · exact (cleanD_is hp3 q).1.fuse
  · exact (cleanD_is hp3 q).2.1.trans h4

end Go.Proofs.YtcggloceabjjdaaGreat

/- What a space's bits count; no program in sight. -/
namespace Go.Proofs.YtcggloceabjjdaaGreat
open Go.RowKit Go.MapKept

/-- How many hold, below n. -/
def cntB (f : Nat → Bool) : Nat → Nat
  | 0 => 0
  | n + 1 => cntB f n + (f n).toNat
theorem cntB_add (f : Nat → Bool) (a : Nat) : ∀ b, cntB f (a + b) = cntB f a + cntB (fun i => f (a + i)) b
  | 0 => rfl
  | b + 1 => by
    show cntB f (a + b) + (f (a + b)).toNat = _
    rw [cntB_add f a b]
    simp only [cntB]
    omega
theorem cntB_congr {f g : Nat → Bool} : ∀ n, (∀ i, i < n → f i = g i) → cntB f n = cntB g n
  | 0, _ => rfl
  | n + 1, h => by
    simp only [cntB]
    rw [cntB_congr n (fun i hi => h i (by omega)), h n (by omega)]
theorem cntB_put {f g : Nat → Bool} {m : Nat} : ∀ n, m < n → (∀ i, i < n → i ≠ m → g i = f i) → cntB g n + (f m).toNat = cntB f n + (g m).toNat
  | n + 1, hm, h => by
    simp only [cntB]
    by_cases e : m = n
    · subst e
      rw [cntB_congr m (fun i hi => h i (by omega) (by omega))]
      omega
    · have := cntB_put n (by omega) (fun i hi hne => h i (by omega) hne)
      rw [h n (by omega) (fun h => e h.symm)]
      omega
theorem ones_cnt : ∀ x : Fin 256, Lib.onesCount x.val = cntB (fun b => x.val.testBit b) 8 := by decide +kernel
theorem onesTo_cnt (r : Sec) : ∀ j, onesTo r j = cntB (bitOf r) (8 * j)
  | 0 => rfl
  | j + 1 => by
    have h := ones_cnt ⟨(r.getD j 0).toNat, (r.getD j 0).toNat_lt⟩
    simp only at h
    rw [show 8 * (j + 1) = 8 * j + 8 by omega, cntB_add, ← onesTo_cnt r j]
    have e := cntB_congr (f := fun b => (r.getD j 0).toNat.testBit b) (g := fun i => bitOf r (8 * j + i)) 8 (fun i hi => by
      simp only [bitOf]
      rw [show (8 * j + i) / 8 = j by omega, show (8 * j + i) % 8 = i by omega])
    rw [← e, ← h]
    rfl
theorem usedTo_cnt (G : Nat → Sec) : ∀ i, usedTo G i = cntB (bitN G) (512 * i)
  | 0 => rfl
  | i + 1 => by
    rw [show 512 * (i + 1) = 512 * i + 512 by omega, cntB_add, ← usedTo_cnt G i]
    have e := cntB_congr (f := bitOf (G (621 + i))) (g := fun k => bitN G (512 * i + k)) 512 (fun k hk => by
      simp only [bitN]
      rw [show (512 * i + k) / 512 = i by omega, show (512 * i + k) % 512 = k by omega])
    rw [← e, show 512 = 8 * 64 from rfl, ← onesTo_cnt]
    rfl

theorem bitSet_bits : ∀ (c : Fin 256) (j b : Fin 8) (u : Bool), ((UInt8.ofNat ((c.val - (if c.val.testBit j.val then 2 ^ j.val else 0)) + (if u then 2 ^ j.val else 0))).toNat.testBit b.val) = (if b.val = j.val then u else c.val.testBit b.val) := by decide +kernel
theorem bitOf_set {r : Sec} (hr : r.length = 64) {k : Nat} (hk : k < 512) (u : Bool) (m : Nat) : bitOf (secSet r k u) m = if m = k then u else bitOf r m := by
  unfold bitOf secSet
  have h := bitSet_bits ⟨(r.getD (k / 8) 0).toNat, (r.getD (k / 8) 0).toNat_lt⟩ ⟨k % 8, by omega⟩ ⟨m % 8, by omega⟩ u
  simp only at h
  by_cases e : m / 8 = k / 8
  · have e2 : (r.set (k / 8) (bitSet (r.getD (k / 8) 0) (k % 8) u)).getD (m / 8) 0 = bitSet (r.getD (k / 8) 0) (k % 8) u := by
      rw [e]; simp [List.getD, hr, show k / 8 < 64 by omega]
    rw [e2]
    unfold bitSet
    rw [h, e]
    by_cases e3 : m % 8 = k % 8
    · rw [if_pos e3, if_pos (by omega)]
    · rw [if_neg e3, if_neg (fun h => e3 (by rw [h]))]
  · have e2 : (r.set (k / 8) (bitSet (r.getD (k / 8) 0) (k % 8) u)).getD (m / 8) 0 = r.getD (m / 8) 0 := by
      rw [List.getD_eq_getElem?_getD, List.getElem?_set_ne (fun h => e h.symm), ← List.getD_eq_getElem?_getD]
    rw [e2, if_neg (fun h => e (by rw [h]))]
theorem bitN_set {G : Nat → Sec} (h64 : ∀ i, (G i).length = 64) (n : Nat) (u : Bool) (m : Nat) :
    bitN (updS G (621 + n / 512) (secSet (G (621 + n / 512)) (n % 512) u)) m = if m = n then u else bitN G m := by
  unfold bitN updS
  by_cases e : m / 512 = n / 512
  · rw [if_pos (by omega), bitOf_set (h64 _) (by omega), e]
    by_cases e2 : m = n
    · rw [if_pos (by omega), if_pos e2]
    · rw [if_neg (by omega), if_neg e2]
  · rw [if_neg (by omega), if_neg (fun h => e (by rw [h]))]
theorem bitN_other {G : Nat → Sec} {i : Nat} {b : Sec} {m : Nat} (h : 621 + m / 512 ≠ i) : bitN (updS G i b) m = bitN G m := by
  unfold bitN updS
  rw [if_neg h]

end Go.Proofs.YtcggloceabjjdaaGreat

/- The space's functions, with what they answer named; no condition. -/
namespace Go.Proofs.YtcggloceabjjdaaGreat
open Go.RowKit Go.MapKept

/-- A block that is taken, or given back. -/
def allocG (G : Nat → Sec) (n : Nat) : Nat → Sec := updS (updS G (621 + n / 512) (secSet (G (621 + n / 512)) (n % 512) true)) n zeroSec
def freeG (G : Nat → Sec) (n : Nat) : Nat → Sec := updS G (621 + n / 512) (secSet (G (621 + n / 512)) (n % 512) false)
theorem map_lt {len m : Nat} (hm : m < len) : 621 + m / 512 < 621 + mapsN len := by unfold mapsN; omega
theorem bitN_alloc {G : Nat → Sec} {len n : Nat} (h64 : ∀ i, (G i).length = 64) (hn : firstB len ≤ n) (m : Nat) (hm : m < len) : bitN (allocG G n) m = if m = n then true else bitN G m := by
  unfold allocG
  rw [bitN_other (by have := map_lt hm; unfold firstB at hn; omega), bitN_set h64]
theorem bitN_free {G : Nat → Sec} {n : Nat} (h64 : ∀ i, (G i).length = 64) (m : Nat) : bitN (freeG G n) m = if m = n then false else bitN G m := by
  unfold freeG
  rw [bitN_set h64]
theorem secSet64 {r : Sec} (h : r.length = 64) (k : Nat) (u : Bool) : (secSet r k u).length = 64 := by simp [secSet, h]
theorem alloc64 {G : Nat → Sec} (h64 : ∀ i, (G i).length = 64) (n i : Nat) : (allocG G n i).length = 64 :=
  upd64 (upd64 h64 _ (secSet64 (h64 _) _ _)) n rfl i
theorem free64 {G : Nat → Sec} (h64 : ∀ i, (G i).length = 64) (n i : Nat) : (freeG G n i).length = 64 := upd64 h64 _ (secSet64 (h64 _) _ _) i

theorem salloc_at {s p len g : Nat} {k : List Nat} {d : DiskM} {F G : Nat → Sec} {R : Assn} {w : World} (h : Bears w (spA s p d len g k true F G * R)) {n : Nat} (hn : firstB len ≤ n) (hn2 : n < len) (hf : bitN G n = false) (hfull : ∀ m, firstB len ≤ m → m < n → bitN G m = true) :
    Calls Tryz.prog 30 #[.pointer (some ⟨s, 0, none⟩)] w fun e w' => e = .returned (.tuple #[.int .i64 n, .int .i64 0]) ∧ Bears w' (spA s p d len g (n :: (621 + n / 512) :: k) true F (allocG G n) * R) := by
  refine (salloc_any h).mono ?_
  rintro e w' (⟨m, h1, h2, h3, h4, rfl, h5⟩ | ⟨h1, _⟩)
  · have : m = n := by
      rcases Nat.lt_trichotomy m n with q | q | q
      · have := hfull m h1 q; rw [h3] at this; cases this
      · exact q
      · have := h4 n q hn hn2; rw [hf] at this; cases this
    subst this
    exact ⟨rfl, h5⟩
  · have := h1 n hn2 hn hn2; rw [hf] at this; cases this
theorem salloc_full {s p len g : Nat} {k : List Nat} {d : DiskM} {F G : Nat → Sec} {R : Assn} {w : World} (h : Bears w (spA s p d len g k true F G * R)) (hfull : ∀ m, firstB len ≤ m → m < len → bitN G m = true) :
    Calls Tryz.prog 30 #[.pointer (some ⟨s, 0, none⟩)] w fun e w' => e = .returned (.tuple #[.int .i64 0, .int .i64 3]) ∧ Bears w' (spA s p d len g k true F G * R) := by
  refine (salloc_any h).mono ?_
  rintro e w' (⟨m, h1, h2, h3, h4, rfl, h5⟩ | ⟨h1, rfl, h2⟩)
  · have := hfull m h1 h2; rw [h3] at this; cases this
  · exact ⟨rfl, h2⟩
theorem chk_used {len : Nat} {G : Nat → Sec} {n : Nat} (h1 : firstB len ≤ n) (h2 : n < len) (hb : bitN G n = true) : chkN len G n = 0 := by
  unfold chkN
  rw [if_neg (by omega), Int.toNat_natCast, if_pos (by unfold bitN at hb; exact hb)]
theorem chk_unused {len : Nat} {G : Nat → Sec} {n : Nat} (h1 : firstB len ≤ n) (h2 : n < len) (hb : bitN G n = false) : chkN len G n = 41 := by
  unfold chkN
  rw [if_neg (by omega), Int.toNat_natCast, if_neg (by unfold bitN at hb; rw [hb]; decide)]
theorem sfree_at {s p len g : Nat} {k : List Nat} {d : DiskM} {F G : Nat → Sec} {R : Assn} {w : World} (h : Bears w (spA s p d len g k true F G * R)) {n : Nat} (h1 : firstB len ≤ n) (h2 : n < len) (hb : bitN G n = true) :
    Calls Tryz.prog 31 #[.pointer (some ⟨s, 0, none⟩), .int .i64 n] w fun e w' => e = .returned (.int .i64 0) ∧ Bears w' (spA s p d len g ((621 + n / 512) :: k) true F (freeG G n) * R) :=
  sfree_any h n rfl (chk_used h1 h2 hb) h2 rfl

/-- A new space's bits, blocks and inodes. -/
theorem freshF_other {n i : Nat} (h : i ≠ 0) : freshF n i = zeroSec := by unfold freshF updS; rw [if_neg h]
theorem zero_getD (i : Nat) : zeroSec.getD i 0 = 0 := by
  unfold zeroSec
  rw [List.getD_eq_getElem?_getD, List.getElem?_replicate]
  split <;> rfl
theorem bitN_fresh (n m : Nat) : bitN (freshF n) m = false := by
  unfold bitN bitOf
  rw [freshF_other (by omega), zero_getD]
  simp
theorem cntB_zero {f : Nat → Bool} (h : ∀ i, f i = false) : ∀ n, cntB f n = 0
  | 0 => rfl
  | n + 1 => by
    simp only [cntB]
    rw [cntB_zero h n, h]
    rfl
theorem blk_fresh (n m : Nat) : blkN n (freshF m) = ((n - firstB n : Nat) : Int) := by
  unfold blkN
  rw [usedTo_cnt, cntB_zero (bitN_fresh m)]
  simp
theorem ifree_fresh (n m j : Nat) : ifreeB n (freshF m) j = true := by
  unfold ifreeB
  rw [freshF_other (by unfold iSec; omega), zero_getD]
  rfl
theorem ifreeTo_fresh (n m : Nat) : ∀ j, ifreeTo n (freshF m) j = j
  | 0 => rfl
  | j + 1 => by
    simp only [ifreeTo]
    rw [ifreeTo_fresh n m j, ifree_fresh]
    rfl
theorem blk_alloc {G : Nat → Sec} {len n : Nat} (h64 : ∀ i, (G i).length = 64) (hn : firstB len ≤ n) (h2 : n < len) (h8 : 512 * mapsN len ≤ len) (hb : bitN G n = false) : blkN len (allocG G n) = blkN len G - 1 := by
  have h := cntB_put (f := bitN G) (g := bitN (allocG G n)) (m := n) (512 * mapsN len) (by unfold mapsN; omega) (fun i hi hne => by rw [bitN_alloc h64 hn i (by omega), if_neg hne])
  rw [hb, bitN_alloc h64 hn n h2, if_pos rfl, ← usedTo_cnt, ← usedTo_cnt] at h
  unfold blkN
  simp at h
  omega
theorem blk_free {G : Nat → Sec} {len n : Nat} (h64 : ∀ i, (G i).length = 64) (h2 : n < len) (hb : bitN G n = true) : blkN len (freeG G n) = blkN len G + 1 := by
  have h := cntB_put (f := bitN G) (g := bitN (freeG G n)) (m := n) (512 * mapsN len) (by unfold mapsN; omega) (fun i hi hne => by rw [bitN_free h64, if_neg hne])
  rw [hb, bitN_free h64, if_pos rfl, ← usedTo_cnt, ← usedTo_cnt] at h
  unfold blkN
  simp at h
  omega

end Go.Proofs.YtcggloceabjjdaaGreat

/- A transaction on a small space always fits; no condition. -/
namespace Go.Proofs.YtcggloceabjjdaaGreat
open Go.RowKit Go.MapKept

/-- The sectors outside the log. -/
def outL (len : Nat) : List Nat := 0 :: (List.range (len - 621)).map (621 + ·)
theorem outL_few {len : Nat} (h : len ≤ 1220) (_h2 : 621 ≤ len) : Few (outL len) 600 := Few.of (by simp [outL]; omega)
/-- However often sectors were written: none is pinned but those outside the log. -/
theorem CV.least {len : Nat} {k : List Nat} {F G : Nat → Sec} {op : Bool} {cm : CacheM} (h : CV len 1 620 F G k op cm) : CV len 1 620 F G (outL len) op cm :=
  ⟨h.nodup, h.out, h.free, h.view, fun y hy _ => by
    have o := h.out y hy
    unfold outL
    by_cases e : y.at'.toNat = 0
    · rw [e]; simp
    · refine List.mem_cons_of_mem _ (List.mem_map.2 ⟨y.at'.toNat - 621, ?_, by omega⟩)
      rw [List.mem_range]; omega, h.opn, h.len⟩
theorem Bears.spSub {s p len g : Nat} {k k' : List Nat} {d : DiskM} {F G : Nat → Sec} {op : Bool} {R : Assn} {w : World} (h : Bears w (spA s p d len g k op F G * R)) (hs : ∀ i ∈ k, i ∈ k') : Bears w (spA s p d len g k' op F G * R) := by
  obtain ⟨c, x, hok, h0⟩ := Bears.sp.1 h
  exact Bears.sp.2 ⟨c, x, hok, (h0.pull2.cvSub hs).pull2⟩
theorem Bears.spLeast {s p len g : Nat} {k : List Nat} {d : DiskM} {F G : Nat → Sec} {op : Bool} {R : Assn} {w : World} (h : Bears w (spA s p d len g k op F G * R)) : Bears w (spA s p d len g (outL len) op F G * R) := by
  obtain ⟨c, x, hok, h0⟩ := Bears.sp.1 h
  obtain ⟨cm, hV, h1⟩ := Bears.cv.1 h0.pull2
  exact Bears.sp.2 ⟨c, x, hok, (Bears.cv.2 ⟨cm, hV.least, h1⟩).pull2⟩

end Go.Proofs.YtcggloceabjjdaaGreat

/- A space's commit under a fuse; opened behind a boot; no condition. -/
namespace Go.Proofs.YtcggloceabjjdaaGreat
open Go.RowKit Go.MapKept

set_option maxRecDepth 100000 in
set_option maxHeartbeats 400000 in
theorem scommit_cut {s p len g : Nat} {k : List Nat} {d : DiskM} {F G : Nat → Sec} {R : Assn} {w : World} (h : Bears w (spA s p d len g k true F G * R)) (hk : Few k 600) (hg : g < 4611686018427387904) :
    Calls Tryz.prog 21 #[.pointer (some ⟨s, 0, none⟩)] w fun e w' => ∃ r d', e = .returned (.int .i64 r) ∧ Goes d r d' ∧ (r = 0 → LogOn d' 1 620 (g + 1) G) ∧ Boots d' (fun f => At len 1 620 f g F ∨ At len 1 620 f (g + 1) G) ∧ d'.waits.length < 1000000 ∧
      (∀ v, F 0 = v → G 0 = v → Boots d' (fun f => f 0 = v)) ∧ Bears w' (diskA p d' * R) := by
  obtain ⟨c, x, hok, h0⟩ := Bears.sp.1 h
  obtain ⟨c0, _, _, _, _⟩ := sp_cells h0
  have hcm := vcommit_keeps (h0.push2.c34.c23.cast (by ac_rfl) : Bears _ (cvA c p x len 1 620 F G k true * (walObj x p 1 620 (g : Int) * (diskA p d * (spObj s c x len * R))))) hok.log hok.size hk hg
  have Hcm := Lib.hid hcm
  clear hok h hcm
  go_enter Tryz.func21, Tryz.ntmps21
  go_wp2_with fail
  refine Hcm.out.mono ?_
  rintro e w1 ⟨r, d', rfl, h1, h2, h3, h4, h5, h6⟩
  have H1 := Lib.hid h1
  have H2 := Lib.hid h2
  have H3 := Lib.hid h3
  have H4 := Lib.hid h4
  have H5 := Lib.hid h5
  clear h1 h2 h3 h4 h5
  go_wp2_with fail
  go_ret
  exact ⟨r, d', rfl, H1.out, H2.out, H3.out, H4.out, fun v hF hG => H5.out 0 v (by decide) hF hG, h6.pull2.right⟩

set_option maxRecDepth 100000 in
set_option maxHeartbeats 1000000 in
theorem space_opens_at {p g0 len : Nat} {d d6 : DiskM} {F : Nat → Sec} {R : Assn} {w : World} (h : Bears w (diskA p d * R)) (ho : d.off = false) (hdl : d.len = len) (hop : wOpen d ((1 : Nat) : Int) ((620 : Nat) : Int) = (0, d6)) (hgr : groupsIn (d.now 1) = (g0 : Int)) (hL : LogOn d6 1 620 g0 F) (hl6 : d6.len = len) (hlo : 1024 ≤ len) (hhi : len ≤ 8192) (hs0 : d.now 0 = superB len) (h64 : ∀ i, (F i).length = 64) (hfew : d.waits.length < 1000000) :
    Calls Tryz.prog 10 #[ptrB p] w fun e w' => ∃ s, e = .returned (.tuple #[ptrB s, .int .i64 0]) ∧ Bears w' (spA s p d6 len g0 [] false F F * R) := by
  subst hdl
  have hs64 : (superB d.len).length = 64 := superB_length _
  have hsp : SpOk d.len d6 g0 F F := ⟨hL, hl6, hlo, hhi, h64, h64⟩
  have hfn := firstN_eq hlo hhi
  have hf621 : 621 ≤ firstB d.len := by unfold firstB; omega
  have hfl : firstB d.len ≤ d.len := by unfold firstB mapsN; omega
  have hfm : firstB d.len = 621 + mapsN d.len + 128 := rfl
  have hnq : ∀ w, (binOp .neq 71 (.agg (cellsV (superB d.len)).toArray) (.agg (cellsV (superB d.len)).toArray)).run Tryz.prog w = .ok (.bool false) w := fun w => by
    rw [neq_sec w _ _ hs64 hs64, decide_eq_true rfl]; rfl
  have hck : d.check 0 = 0 := by unfold DiskM.check; rw [ho, if_neg (by simp), if_neg (by omega)]
  have Hnq := Lib.hid hnq
  have H64 := Lib.hid hs64
  have Hs0 := Lib.hid hs0
  have Hfn := Lib.hid hfn
  have Hop := Lib.hid hop
  have Hgr := Lib.hid hgr
  have Hsp := Lib.hid hsp
  have Hfm := Lib.hid hfm
  have Hl6 := Lib.hid hl6
  clear hnq hs64 hs0 hfn hop hgr hsp hfm hL hl6
  go_enter Tryz.func10, Tryz.ntmps10
  go_wp2_with fail
  refine (len_any h).mono ?_
  rintro e w1 ⟨rfl, rfl⟩
  go_wp2_with fail
  refine (first_any (d.len : Int) _ (by omega)).mono ?_
  rintro e w2 ⟨rfl, rfl⟩
  rw [Hfn.out]
  go_wp2_with fail
  refine (read_to 0 h hck Hs0.out).mono ?_
  rintro e w3 ⟨g, rfl, h3⟩
  go_wp2_with fail
  have hap : ∀ w, (Instr.arrayAt 71 (.slice (some ⟨g, 0, none⟩) 64 64)).run Tryz.prog w = .ok (.pointer (some ⟨g, 0, none⟩)) w := fun w => by kernel_rfl
  have hcl : (Tryz.prog.info? 71).map (·.size) = some (cellsV (superB d.len)).length := by rw [length_cellsV, H64.out]; exact i_asec
  have hon : ∀ w, (∃ Q, Bears w (diskA p d * (Assn.obj g (.cells (cellsV (superB d.len)).toArray 86 (0, 0)) * Q))) → w.rangeAt g 0 (cellsV (superB d.len)) := fun w ⟨_, hq⟩ => rangeAt_of_obj hq.pull2.obj
  refine wp_region_L (fun w' => ∃ Q, Bears w' (diskA p d * (Assn.obj g (.cells (cellsV (superB d.len)).toArray 86 (0, 0)) * Q))) 7 [(true, 0), (true, 1), (true, 2), (true, 3), (false, 4), (false, 5), (true, 6)] [] (by kernel_rfl) (by kernel_rfl) ⟨_, h3.pull2.drew⟩ ?_
  simp only [pick, List.getElem?_cons_zero, List.getElem?_cons_succ]
  refine wpL_guarded (v := ?_) rfl (fun w' hS => ?_) ?_
  rotate_left
  · (go_simp; try with_reducible rfl)
  simp only [Act.put, List.setIfInBounds_toArray, List.set_cons_zero, List.set_cons_succ]
  refine wpL_guarded (v := ?_) rfl (fun w' hS => ?_) ?_
  rotate_left
  · (go_simp; try with_reducible rfl)
  simp only [Act.put, List.setIfInBounds_toArray, List.set_cons_zero, List.set_cons_succ]
  refine wpL_load_mid 71 _ rfl rfl g 0 rfl (cellsV (superB d.len)) _ hon u_asec rfl hcl ?_
  simp only [Act.put, List.setIfInBounds_toArray, List.set_cons_zero, List.set_cons_succ]
  refine wpL_guarded (v := ?_) rfl (fun w' hS => ?_) ?_
  rotate_left
  · (go_simp; try with_reducible rfl)
  simp only [Act.put, List.setIfInBounds_toArray, List.set_cons_zero, List.set_cons_succ]
  refine wpL_effG rfl ?_
  go_simp
  refine (len_any h3.pull2.drew).mono ?_
  rintro e w4 ⟨rfl, rfl⟩
  refine ⟨⟨_, h3.pull2.drew⟩, ?_⟩
  refine wpL_effG rfl ?_
  go_simp
  refine (super_any h3.pull2.drew d.len (by omega)).mono ?_
  rintro e w5 ⟨rfl, h5⟩
  refine ⟨⟨_, h5⟩, ?_⟩
  have hnq := Hnq.out
  have heg : Tryz.prog.eqGuardType Tryz.prog.depth 71 = false := by kernel_rfl
  simp only [secV]
  refine wpL_guarded (v := ?_) rfl (fun w' hS => ?_) ?_
  rotate_left
  · (go_simp; try with_reducible rfl)
  simp only [Act.put, List.setIfInBounds_toArray, List.set_cons_zero, List.set_cons_succ]
  refine wpL_nil ?_
  refine wpL_nil ?_
  go_wp2_with fail
  have h6 : Bears w5 (diskA p d * R) := h5.pull2.right
  refine (open_yes (a := 1) (s := 620) h6 Hop.out Hgr.out (by omega) (by omega) (by omega)).mono ?_
  rintro e w7 ⟨x, rfl, h7⟩
  go_wp2_with fail
  refine (cnew_ok h7 p x 64 (by omega) (by omega)).mono ?_
  rintro e w8 ⟨c, rfl, h8⟩
  go_wp2_with fail
  have hl9 := len_any h8.pull3
  rw [Hl6.out] at hl9
  refine hl9.mono ?_
  rintro e w9 ⟨rfl, rfl⟩
  go_wp2_with fail
  go_ret2
  have e1 : ((firstB d.len : Int) - 621 - 128) = ((mapsN d.len : Nat) : Int) := by have := Hfm.out; omega
  have e2 : ((d.len : Int) - (firstB d.len : Int)) = ((d.len - firstB d.len : Nat) : Int) := by omega
  rw [e1, e2]
  have h9 := h8.alloc (.cells #[.pointer (some ⟨c, 0, none⟩), .pointer (some ⟨x, 0, none⟩), .int .i64 (mapsN d.len), .int .i64 (firstB d.len), .int .i64 ((d.len - firstB d.len : Nat) : Int)] 80)
  have h10 : Bears _ (cacheA c p x (CacheM.new 64) * (spObj w8.heap.size c x d.len * (diskA p d6 * (walObj x p 1 620 (g0 : Int) * R)))) := h9.pull2.c34
  have h11 := Bears.cv.2 ⟨CacheM.new 64, CV.new (a := 1) (s := 620) (F := F) (m := 64) hhi, h10⟩
  exact ⟨w8.heap.size, rfl, Bears.sp.2 ⟨c, x, Hsp.out, h11.pull2⟩⟩

/-- Behind a boot the space is as it was ahead of the group, or as it is behind it. -/
theorem space_crash {len : Nat} {d3 d4 : DiskM} {r : Int} {g : Nat} {G G2 : Nat → Sec} (hlo : 1024 ≤ len) (hhi : len ≤ 8192) (hL : LogOn d3 1 620 g G) (hl : d3.len = len) (hg : Goes d3 r d4) (h0 : r = 0 → LogOn d4 1 620 (g + 1) G2)
    (hB : Boots d4 (fun f => At len 1 620 f g G ∨ At len 1 620 f (g + 1) G2)) (hg2 : g < 1000000) (ks : List Int) :
    ∃ d6 V g', wOpen (d4.boot ks) ((1 : Nat) : Int) ((620 : Nat) : Int) = (0, d6) ∧ groupsIn ((d4.boot ks).now 1) = ((g' : Nat) : Int) ∧ LogOn d6 1 620 g' V ∧ d6.len = len ∧ d6.fuse = -1 ∧ ((V = G ∧ g' = g ∧ r ≠ 0) ∨ (V = G2 ∧ g' = g + 1)) := by
  have hlen : d4.len = len := by rw [hg.len, hl]
  have key : ∀ g' V, g' < 9223372036854775808 → At len 1 620 (d4.boot ks).sure g' V → ∃ d6, wOpen (d4.boot ks) ((1 : Nat) : Int) ((620 : Nat) : Int) = (0, d6) ∧ groupsIn ((d4.boot ks).now 1) = ((g' : Nat) : Int) ∧ LogOn d6 1 620 g' V ∧ d6.len = len ∧ d6.fuse = -1 := by
    intro g' V hgb hA
    have hlen5 : (d4.boot ks).len = len := hlen
    obtain ⟨e1, r2, d6, h1, h2, h3, _⟩ := wOpen_goes (d := d4.boot ks) (a := 1) (s := 620) (g := g') (F := V) rfl (by decide) (by rw [hlen5]; omega) (by rw [hlen5]; exact hhi) hgb rfl (by rw [hlen5]; exact hA)
    have hr : r2 = 0 := h2.yes rfl
    subst hr
    obtain ⟨h4, h5⟩ := h3 rfl
    exact ⟨d6, h1, e1, ⟨h2.on, h4, by decide, by rw [h2.len, hlen5]; omega, by rw [h2.len, hlen5]; exact hhi, h5⟩, by rw [h2.len, hlen5], h2.plain rfl⟩
  by_cases hr : r = 0
  · have hL4 := h0 hr
    have hs : (d4.boot ks).sure = d4.sure := by
      show settle d4.sure (kept ks 0 d4.waits) = d4.sure
      rw [hL4.quiet]
      rfl
    obtain ⟨d6, h1, h2, h3, h4, h5⟩ := key (g + 1) G2 (by omega) (by rw [hs]; exact .inl hL4.rest)
    exact ⟨d6, G2, g + 1, h1, h2, h3, h4, h5, .inr ⟨rfl, rfl⟩⟩
  · rcases hB.boot ks with hA | hA
    · obtain ⟨d6, h1, h2, h3, h4, h5⟩ := key g G (by omega) hA
      exact ⟨d6, G, g, h1, h2, h3, h4, h5, .inl ⟨rfl, rfl, hr⟩⟩
    · obtain ⟨d6, h1, h2, h3, h4, h5⟩ := key (g + 1) G2 (by omega) hA
      exact ⟨d6, G2, g + 1, h1, h2, h3, h4, h5, .inr ⟨rfl, rfl⟩⟩

end Go.Proofs.YtcggloceabjjdaaGreat

/- A log whose disk has a fuse, or is booted; plain; no condition. -/
namespace Go.Proofs.YtcggloceabjjdaaGreat
open Go.RowKit Go.MapKept

theorem LogOn.boot {d d' : DiskM} {a s g : Nat} {F : Nat → Sec} (h : LogOn d a s g F) (h1 : d'.sure = d.sure) (h2 : d'.waits = []) (h3 : d'.len = d.len) (ks : List Int) : LogOn (d'.boot ks) a s g F := by
  have e : (d'.boot ks).sure = d.sure := by
    unfold DiskM.boot
    rw [h2, h1]
    rfl
  exact ⟨rfl, rfl, h.three, by show a + s ≤ d'.len; rw [h3]; exact h.place, by show d'.len ≤ 8192; rw [h3]; exact h.len, by rw [e]; exact h.rest⟩
theorem LogOn.fused {d : DiskM} {a s g : Nat} {F : Nat → Sec} (h : LogOn d a s g F) (n : Int) : LogOn (d.setFuse n) a s g F := by
  unfold DiskM.setFuse
  rw [h.off, if_neg (by simp)]
  exact ⟨rfl, h.quiet, h.three, h.place, h.len, h.rest⟩
theorem setFuse_len (d : DiskM) (n : Int) : (d.setFuse n).len = d.len := by unfold DiskM.setFuse; split <;> rfl

end Go.Proofs.YtcggloceabjjdaaGreat

/- A slice of bytes that nobody else has (Rows0), above the space; no condition. -/
namespace Go.Proofs.YtcggloceabjjdaaGreat

end Go.Proofs.YtcggloceabjjdaaGreat

/- The space as a state: what each call answers, and what is there behind it; no condition. -/
namespace Go.Proofs.YtcggloceabjjdaaGreat
open Go.RowKit Go.MapKept

/-- What a call answers: a number, bytes, an error. -/
structure Told where
  n : Int
  b : List UInt8
  e : Int
/-- g groups done; is a transaction open? F is sure, G at hand. -/
structure SpM where
  g : Nat
  op : Bool
  F : Nat → Sec
  G : Nat → Sec
def stA (s p : Nat) (d : DiskM) (len : Nat) (k : List Nat) (S : SpM) : Assn := spA s p d len S.g k S.op S.F S.G

/-- The least free block. -/
def freeAt (len : Nat) (G : Nat → Sec) : Option Nat := (List.range len).find? (fun m => decide (firstB len ≤ m) && !bitN G m)
theorem freeAt_some {len n : Nat} {G : Nat → Sec} (h1 : firstB len ≤ n) (h2 : n < len) (hf : bitN G n = false) (hfull : FullTo len G n) : freeAt len G = some n := by
  unfold freeAt
  rw [List.find?_eq_some_iff_getElem]
  refine ⟨by simp [h1, hf], n, by simpa using h2, by simp, fun j hj => ?_⟩
  simp only [List.getElem_range]
  by_cases h : firstB len ≤ j
  · rw [hfull j hj h (by omega)]; simp
  · simp [h]
theorem freeAt_none {len : Nat} {G : Nat → Sec} (hfull : FullTo len G len) : freeAt len G = none := by
  unfold freeAt
  rw [List.find?_eq_none]
  intro m hm
  rw [List.mem_range] at hm
  by_cases h : firstB len ≤ m
  · rw [hfull m hm h hm]; simp
  · simp [h]

def SpM.alloc (len : Nat) (S : SpM) : Told × SpM :=
  if S.op then match freeAt len S.G with
    | some n => (⟨n, [], 0⟩, { S with G := allocG S.G n })
    | none => (⟨0, [], 3⟩, S)
  else (⟨0, [], 30⟩, S)
def SpM.free (len : Nat) (S : SpM) (n : Int) : Told × SpM :=
  if S.op then if chkN len S.G n = 0 then (⟨0, [], 0⟩, { S with G := freeG S.G n.toNat }) else (⟨0, [], chkN len S.G n⟩, S)
  else (⟨0, [], 30⟩, S)
def SpM.read (len : Nat) (S : SpM) (n : Int) : Told := if chkN len S.G n = 0 then ⟨0, S.G n.toNat, 0⟩ else ⟨0, [], chkN len S.G n⟩
def SpM.write (len : Nat) (S : SpM) (n : Int) (b : List UInt8) : Told × SpM :=
  if S.op then if chkN len S.G n = 0 then (⟨0, [], (wrN S.G n.toNat b).1⟩, { S with G := (wrN S.G n.toNat b).2 }) else (⟨0, [], chkN len S.G n⟩, S)
  else (⟨0, [], 30⟩, S)
def inodeB (len : Nat) (G : Nat → Sec) (m : Nat) : List UInt8 := ((G (iSec len m)).drop (iAt m)).take 32
def SpM.inode (len : Nat) (S : SpM) (n : Int) : Told := if n < 0 ∨ 256 ≤ n then ⟨0, [], 40⟩ else ⟨0, inodeB len S.G n.toNat, 0⟩
def SpM.setInode (len : Nat) (S : SpM) (n : Int) (b : List UInt8) : Told × SpM :=
  if S.op then if n < 0 ∨ 256 ≤ n then (⟨0, [], 40⟩, S) else (⟨0, [], (siN len S.G n.toNat b).1⟩, { S with G := (siN len S.G n.toNat b).2 })
  else (⟨0, [], 30⟩, S)
def SpM.begins (S : SpM) : Told × SpM := if S.op then (⟨0, [], 30⟩, S) else (⟨0, [], 0⟩, { S with op := true })
def SpM.commit (S : SpM) : Told × SpM := if S.op then (⟨0, [], 0⟩, ⟨S.g + 1, false, S.G, S.G⟩) else (⟨0, [], 30⟩, S)
def SpM.abort (S : SpM) : Told × SpM := if S.op then (⟨0, [], 0⟩, ⟨S.g, false, S.F, S.F⟩) else (⟨0, [], 30⟩, S)

section
variable {s p len : Nat} {k : List Nat} {d : DiskM} {S : SpM} {R : Assn} {w : World}

theorem Bears.stLeast (h : Bears w (stA s p d len k S * R)) : Bears w (stA s p d len (outL len) S * R) := h.spLeast

theorem alloc_st (h : Bears w (stA s p d len k S * R)) {t : Told} {S' : SpM} (hs : S.alloc len = (t, S')) :
    Calls Tryz.prog 30 #[.pointer (some ⟨s, 0, none⟩)] w fun e w' => e = .returned (.tuple #[.int .i64 t.n, .int .i64 t.e]) ∧ Bears w' (stA s p d len (outL len) S' * R) := by
  obtain ⟨g, op, F, G⟩ := S
  cases op with
  | false =>
    unfold SpM.alloc at hs
    simp at hs
    obtain ⟨rfl, rfl⟩ := hs
    exact (salloc_closed h).mono fun e w' ⟨h1, h2⟩ => ⟨h1, h2.spLeast⟩
  | true =>
    refine (salloc_any h).mono ?_
    rintro e w' (⟨n, h1, h2, h3, h4, rfl, h5⟩ | ⟨h1, rfl, h2⟩)
    · have hf := freeAt_some h1 h2 h3 h4
      unfold SpM.alloc at hs
      simp [hf] at hs
      obtain ⟨rfl, rfl⟩ := hs
      exact ⟨rfl, h5.spLeast⟩
    · have hf := freeAt_none h1
      unfold SpM.alloc at hs
      simp [hf] at hs
      obtain ⟨rfl, rfl⟩ := hs
      exact ⟨rfl, h2.spLeast⟩

theorem free_st (h : Bears w (stA s p d len k S * R)) (n : Int) {t : Told} {S' : SpM} (hs : S.free len n = (t, S')) :
    Calls Tryz.prog 31 #[.pointer (some ⟨s, 0, none⟩), .int .i64 n] w fun e w' => e = .returned (.int .i64 t.e) ∧ Bears w' (stA s p d len (outL len) S' * R) := by
  obtain ⟨g, op, F, G⟩ := S
  cases op with
  | false =>
    unfold SpM.free at hs
    simp at hs
    obtain ⟨rfl, rfl⟩ := hs
    exact (sfree_closed h n).mono fun e w' ⟨h1, h2⟩ => ⟨h1, h2.spLeast⟩
  | true =>
    unfold SpM.free at hs
    by_cases hc : chkN len G n = 0
    · simp [hc] at hs
      obtain ⟨rfl, rfl⟩ := hs
      obtain ⟨m, rfl, h1, h2, h3⟩ := chk_range hc
      exact (sfree_any h m rfl hc h2 rfl).mono fun e w' ⟨h1, h2⟩ => ⟨h1, h2.spLeast⟩
    · simp [hc] at hs
      obtain ⟨rfl, rfl⟩ := hs
      exact (sfree_bad h n rfl hc).mono fun e w' ⟨h1, h2⟩ => ⟨h1, h2.spLeast⟩

theorem read_st (h : Bears w (stA s p d len k S * R)) (n : Int) {t : Told} (hs : S.read len n = t) :
    Calls Tryz.prog 25 #[.pointer (some ⟨s, 0, none⟩), .int .i64 n] w fun e w' => ∃ ad l cap, e = .returned (.tuple #[.slice ad l cap, .int .i64 t.e]) ∧ Bears w' (bufA (.slice ad l cap) t.b * (stA s p d len (outL len) S * R)) := by
  unfold SpM.read at hs
  by_cases hc : chkN len S.G n = 0
  · rw [if_pos hc] at hs
    subst hs
    obtain ⟨m, rfl, h1, h2, h3⟩ := chk_range hc
    refine (sreads_any h m rfl hc h1 h2 rfl).mono ?_
    rintro e w' ⟨ad, cap, rfl, h4⟩
    exact ⟨ad, 64, cap, rfl, (h4.bufRow).pull2.spLeast.pull2⟩
  · rw [if_neg hc] at hs
    subst hs
    refine (sread_bad h n rfl hc).mono ?_
    rintro e w' ⟨rfl, h4⟩
    exact ⟨none, 0, 0, rfl, h4.spLeast.bufNil⟩

theorem write_st (h : Bears w (stA s p d len k S * R)) (n : Int) {b : List UInt8} {ad : Option Addr} {bn cap : Nat} (hb : R.Tells (fun w => BytesIn w (.slice ad bn cap) b)) {t : Told} {S' : SpM} (hs : S.write len n b = (t, S')) :
    Calls Tryz.prog 32 #[.pointer (some ⟨s, 0, none⟩), .int .i64 n, .slice ad bn cap] w fun e w' => e = .returned (.int .i64 t.e) ∧ Bears w' (stA s p d len (outL len) S' * R) := by
  obtain ⟨g, op, F, G⟩ := S
  cases op with
  | false =>
    unfold SpM.write at hs
    simp at hs
    obtain ⟨rfl, rfl⟩ := hs
    exact (swrite_closed h n _).mono fun e w' ⟨h1, h2⟩ => ⟨h1, h2.spLeast⟩
  | true =>
    unfold SpM.write at hs
    by_cases hc : chkN len G n = 0
    · simp [hc] at hs
      obtain ⟨rfl, rfl⟩ := hs
      obtain ⟨m, rfl, h1, h2, h3⟩ := chk_range hc
      exact (swrites_any h m rfl hc h1 h2 hb).mono fun e w' ⟨h1, h2⟩ => ⟨h1, h2.spLeast⟩
    · simp [hc] at hs
      obtain ⟨rfl, rfl⟩ := hs
      exact (swrite_bad h n _ rfl hc).mono fun e w' ⟨h1, h2⟩ => ⟨h1, h2.spLeast⟩

theorem inode_st (h : Bears w (stA s p d len k S * R)) (n : Int) {t : Told} (hs : S.inode len n = t) :
    Calls Tryz.prog 45 #[.pointer (some ⟨s, 0, none⟩), .int .i64 n] w fun e w' => ∃ ad l cap, e = .returned (.tuple #[.slice ad l cap, .int .i64 t.e]) ∧ Bears w' (bufA (.slice ad l cap) t.b * (stA s p d len (outL len) S * R)) := by
  unfold SpM.inode at hs
  by_cases hc : n < 0 ∨ 256 ≤ n
  · rw [if_pos hc] at hs
    subst hs
    refine (sinode_no h n hc).mono ?_
    rintro e w' ⟨rfl, h4⟩
    exact ⟨none, 0, 0, rfl, h4.spLeast.bufNil⟩
  · rw [if_neg hc] at hs
    subst hs
    obtain ⟨m, rfl⟩ : ∃ m : Nat, n = (m : Int) := ⟨n.toNat, by omega⟩
    have hm : m < 256 := by omega
    have h64 := h.sp64 (iSec len m)
    refine (sinode_any h m hm rfl).mono ?_
    rintro e w' ⟨b, cap, rfl, h4⟩
    have hat : iAt m = 0 ∨ iAt m = 32 := by unfold iAt; omega
    refine ⟨_, _, _, rfl, ?_⟩
    simp only [Int.toNat_natCast, inodeB]
    generalize iAt m = a at hat
    have hl : (((S.G (iSec len m)).drop a).take 32).length = 32 := by simp [h64]; omega
    have e1 : (S.G (iSec len m)).take a ++ ((S.G (iSec len m)).drop a).take 32 ++ ((S.G (iSec len m)).drop a).drop 32 = S.G (iSec len m) := by
      rw [List.append_assoc, List.take_append_drop, List.take_append_drop]
    have hla : ((S.G (iSec len m)).take a).length = a := by simp [h64]; omega
    have h5 := Bears.bufPart (pre := (S.G (iSec len m)).take a) (l := ((S.G (iSec len m)).drop a).take 32) (post := ((S.G (iSec len m)).drop a).drop 32) (c := 32) (n := 64) (by rw [e1]; exact h4) (by rw [e1, h64])
    rw [hl, hla] at h5
    exact h5.pull2.spLeast.pull2

theorem setinode_st (h : Bears w (stA s p d len k S * R)) (n : Int) {b : List UInt8} {ad : Option Addr} {bn cap : Nat} (hb : R.Tells (fun w => BytesIn w (.slice ad bn cap) b)) {t : Told} {S' : SpM} (hs : S.setInode len n b = (t, S')) :
    Calls Tryz.prog 44 #[.pointer (some ⟨s, 0, none⟩), .int .i64 n, .slice ad bn cap] w fun e w' => e = .returned (.int .i64 t.e) ∧ Bears w' (stA s p d len (outL len) S' * R) := by
  obtain ⟨g, op, F, G⟩ := S
  cases op with
  | false =>
    unfold SpM.setInode at hs
    simp at hs
    obtain ⟨rfl, rfl⟩ := hs
    exact (setinode_closed h n _).mono fun e w' ⟨h1, h2⟩ => ⟨h1, h2.spLeast⟩
  | true =>
    unfold SpM.setInode at hs
    by_cases hc : n < 0 ∨ 256 ≤ n
    · simp [hc] at hs
      obtain ⟨rfl, rfl⟩ := hs
      exact (setinode_bad h n _ hc).mono fun e w' ⟨h1, h2⟩ => ⟨h1, h2.spLeast⟩
    · simp [hc] at hs
      obtain ⟨rfl, rfl⟩ := hs
      obtain ⟨m, rfl⟩ : ∃ m : Nat, n = (m : Int) := ⟨n.toNat, by omega⟩
      exact (setinode_any h m (by omega) hb).mono fun e w' ⟨h1, h2⟩ => ⟨h1, h2.spLeast⟩

theorem begin_st (h : Bears w (stA s p d len k S * R)) {t : Told} {S' : SpM} (hs : S.begins = (t, S')) :
    Calls Tryz.prog 18 #[.pointer (some ⟨s, 0, none⟩)] w fun e w' => e = .returned (.int .i64 t.e) ∧ Bears w' (stA s p d len (outL len) S' * R) := by
  obtain ⟨g, op, F, G⟩ := S
  cases op with
  | false =>
    unfold SpM.begins at hs
    simp at hs
    obtain ⟨rfl, rfl⟩ := hs
    exact (sbegin_any h).mono fun e w' ⟨h1, h2⟩ => ⟨h1, h2.spLeast⟩
  | true =>
    unfold SpM.begins at hs
    simp at hs
    obtain ⟨rfl, rfl⟩ := hs
    exact (sbegin_no h).mono fun e w' ⟨h1, h2⟩ => ⟨h1, h2.spLeast⟩

theorem abort_st (h : Bears w (stA s p d len k S * R)) {t : Told} {S' : SpM} (hs : S.abort = (t, S')) :
    Calls Tryz.prog 15 #[.pointer (some ⟨s, 0, none⟩)] w fun e w' => e = .returned (.int .i64 t.e) ∧ Bears w' (stA s p d len (outL len) S' * R) := by
  obtain ⟨g, op, F, G⟩ := S
  cases op with
  | false =>
    unfold SpM.abort at hs
    simp at hs
    obtain ⟨rfl, rfl⟩ := hs
    exact (sabort_no h).mono fun e w' ⟨h1, h2⟩ => ⟨h1, h2.spLeast⟩
  | true =>
    unfold SpM.abort at hs
    simp at hs
    obtain ⟨rfl, rfl⟩ := hs
    exact (sabort_any h).mono fun e w' ⟨h1, h2⟩ => ⟨h1, h2.spLeast⟩

theorem commit_st (h : Bears w (stA s p d len k S * R)) (hlen : len ≤ 1220) (hf : d.fuse = -1) (hg : S.g < 4611686018427387904) {t : Told} {S' : SpM} (hs : S.commit = (t, S')) :
    Calls Tryz.prog 21 #[.pointer (some ⟨s, 0, none⟩)] w fun e w' => ∃ d', e = .returned (.int .i64 t.e) ∧ d'.fuse = -1 ∧ Bears w' (stA s p d' len (outL len) S' * R) := by
  have hl := h.spOk
  obtain ⟨g, op, F, G⟩ := S
  cases op with
  | false =>
    unfold SpM.commit at hs
    simp at hs
    obtain ⟨rfl, rfl⟩ := hs
    exact (scommit_no h).mono fun e w' ⟨h1, h2⟩ => ⟨d, h1, hf, h2.spLeast⟩
  | true =>
    unfold SpM.commit at hs
    simp at hs
    obtain ⟨rfl, rfl⟩ := hs
    exact (scommit_any h.spLeast (outL_few hlen (by omega)) hf hg).mono fun e w' ⟨d', h1, h2, h3⟩ => ⟨d', h1, h2, h3.spLeast⟩
end

theorem inodeB_other {len m i : Nat} {G : Nat → Sec} {b : Sec} (h : iSec len m ≠ i) : inodeB len (updS G i b) m = inodeB len G m := by
  unfold inodeB updS
  rw [if_neg h]
theorem putAt_split {l b : Sec} {o : Nat} (h : o + b.length ≤ l.length) : putAt l o b = l.take o ++ b ++ l.drop (o + b.length) := rfl
theorem inodeB_set {len m j : Nat} {G : Nat → Sec} {b : Sec} (h64 : ∀ i, (G i).length = 64) (hb : b.length = 32) : inodeB len (updS G (iSec len m) (putAt (G (iSec len m)) (iAt m) b)) j = if j = m then b else inodeB len G j := by
  by_cases e : j = m
  · subst e
    rw [if_pos rfl]
    unfold inodeB updS
    rw [if_pos rfl]
    have hat : iAt j = 0 ∨ iAt j = 32 := by unfold iAt; omega
    have hl := h64 (iSec len j)
    have hpl : (putAt (G (iSec len j)) (iAt j) b).length = 64 := putAt64 hl (by omega)
    apply List.ext_getElem?
    intro i
    rw [List.getElem?_take, List.getElem?_drop]
    by_cases hi : i < 32
    · rw [if_pos hi]
      unfold putAt
      rw [List.append_assoc, List.getElem?_append_right (by simp; omega), List.length_take, Nat.min_eq_left (by omega), Nat.add_sub_cancel_left, List.getElem?_append_left (by omega)]
    · rw [if_neg hi, List.getElem?_eq_none (by omega)]
  · rw [if_neg e]
    by_cases es : iSec len j = iSec len m
    · unfold inodeB updS
      rw [if_pos es, es]
      have h1 : iAt j = 0 ∧ iAt m = 32 ∨ iAt j = 32 ∧ iAt m = 0 := by unfold iSec at es; unfold iAt; omega
      have hl := h64 (iSec len m)
      unfold putAt
      rcases h1 with ⟨h1, h2⟩ | ⟨h1, h2⟩
      · rw [h1, h2, List.drop_zero, List.drop_zero, List.append_assoc, List.take_append_of_le_length (by simp [hl])]
        rw [List.take_take, Nat.min_self]
      · rw [h1, h2, List.take_zero, List.nil_append, List.drop_append, List.drop_of_length_le (by omega), List.nil_append, hb, List.drop_drop]
    · exact inodeB_other es
theorem siN_ok {len m : Nat} {G : Nat → Sec} {b : Sec} (hb : b.length = 32) : siN len G m b = (0, updS G (iSec len m) (putAt (G (iSec len m)) (iAt m) b)) := by unfold siN; rw [if_pos hb]
theorem wrN_ok {m : Nat} {G : Nat → Sec} {b : Sec} (hb : b.length = 64) : wrN G m b = (0, updS G m b) := by unfold wrN; rw [if_pos hb]

end Go.Proofs.YtcggloceabjjdaaGreat

/- Slices that read as cells; rows of any width: made, copied, read, written; no condition. -/
namespace Go.Proofs.YtcggloceabjjdaaGreat
open Go.RowKit Go.MapKept

/-- The slice v reads as these cells, n rows of them. -/
def ValsIn (size : Nat) (w : World) (v : Value) (xs : List Value) : Prop :=
  ∃ ad n cap, v = .slice ad n cap ∧ xs.length = n * size ∧ n ≤ maxLen ∧ (xs ≠ [] → ∃ b o, ad = some ⟨b, o, none⟩ ∧ w.rangeAt b o xs)
theorem rowA_vals {e : TypeId} {size n : Nat} {v : Value} {xs : List Value} {R : Assn} : (rowA e size v n xs * R).Tells (fun w => ValsIn size w v xs) := by
  intro w h
  obtain ⟨hl, hr⟩ := h.row
  rcases hr with ⟨rfl, rfl⟩ | ⟨g, cap, cur, rfl, _, hg, hn, hm, hs, ht⟩
  · have hl0 : xs.length = 0 := by simpa using hl
    exact ⟨none, 0, 0, rfl, by omega, Nat.zero_le _, fun h => absurd (List.length_eq_zero_iff.1 hl0) h⟩
  · refine ⟨_, n, cap, rfl, hl, by omega, fun _ => ⟨g, 0, rfl, fun j v hv => ?_⟩⟩
    rw [cell_of_obj hg]
    rw [← ht, List.getElem?_take] at hv
    split at hv
    · simpa using hv
    · cases hv
theorem ValsIn.nil (size : Nat) (w : World) : ValsIn size w (.slice none 0 0) [] := ⟨none, 0, 0, rfl, by simp, Nat.zero_le _, fun h => absurd rfl h⟩
theorem ValsIn.cell {w : World} {size : Nat} {ad : Option Addr} {n cap : Nat} {xs : List Value} (h : ValsIn size w (.slice ad n cap) xs) {j : Nat} {v : Value} (hj : xs[j]? = some v) : ∃ b o, ad = some ⟨b, o, none⟩ ∧ w.cell? ⟨b, o + j, none⟩ = some v := by
  obtain ⟨_, _, _, hv, _, _, hr⟩ := h
  simp only [Value.slice.injEq] at hv
  obtain ⟨rfl, _, _⟩ := hv
  obtain ⟨b, o, rfl, h2⟩ := hr (by intro e; rw [e] at hj; simp at hj)
  exact ⟨b, o, rfl, h2 j v hj⟩
theorem ValsIn.form {w : World} {size : Nat} {v : Value} {xs : List Value} (h : ValsIn size w v xs) : ∃ ad n cap, v = .slice ad n cap ∧ xs.length = n * size ∧ n ≤ maxLen := by
  obtain ⟨ad, n, cap, rfl, h2, h3, _⟩ := h
  exact ⟨ad, n, cap, rfl, h2, h3⟩

theorem i_row : (Tryz.prog.info? 34).map (fun i => (i.zero, i.size, i.bytes)) = some (some (.slice none 0 0), 1, 24) := by kernel_rfl
theorem u_rows : Tryz.prog.underlying 66 = some (.slice 34) := by kernel_rfl
theorem newRow {w : World} {R : Assn} {e : TypeId} {n : Nat} {xs : List Value} (h : Bears w R) (hl : xs.length = n) (hn : n ≤ maxLen) : Bears (w.alloc (.cells xs.toArray e)) (rowA e 1 (.slice (some ⟨w.heap.size, 0, none⟩) n n) n xs * R) := by
  have h2 := h.alloc (.cells xs.toArray e)
  obtain ⟨F, G, H, ⟨hb, rfl⟩, hR, hd, rfl⟩ := h2
  exact ⟨_, _, H, ⟨⟨by simpa using hl, .inr ⟨w.heap.size, n, xs.toArray, rfl, Nat.zero_le _, hb, Nat.le_refl _, hn, by simpa using hl, by simp [← hl]⟩⟩, by funext b; simp [Value.ownBlock, eq_comm]⟩, hR, hd, rfl⟩

theorem made_rows (n : Nat) : madeCells #[Value.slice none 0 0] n = (List.replicate n (Value.slice none 0 0)).toArray := by
  unfold madeCells
  apply Array.ext
  · simp
  · intro i h1 h2
    simp [Nat.mod_one]
theorem run_make_rows (w : World) (n : Nat) (hn : n ≤ 8192) : (Instr.makeSlice 66 (.int .i64 (n : Int)) (.int .i64 (n : Int))).run Tryz.prog w = .ok (.slice (some ⟨w.heap.size, 0, none⟩) n n) (w.alloc (.cells (List.replicate n (Value.slice none 0 0)).toArray 34)) := by
  obtain ⟨i0, hi0, hz0, hz1, hz2⟩ := info_parts i_row
  have h := run_makeSlice (P := Tryz.prog) (w := w) 66 34 i0 _ u_rows hi0 hz0 .i64 .i64 (n : Int) (n : Int) (by omega) (Int.le_refl _) (by rw [hz1, Int.toNat_natCast]; omega) (by rw [hz2]; omega) (by omega)
  rw [hz1, Int.toNat_natCast, Nat.mul_one, show (Value.slice none 0 0).cells = #[Value.slice none 0 0] by simp [Value.cells], made_rows] at h
  exact h

theorem exec_make {P : Program} {ev : Operand → Value} {o : Oper} {ty : TypeId} {x y : Operand} {vx vy v : Value} {w w' : World} (ho : o.op = .makeSlice ty x y) (hx : ev x = vx) (hy : ev y = vy) (hrun : (Instr.makeSlice ty vx vy).run P w = .ok v w') : (execOp ev o).run P w = .ok (.value v) w' := by
  unfold execOp
  simp only [ho, hx, hy, Sem.run_bind, Sem.run_pure, hrun, Result.andThen_ok]

/-- 'append([]T{}, s...)'. -/
theorem wpList_append_vals {w : World} {ops : Array Oper} {rest : List Oper} {o : Oper} {a : Act} {Q : Exit → Act → World → Prop} {s x : Operand} {e t : TypeId} {i0 : TypeInfo} {z : Value} {size bytes : Nat} {R : Assn} {b0 : Addr}
    (h : Bears w (rowA e size (.slice (some b0) 0 0) 0 [] * R)) (hg : o.guard = none) (ho : o.op = .call { callee := .builtin .append, args := #[s, x], argTypes := #[t, t] }) (ht : Tryz.prog.underlying t = some (.slice e))
    (hi : Tryz.prog.info? e = some i0) (hz0 : i0.zero = some z) (hz1 : i0.size = size) (hz2 : i0.bytes = bytes) (hzc : z.cells.size = size) (hpos : 0 < size) (hs : a.eval s = .slice (some b0) 0 0) {ad : Option Addr} {n c : Nat} {xs : List Value} (hx : a.eval x = .slice ad n c)
    (hb : ValsIn size w (.slice ad n c) xs) (h1 : ∀ u ∈ xs, u.oneCell' = true) (hl : n * bytes ≤ 140737488355328)
    (hK : ∀ a' c' w', Bears w' (rowA e size (.slice a' n c') n xs * R) → wpList Tryz.prog ops Q rest (a.put o.dst (.slice a' n c')) w') : wpList Tryz.prog ops Q (o :: rest) a w := by
  obtain ⟨_, n', _, hv, hxl, hmax, hr⟩ := hb
  simp only [Value.slice.injEq] at hv
  obtain ⟨rfl, rfl, -⟩ := hv
  by_cases h0 : xs = []
  · subst h0
    obtain rfl : n = 0 := by
      rcases Nat.eq_zero_or_pos n with h | h
      · exact h
      · have := Nat.mul_pos h hpos
        simp at hxl
        omega
    refine wpList_plain hg fun K hK' => ?_
    have hr : (Builtin.append_ #[t, t] o.type #[.slice (some b0) 0 0, .slice ad 0 c]).run Tryz.prog w = .ok (.slice (some b0) 0 0) w := by
      cases ad <;> simp [Builtin.append_, run_underlying ht, sizeOf, typeInfo, hi, storeCells, Builtin.lenOf, Builtin.firstCells, loadCells, loadCellsFrom]
    unfold Oper.wp execOp
    simp only [ho, resolve, invoke, builtin, Sem.run_bind, Sem.run_pure, Result.andThen_ok, List.map_toArray, List.map_cons, List.map_nil, hs, hx, hr]
    exact hK' _ _ (hK _ _ _ h)
  · obtain ⟨b, ob, rfl, hr2⟩ := hr h0
    refine wpList_append_bears h hg ho ht hi hz0 hz1 hz2 hzc hpos hs (ad := ⟨b, ob, none⟩) (m := n) (c := c) (news := xs) hx hxl (addr_cells hr2) h1 (by omega) (by rw [Nat.zero_add]; exact hl) ?_
    intro a' c' w' h'
    rw [Nat.zero_add] at h' ⊢
    exact hK a' c' w' h'

theorem getDmem {α : Type} [Inhabited α] {xs : List α} {k : Nat} (hk : k < xs.length) : xs.getD k default ∈ xs := by
  rw [List.getD_eq_getElem?_getD, List.getElem?_eq_getElem hk]; exact List.getElem_mem hk
theorem take_snoc {α : Type} [Inhabited α] {xs : List α} {k : Nat} (hk : k < xs.length) : xs.take (k + 1) = xs.take k ++ [xs.getD k default] := by
  rw [List.take_succ_eq_append_getElem hk, List.getD_eq_getElem?_getD, List.getElem?_eq_getElem hk]; rfl

theorem exec_toN {P : Program} {ev : Operand → Value} {op : Oper} {t : TypeId} {x b : Operand} {ad : Option Addr} {hi len cap sz : Nat} {w : World} {e : TypeId} (ho : op.op = .slice t x none (some b) none) (ht : P.underlying t = some (.slice e)) (hz : (Go.sizeOf e).run P w = .ok sz w)
    (hx : ev x = .slice ad len cap) (hb : ev b = .int .i64 hi) (h1 : hi ≤ cap) :
    (execOp ev op).run P w = .ok (.value (.slice ad hi cap)) w := by
  have a0 : ∀ a : Addr, a.add 0 = a := fun a => by unfold Addr.add; rw [if_pos rfl]
  unfold execOp
  go_simp
  try (cases ad <;> simp [a0])
theorem exec_restN {P : Program} {ev : Operand → Value} {op : Oper} {t : TypeId} {x a : Operand} {ad : Option Addr} {lo len cap sz : Nat} {w : World} {e : TypeId} (ho : op.op = .slice t x (some a) none none) (ht : P.underlying t = some (.slice e)) (hz : (Go.sizeOf e).run P w = .ok sz w)
    (hx : ev x = .slice ad len cap) (ha : ev a = .int .i64 lo) (h1 : lo ≤ len) :
    (execOp ev op).run P w = .ok (.value (.slice (if cap = lo then ad else ad.map (·.add (lo * sz))) (len - lo) (cap - lo))) w := by
  unfold execOp
  go_simp
/-- 'append(s, x...)' onto a row; x may be nothing. -/
theorem wpList_append_more {w : World} {ops : Array Oper} {rest : List Oper} {o : Oper} {a : Act} {Q : Exit → Act → World → Prop} {s x : Operand} {e t : TypeId} {i0 : TypeInfo} {z : Value} {size bytes : Nat} {R : Assn} {sa : Option Addr} {n sc : Nat} {ys : List Value}
    (h : Bears w (rowA e size (.slice sa n sc) n ys * R)) (hg : o.guard = none) (ho : o.op = .call { callee := .builtin .append, args := #[s, x], argTypes := #[t, t] }) (ht : Tryz.prog.underlying t = some (.slice e))
    (hi : Tryz.prog.info? e = some i0) (hz0 : i0.zero = some z) (hz1 : i0.size = size) (hz2 : i0.bytes = bytes) (hzc : z.cells.size = size) (hpos : 0 < size) (hs : a.eval s = .slice sa n sc) {ad : Option Addr} {m c : Nat} {xs : List Value} (hx : a.eval x = .slice ad m c)
    (hb : ValsIn size w (.slice ad m c) xs) (h1 : ∀ u ∈ xs, u.oneCell' = true) (hmx : n + m ≤ maxLen) (hl : (n + m) * bytes ≤ 140737488355328)
    (hK : ∀ a' c' w', Bears w' (rowA e size (.slice a' (n + m) c') (n + m) (ys ++ xs) * R) → wpList Tryz.prog ops Q rest (a.put o.dst (.slice a' (n + m) c')) w') : wpList Tryz.prog ops Q (o :: rest) a w := by
  obtain ⟨_, n', _, hv, hxl, hmax, hr⟩ := hb
  simp only [Value.slice.injEq] at hv
  obtain ⟨rfl, rfl, -⟩ := hv
  by_cases h0 : xs = []
  · subst h0
    obtain rfl : m = 0 := by
      rcases Nat.eq_zero_or_pos m with h | h
      · exact h
      · have := Nat.mul_pos h hpos
        simp at hxl
        omega
    obtain ⟨_, _, e8, hnc, _⟩ := h.rowForm
    simp only [Value.slice.injEq, true_and] at e8
    obtain ⟨-, rfl⟩ := e8
    refine wpList_plain hg fun K hK' => ?_
    have hr : (Builtin.append_ #[t, t] o.type #[.slice sa n sc, .slice ad 0 c]).run Tryz.prog w = .ok (.slice sa n sc) w := by
      cases ad <;> cases sa <;> simp [Builtin.append_, run_underlying ht, sizeOf, typeInfo, hi, storeCells, Builtin.lenOf, Builtin.firstCells, loadCells, loadCellsFrom, hnc]
    unfold Oper.wp execOp
    simp only [ho, resolve, invoke, builtin, Sem.run_bind, Sem.run_pure, Result.andThen_ok, List.map_toArray, List.map_cons, List.map_nil, hs, hx, hr]
    have hk := hK sa sc w (by simpa using h)
    exact hK' _ _ (by simpa using hk)
  · obtain ⟨b, ob, rfl, hr2⟩ := hr h0
    exact wpList_append_bears h hg ho ht hi hz0 hz1 hz2 hzc hpos hs (ad := ⟨b, ob, none⟩) (m := m) (c := c) (news := xs) hx hxl (addr_cells hr2) h1 hmx hl hK

/-! ### A cell of a row of any width -/
theorem Bears.rowCellN {w : World} {e : TypeId} {size g c n : Nat} {xs : List Value} {R : Assn} (h : Bears w (rowA e size (.slice (some ⟨g, 0, none⟩) n c) n xs * R)) {i : Nat} {v : Value} (hv : xs[i]? = some v) : w.cell? ⟨g, i, none⟩ = some v ∧ w.frozen? ⟨g, i, none⟩ = false := by
  obtain ⟨_, h⟩ := h.row
  rcases h with ⟨h, _⟩ | ⟨g', cap, cur, hv2, _, hg, hn, hm, hs, ht⟩
  · cases h
  · simp only [Value.slice.injEq, Option.some.injEq, Addr.mk.injEq] at hv2
    obtain ⟨⟨rfl, _⟩, _, rfl⟩ := hv2
    refine ⟨?_, frozen_of_obj hg i⟩
    rw [cell_of_obj hg]
    rw [← ht, List.getElem?_take] at hv
    split at hv
    · simpa using hv
    · cases hv
theorem Bears.rowSetN {w : World} {e : TypeId} {size g c n : Nat} {xs : List Value} {R : Assn} (h : Bears w (rowA e size (.slice (some ⟨g, 0, none⟩) n c) n xs * R)) (i : Nat) (v : Value) :
    Bears (w.setCell ⟨g, i, none⟩ v) (rowA e size (.slice (some ⟨g, 0, none⟩) n c) n (xs.set i v) * R) := by
  obtain ⟨F, G, H, ⟨⟨hl, hr⟩, rfl⟩, hR, hd, rfl⟩ := h
  rcases hr with ⟨h, _⟩ | ⟨g', cap, cur, hv, hb, hg, hn, hm, hs, ht⟩
  · cases h
  · simp only [Value.slice.injEq, Option.some.injEq, Addr.mk.injEq] at hv
    obtain ⟨⟨rfl, _⟩, _, rfl⟩ := hv
    refine ⟨_, _, H, ⟨⟨by simpa using hl, .inr ⟨g, c, cur.setIfInBounds i v, rfl, hb, ?_, hn, hm, by simpa using hs, ?_⟩⟩, rfl⟩, R.loc hR ⟨rfl, rfl, rfl, by simp⟩ (fun b hb => Below.heap_setCell _ _ _ _ (fun e => hd b (by rw [e]; rfl) hb)), hd, rfl⟩
    · simp [World.setCell, Array.getElem?_modify, hg]
    · rw [Array.toList_setIfInBounds, List.take_set, ht]


end Go.Proofs.YtcggloceabjjdaaGreat

/- The document's space: how it lies in memory; no condition. -/
namespace Go.Proofs.YtcggloceabjjdaaGreat
open Go.RowKit Go.MapKept

/-- What is read of an inode's row (none: noughts). -/
def padI (s : List UInt8) : List UInt8 := if s = [] then List.replicate 32 0 else s
/-- The rows of a state stand for what a space of len sectors has: of a free block nothing, of one that is taken its bytes. -/
structure StOk (Y : Assn) (len : Nat) (bs is : List (Value × Sec)) (G : Nat → Sec) : Prop where
  blen : bs.length = len - firstB len
  ilen : is.length = 256
  blk : ∀ i, i < bs.length → (bitN G (firstB len + i) = false ∧ (bs.getD i default).1 = .slice none 0 0) ∨ (bitN G (firstB len + i) = true ∧ (bs.getD i default).2 = G (firstB len + i) ∧ (bs.getD i default).2.length = 64 ∧ ∃ a c, (bs.getD i default).1 = .slice (some a) 64 c)
  ino : ∀ n, n < 256 → inodeB len G n = padI (is.getD n default).2 ∧ ((is.getD n default).2 = [] ∨ (is.getD n default).2.length = 32)
  iform : ∀ n, n < 256 → ∃ a c, (is.getD n default).1 = .slice a (is.getD n default).2.length c
  btell : ∀ r ∈ bs, Y.Tells (fun w => r.1 = .slice none 0 0 ∨ BytesIn w r.1 r.2)
  itell : ∀ r ∈ is, Y.Tells (fun w => BytesIn w r.1 r.2)
  out : ∀ i, i < 512 * mapsN len → (i < firstB len ∨ len ≤ i) → bitN G i = false
theorem StOk.right {Z Y : Assn} {len : Nat} {bs is : List (Value × Sec)} {G : Nat → Sec} (h : StOk Y len bs is G) : StOk (Z * Y) len bs is G :=
  ⟨h.blen, h.ilen, h.blk, h.ino, h.iform, fun r hr => (h.btell r hr).right, fun r hr => (h.itell r hr).right, h.out⟩

abbrev stObj (q : Nat) (bv iv : Value) : Assn := Assn.obj q (.cells #[bv, iv] 68 (0, 0))
/-- A state at q. -/
def rstA (q : Nat) (Y : Assn) (len : Nat) (G : Nat → Sec) : Assn := Assn.ex fun (x : List (Value × Sec) × List (Value × Sec) × Value × Value) =>
  Assn.fact (StOk Y len x.1 x.2.1 G) * (stObj q x.2.2.1 x.2.2.2 * (rowA 34 1 x.2.2.1 x.1.length (x.1.map Prod.fst) * rowA 34 1 x.2.2.2 x.2.1.length (x.2.1.map Prod.fst)))
theorem Bears.rst {w : World} {q len : Nat} {Y : Assn} {G : Nat → Sec} {R : Assn} : Bears w (rstA q Y len G * R) ↔ ∃ bs is bv iv, StOk Y len bs is G ∧
    Bears w (stObj q bv iv * (rowA 34 1 bv bs.length (bs.map Prod.fst) * (rowA 34 1 iv is.length (is.map Prod.fst) * R))) := by
  unfold rstA
  rw [Bears.ex]
  constructor
  · rintro ⟨x, h⟩
    rw [Assn.mul_assoc', Bears.fact] at h
    exact ⟨x.1, x.2.1, x.2.2.1, x.2.2.2, h.1, h.2.cast (by ac_rfl)⟩
  · rintro ⟨bs, is, bv, iv, h1, h2⟩
    refine ⟨(bs, is, bv, iv), ?_⟩
    rw [Assn.mul_assoc', Bears.fact]
    exact ⟨h1, h2.cast (by ac_rfl)⟩
theorem Bears.rstRight {w : World} {q len : Nat} {Z Y : Assn} {G : Nat → Sec} {R : Assn} (h : Bears w (rstA q Y len G * R)) : Bears w (rstA q (Z * Y) len G * R) := by
  obtain ⟨bs, is, bv, iv, h1, h2⟩ := Bears.rst.1 h
  exact Bears.rst.2 ⟨bs, is, bv, iv, h1.right, h2⟩

abbrev spcObj (y was now : Nat) (first : Int) (op : Bool) (tv : Value) (g : Int) : Assn :=
  Assn.obj y (.cells #[.int .i64 first, .pointer (some ⟨was, 0, none⟩), .pointer (some ⟨now, 0, none⟩), .bool op, tv, .int .i64 g] 42 (0, 0))
theorem Bears.spcCells {w : World} {y was now : Nat} {first g : Int} {op : Bool} {tv : Value} {R : Assn} (h : Bears w (spcObj y was now first op tv g * R)) :
    w.cell? ⟨y, 0, none⟩ = some (.int .i64 first) ∧ w.cell? ⟨y, 1, none⟩ = some (.pointer (some ⟨was, 0, none⟩)) ∧ w.cell? ⟨y, 2, none⟩ = some (.pointer (some ⟨now, 0, none⟩)) ∧ w.cell? ⟨y, 3, none⟩ = some (.bool op) ∧
    w.cell? ⟨y, 4, none⟩ = some tv ∧ w.cell? ⟨y, 5, none⟩ = some (.int .i64 g) ∧ ∀ i, w.frozen? ⟨y, i, none⟩ = false := by
  obtain ⟨hc, hf⟩ := disk_cells h
  exact ⟨hc 0, hc 1, hc 2, hc 3, hc 4, hc 5, hf⟩
theorem Bears.stCells {w : World} {q : Nat} {bv iv : Value} {R : Assn} (h : Bears w (stObj q bv iv * R)) : w.cell? ⟨q, 0, none⟩ = some bv ∧ w.cell? ⟨q, 1, none⟩ = some iv ∧ ∀ i, w.frozen? ⟨q, i, none⟩ = false := by
  obtain ⟨hc, hf⟩ := disk_cells h
  exact ⟨hc 0, hc 1, hf⟩
/-- The document's space at y does what the state S says. -/
def spcA (y : Nat) (Y : Assn) (len : Nat) (S : SpM) : Assn := Assn.ex fun (x : Nat × Nat × Value × List Bool) =>
  Assn.fact (x.2.2.2.length = len) * (spcObj y x.1 x.2.1 (firstB len : Int) S.op x.2.2.1 (S.g : Int) * (rowA 4 1 x.2.2.1 len (x.2.2.2.map Value.bool) * (rstA x.1 Y len S.F * rstA x.2.1 Y len S.G)))
theorem Bears.spc {w : World} {y len : Nat} {Y : Assn} {S : SpM} {R : Assn} : Bears w (spcA y Y len S * R) ↔ ∃ (was now : Nat) (tv : Value) (ts : List Bool), ts.length = len ∧
    Bears w (spcObj y was now (firstB len : Int) S.op tv (S.g : Int) * (rowA 4 1 tv len (ts.map Value.bool) * (rstA was Y len S.F * (rstA now Y len S.G * R)))) := by
  unfold spcA
  rw [Bears.ex]
  constructor
  · rintro ⟨⟨was, now, tv, ts⟩, h⟩
    rw [Assn.mul_assoc', Bears.fact] at h
    simp only at h
    exact ⟨was, now, tv, ts, h.1, h.2.cast (by ac_rfl)⟩
  · rintro ⟨was, now, tv, ts, h1, h2⟩
    refine ⟨(was, now, tv, ts), ?_⟩
    rw [Assn.mul_assoc', Bears.fact]
    simp only
    exact ⟨h1, h2.cast (by ac_rfl)⟩
/-- The state at hand, opened. -/
theorem Bears.spn {w : World} {y len : Nat} {Y : Assn} {S : SpM} {R : Assn} : Bears w (spcA y Y len S * R) ↔ ∃ (was now : Nat) (tv : Value) (ts : List Bool) (bs is : List (Value × Sec)) (bv iv : Value), ts.length = len ∧ StOk Y len bs is S.G ∧
    Bears w (spcObj y was now (firstB len : Int) S.op tv (S.g : Int) * (stObj now bv iv * (rowA 34 1 bv bs.length (bs.map Prod.fst) * (rowA 34 1 iv is.length (is.map Prod.fst) * (rowA 4 1 tv len (ts.map Value.bool) * (rstA was Y len S.F * R)))))) := by
  rw [Bears.spc]
  constructor
  · rintro ⟨was, now, tv, ts, h1, h⟩
    obtain ⟨bs, is, bv, iv, h2, h3⟩ := Bears.rst.1 h.pull4
    exact ⟨was, now, tv, ts, bs, is, bv, iv, h1, h2, h3.cast (by ac_rfl)⟩
  · rintro ⟨was, now, tv, ts, bs, is, bv, iv, h1, h2, h3⟩
    exact ⟨was, now, tv, ts, h1, (Bears.rst.2 ⟨bs, is, bv, iv, h2, h3.cast (by ac_rfl)⟩ : Bears w (rstA now Y len S.G * (spcObj y was now (firstB len : Int) S.op tv (S.g : Int) * (rowA 4 1 tv len (ts.map Value.bool) * (rstA was Y len S.F * R))))).cast (by ac_rfl)⟩

end Go.Proofs.YtcggloceabjjdaaGreat

/- Walks of the document's space, part 1: Begin, Many, free, Inodes, NextInode, Blocks; no condition. -/
namespace Go.Proofs.YtcggloceabjjdaaGreat
open Go.RowKit Go.MapKept

section
variable {y len : Nat} {Y R : Assn} {S S' : SpM} {w : World}

set_option maxHeartbeats 400000 in
theorem rsbegin_any {t : Told} (h : Bears w (spcA y Y len S * R)) (hs : S.begins = (t, S')) :
    Calls Tryz.prog 19 #[.pointer (some ⟨y, 0, none⟩)] w fun e w' => e = .returned (.int .i64 t.e) ∧ Bears w' (spcA y Y len S' * R) := by
  obtain ⟨was, now, tv, ts, hts, h1⟩ := Bears.spc.1 h
  obtain ⟨_, _, _, c3, _, _, hf⟩ := h1.spcCells
  have f3 := hf 3
  have Hts := Lib.hid hts
  clear hf hts
  obtain ⟨g, op, F, G⟩ := S
  simp only at h1 c3
  unfold SpM.begins at hs
  cases op with
  | true =>
    simp at hs
    obtain ⟨rfl, rfl⟩ := hs
    go_enter Tryz.func19, Tryz.ntmps19
    go_wp2_with fail
    go_ret
    exact ⟨rfl, h⟩
  | false =>
    simp at hs
    obtain ⟨rfl, rfl⟩ := hs
    clear h
    go_enter Tryz.func19, Tryz.ntmps19
    go_wp2_with fail
    go_ret
    exact ⟨rfl, Bears.spc.2 ⟨was, now, tv, ts, Hts.out, (h1.setCell (i := 3) (.bool true)).cast (by simp)⟩⟩

set_option maxRecDepth 100000 in
set_option maxHeartbeats 800000 in
theorem rsmany_any (h : Bears w (spcA y Y len S * R)) (hlen : len ≤ 8192) :
    Calls Tryz.prog 8 #[.pointer (some ⟨y, 0, none⟩)] w fun e w' => (∃ n : Nat, n ≤ len ∧ e = .returned (.int .i64 n)) ∧ w = w' := by
  obtain ⟨was, now, tv, ts, hts, h1⟩ := Bears.spc.1 h
  obtain ⟨ta, tc, rfl, _⟩ := h1.pull2.rowForm
  obtain ⟨_, _, _, _, c4, _, _⟩ := h1.spcCells
  have Hts := Lib.hid hts
  clear hts h
  go_enter Tryz.func8, Tryz.ntmps8
  go_wp2_with fail
  go_loopw [3, 4] (fun v iv wr => ∃ (k m : Nat), k ≤ len ∧ m ≤ k ∧ iv = .int .i64 k ∧ v = .int .i64 m ∧ w = wr) (fun _ iv _ => len - (intOf iv).toNat)
  case atStart => exact ⟨0, 0, by omega, by omega, rfl, rfl, rfl⟩
  case round =>
    obtain ⟨k, m, hk, hm, rfl, rfl, rfl⟩ := hrel
    by_cases hlt : k < len
    · have hltI : (k : Int) < (len : Int) := by omega
      obtain ⟨gb, rfl, _⟩ := h1.pull2.rowAt (k := k) hlt
      have hc := h1.pull2.rowCell (i := k) hlt (v := .bool (ts.getD k false)) (by rw [List.getElem?_map, List.getD_eq_getElem?_getD, List.getElem?_eq_getElem (by rw [Hts.out]; exact hlt)]; rfl)
      generalize ts.getD k false = tb at hc
      cases tb with
      | true =>
        go_wp2_with fail
        go_roundw
        case rel => exact ⟨k + 1, m + 1, hlt, by omega, by go_num, by go_num, by simp⟩
        case measure => simp [intOf]; omega
      | false =>
        go_wp2_with fail
        go_roundw
        case rel => exact ⟨k + 1, m, hlt, by omega, by go_num, rfl, by simp⟩
        case measure => simp [intOf]; omega
    · go_wp2_with fail
      go_ret
      exact ⟨⟨m, by omega, rfl⟩, rfl⟩

theorem ifree_pad {G : Nat → Sec} {n : Nat} {s : List UInt8} (h : inodeB len G n = padI s) : ifreeB len G n = ((padI s).getD 0 0 == 0) := by
  have h2 : (inodeB len G n).getD 0 0 = (G (iSec len n)).getD (iAt n) 0 := by
    unfold inodeB
    rw [List.getD_eq_getElem?_getD, List.getElem?_take, if_pos (by decide), List.getElem?_drop, Nat.add_zero, ← List.getD_eq_getElem?_getD]
  rw [← h, h2]
  rfl

set_option maxRecDepth 100000 in
set_option maxHeartbeats 800000 in
theorem rsfree_any (h : Bears w (spcA y Y len S * (Y * R))) (n : Nat) (hn : n < 256) :
    Calls Tryz.prog 86 #[.pointer (some ⟨y, 0, none⟩), .int .i64 n] w fun e w' => e = .returned (.bool (ifreeB len S.G n)) ∧ w = w' := by
  obtain ⟨was, now, tv, ts, bs, is, bv, iv, _, hok, h1⟩ := Bears.spn.1 h
  obtain ⟨ia, ic, rfl, _⟩ := h1.pull4.rowForm
  obtain ⟨_, _, c2, _, _, _, _⟩ := h1.spcCells
  obtain ⟨_, d1, _⟩ := h1.pull2.stCells
  have hil := hok.ilen
  have hni : n < is.length := by omega
  obtain ⟨e1, e2⟩ := hok.ino n hn
  obtain ⟨ra, rc, e3⟩ := hok.iform n hn
  rw [ifree_pad e1]
  have hmem : is.getD n default ∈ is := by rw [List.getD_eq_getElem?_getD, List.getElem?_eq_getElem hni]; exact List.getElem_mem hni
  have hby := hok.itell _ hmem w h.right.left
  obtain ⟨gi, rfl, _⟩ := h1.pull4.rowAt (k := n) hni
  have hc := h1.pull4.rowCell (i := n) hni (v := (is.getD n default).1) (by rw [List.getElem?_map, List.getD_eq_getElem?_getD, List.getElem?_eq_getElem hni]; rfl)
  generalize is.getD n default = r at e2 e3 hby hc
  obtain ⟨rv, rs⟩ := r
  simp only at e2 e3 hby hc
  subst e3
  rw [hil] at d1
  have hnI : (n : Int) < 256 := by omega
  clear hmem e1 hil hok h
  rcases e2 with rfl | h32
  · have hp : ((padI []).getD 0 0 == 0) = true := rfl
    rw [hp]
    clear hby
    go_enter Tryz.func86, Tryz.ntmps86
    go_wp2_with fail
    go_ret
    exact ⟨rfl, rfl⟩
  · have hne : rs ≠ [] := by intro e; rw [e] at h32; simp at h32
    have hp : padI rs = rs := by unfold padI; rw [if_neg hne]
    rw [hp]
    obtain ⟨bb, bo, rfl, hb0⟩ := hby.cell (j := 0) (by omega)
    have hl0 : ((rs.length : Int) == 0) = false := by rw [h32]; rfl
    have H32 := Lib.hid h32
    rw [Nat.add_zero] at hb0
    have hz : ((rs.getD 0 0) == 0) = (((rs.getD 0 0).toNat : Int) == 0) := by
      generalize rs.getD 0 0 = u
      rw [Bool.eq_iff_iff, beq_iff_eq, beq_iff_eq]
      constructor
      · rintro rfl; rfl
      · intro h
        exact UInt8.toNat_inj.1 (by simpa using h)
    rw [hz]
    unfold byteV at hb0
    generalize ((rs.getD 0 0).toNat : Int) = u at hb0
    have hrl : (0 : Int) < (rs.length : Int) := by omega
    clear hz hp hne hby h32
    go_enter Tryz.func86, Tryz.ntmps86
    go_wp2_with fail
    go_ret
    exact ⟨rfl, rfl⟩

set_option maxRecDepth 100000 in
set_option maxHeartbeats 800000 in
theorem rsinodes_any (h : Bears w (spcA y Y len S * (Y * R))) :
    Calls Tryz.prog 54 #[.pointer (some ⟨y, 0, none⟩)] w fun e w' => e = .returned (.int .i64 (ifreeTo len S.G 256)) ∧ w = w' := by
  go_enter Tryz.func54, Tryz.ntmps54
  go_wp2_with fail
  go_loopw [3, 4] (fun v iv wr => ∃ j : Nat, j ≤ 256 ∧ iv = .int .i64 j ∧ v = .int .i64 (ifreeTo len S.G j) ∧ w = wr) (fun _ iv _ => 256 - (intOf iv).toNat)
  case atStart => exact ⟨0, by omega, rfl, rfl, rfl⟩
  case round =>
    obtain ⟨j, hj, rfl, rfl, rfl⟩ := hrel
    by_cases hlt : j < 256
    · have hf := rsfree_any h j hlt
      have e1 : ifreeTo len S.G (j + 1) = ifreeTo len S.G j + (ifreeB len S.G j).toNat := rfl
      have hle := ifreeTo_le len S.G j
      have hltI : (j : Int) < 256 := by omega
      generalize ifreeB len S.G j = fb at hf e1
      generalize hq : ifreeTo len S.G j = q at *
      have Hf := Lib.hid hf
      have E1 := Lib.hid e1
      clear hf e1 hq
      go_wp2_with fail
      refine Hf.out.mono ?_
      rintro e w' ⟨rfl, rfl⟩
      cases fb with
      | true =>
        go_wp2_with fail
        go_roundw
        case rel => exact ⟨j + 1, hlt, by go_num, by rw [E1.out]; go_num, by simp⟩
        case measure => simp [intOf]; omega
      | false =>
        go_wp2_with fail
        go_roundw
        case rel => exact ⟨j + 1, hlt, by go_num, by rw [E1.out]; go_num, by simp⟩
        case measure => simp [intOf]; omega
    · obtain rfl : j = 256 := by omega
      go_wp2_with fail
      go_ret
      exact ⟨rfl, rfl⟩
end

end Go.Proofs.YtcggloceabjjdaaGreat
