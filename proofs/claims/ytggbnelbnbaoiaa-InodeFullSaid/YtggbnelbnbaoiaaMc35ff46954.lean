/- Texts of this claim, put together: IFullW; no condition. -/
import Derived.Test.YtggbnelbnbaoiaaInodeCostsB14

/- InodeFull walked; no condition. -/
namespace Go.Proofs.Ytggbnelbnbaoiaa
open Go.RowKit Go.MapKept

theorem FvM.set_fs {C : FvM} {n : Nat} {f : FileM} {b : Int} : (C.set n f b).fs = updF C.fs n f := rfl
/-- i files, and room. -/
structure FullS (i : Nat) (C : FvM) : Prop where
  old : ∀ m, m < i → (C.fs m).kind ≠ 0
  new : ∀ m, i ≤ m → m < 256 → C.fs m = noFile
  lo : 0 ≤ C.fr
  hi : C.fr ≤ 273
theorem full_start : FullS 0 (fresh0 1024) := ⟨fun m hm => by omega, fun m _ _ => rfl, by decide, by decide⟩
theorem full_make {i : Nat} {C : FvM} (h : FullS i C) (hi : i < 256) : C.make 1 = ((i : Int), 0, C.set i ⟨1, 1, []⟩ 0) :=
  FvM.make_ok hi (by rw [h.new i (Nat.le_refl _) hi]; rfl) h.old (kd := 1) (.inl rfl)
theorem full_made {i : Nat} {C : FvM} (h : FullS i C) : FullS (i + 1) (C.set i ⟨1, 1, []⟩ 0) := by
  refine ⟨fun m hm => ?_, fun m h1 h2 => ?_, by rw [FvM.set_zero]; exact h.lo, by rw [FvM.set_zero]; exact h.hi⟩
  · by_cases e : m = i
    · subst e; rw [FvM.set_fs, updF_self]; exact Nat.one_ne_zero
    · rw [FvM.set_fs, updF_ne e]; exact h.old m (by omega)
  · rw [FvM.set_fs, updF_ne (by omega)]; exact h.new m (by omega) h2
/-- A write into an empty file. -/
theorem full_write {i : Nat} {C : FvM} (h : FullS (i + 1) C) (hi : i < 256) (hf : C.fs i = ⟨1, 1, []⟩) {a : Nat} {b : List UInt8} (hmx : a + b.length ≤ 16384) {need : Int} (hneed : need = if b = [] then 0 else costI ((a + b.length : Nat) : Int)) :
    (C.fr < need ∧ C.write i a b = (3, C)) ∨ (need ≤ C.fr ∧ ∃ C', C.write i a b = (0, C') ∧ FullS (i + 1) C' ∧ C'.fr = C.fr - need ∧ (C'.fs i).kind = 1 ∧ (C'.fs i).links = 1 ∧ (C'.fs i).data.length = if b = [] then 0 else a + b.length) := by
  have hno : ¬ C.no i := by unfold FvM.no; rw [Int.toNat_natCast, hf]; simp only; omega
  have hw : C.write i a b = if b = [] then (0, C) else if C.fr < costD (wrD [] a b) - costD [] then (3, C) else (0, C.set i ⟨1, 1, wrD [] a b⟩ (costD [] - costD (wrD [] a b))) := by
    unfold FvM.write
    rw [if_neg hno, if_neg (by omega), if_neg (by omega), Int.toNat_natCast, Int.toNat_natCast, hf]
  rw [hw]
  by_cases hb : b = []
  · rw [if_pos hb] at hneed ⊢
    refine .inr ⟨by rw [hneed]; exact h.lo, C, rfl, h, by omega, by rw [hf], by rw [hf], by rw [hf, if_pos hb]; rfl⟩
  · rw [if_neg hb] at hneed ⊢
    have hc : costD (wrD [] a b) = need := by
      rw [hneed, costI_nat (by omega), wrD_cost]
      congr 3
    have hn0 : 0 ≤ need := by rw [← hc]; unfold costD; omega
    rw [hc, costD_nil]
    by_cases hf2 : C.fr < need - 0
    · rw [if_pos hf2]
      exact .inl ⟨by omega, rfl⟩
    · rw [if_neg hf2]
      refine .inr ⟨by omega, _, rfl, ⟨fun m hm => ?_, fun m h1 h2 => ?_, ?_, ?_⟩, ?_, ?_, ?_, ?_⟩
      · by_cases e : m = i
        · subst e; rw [FvM.set_fs, updF_self]; exact Nat.one_ne_zero
        · rw [FvM.set_fs, updF_ne e]; exact h.old m hm
      · rw [FvM.set_fs, updF_ne (by omega)]; exact h.new m h1 h2
      · show 0 ≤ C.fr + (0 - need); omega
      · have := h.hi; show C.fr + (0 - need) ≤ 273; omega
      · show C.fr + (0 - need) = _; omega
      · rw [FvM.set_fs, updF_self]
      · rw [FvM.set_fs, updF_self]
      · rw [FvM.set_fs, updF_self, if_neg hb]; show (wrD [] a b).length = _; rw [wrD_length]; show max 0 (a + b.length) = _; omega
theorem full_small {n : Nat} (h : n ≤ 16384) : costI ((n : Nat) : Int) ≤ 300 ∧ 0 ≤ costI ((n : Nat) : Int) := ⟨(costI_b h).2, (costI_b h).1⟩

set_option maxRecDepth 100000 in
set_option maxHeartbeats 1000000 in
theorem inodeFull_walk {R : Assn} {w : World} (h : Bears w R) {ad : Option Addr} {ln cap : Nat} {l : List Int} (hl : R.Tells (fun w => IntsIn w (.slice ad ln cap) l)) (hll : l.length = ln) (hlb : ∀ x ∈ l, -9223372036854775808 ≤ x ∧ x ≤ 9223372036854775807) (x1 x2 : Int) (h1 : -9223372036854775808 ≤ x1 ∧ x1 ≤ 9223372036854775807) (h2 : -9223372036854775808 ≤ x2 ∧ x2 ≤ 9223372036854775807) :
    Calls Try.prog 4 #[.slice ad ln cap, .int .i64 x1, .int .i64 x2] w fun e w' => e = .returned (.bool true) ∧ Bears w' R := by
  have k1 := fun w => kind5_any x1 16384 w h1 (by omega)
  obtain ⟨a, ha, ea⟩ := kindN_lt x1 16384 (by omega)
  rw [show ((16384 : Nat) : Int) = 16384 from rfl] at ea
  simp only [ea] at k1
  have k2 := fun w => kind5_any x2 (16384 - (a : Int) + 1) w h2 (by omega)
  obtain ⟨bn, hbn, eb⟩ := kindN_lt x2 (16384 - a + 1) (by omega)
  rw [show ((16384 - a + 1 : Nat) : Int) = 16384 - (a : Int) + 1 by omega] at eb
  simp only [eb] at k2
  have k0 : ∀ i, i < l.length → ∃ n : Nat, n < 6000 ∧ ∀ w, Calls Try.prog 10 #[.int .i64 (l.getD i 0), .int .i64 6000] w fun e w' => e = .returned (.int .i64 (n : Int)) ∧ w = w' := by
    intro i hi
    have hb : -9223372036854775808 ≤ l.getD i 0 ∧ l.getD i 0 ≤ 9223372036854775807 := by
      rw [List.getD_eq_getElem?_getD, List.getElem?_eq_getElem hi]
      exact hlb _ (List.getElem_mem hi)
    obtain ⟨n, hn, en⟩ := kindN_lt (l.getD i 0) 6000 (by omega)
    refine ⟨n, hn, fun w => ?_⟩
    rw [show ((6000 : Nat) : Int) = 6000 from rfl] at en
    have := kind5_any (l.getD i 0) 6000 w hb (by omega)
    rw [en] at this
    exact this
  have hcell : ∀ w' Q i, Bears w' (Q * R) → i < l.length → ∃ b o, ad = some ⟨b, o, none⟩ ∧ w'.cell? ⟨b, o + i, none⟩ = some (.int .i64 (l.getD i 0)) := by
    intro w' Q i hw hi
    obtain ⟨b, o, rfl, hr⟩ := (hl _ hw.right).at (by intro e; rw [e] at hi; simp at hi)
    exact ⟨b, o, rfl, (hl _ hw.right).cell hi⟩
  have hs0 := full_start
  generalize hC0 : fresh0 1024 = C0 at hs0
  have HC0 := Lib.hid hC0
  have K0 := Lib.hid k0
  have K1 := Lib.hid k1
  have K2 := Lib.hid k2
  have HL := Lib.hid hll
  have Hcell := Lib.hid hcell
  clear hC0 k0 k1 k2 ea eb hcell hl hlb h1 h2
  have hlnI : (ln : Int) = (l.length : Int) := by omega
  clear hll
  go_enter Try.func4, Try.ntmps4
  go_wp2_with fail
  refine (shown5_any h).mono ?_
  rintro e w1 ⟨rfl, h1⟩
  go_wp2_with fail
  refine (ground5_any (n := 1024) (by omega) (by omega) h1).mono ?_
  rintro e w2 ⟨pd, s, f, d, rfl, hfu, h2⟩
  rw [HC0.out] at h2
  go_upto_block 0 with (fail)
  go_cut [11] (fun v wr => ∃ (k : Nat) (C : FvM) (z : Nat), v = .int .i64 z ∧ z ≤ 30000 ∧ k ≤ 12 ∧ FullS k C ∧ Bears wr (fvA f s pd d 1024 0 true C0 C * R))
  case first =>
    go_wp2_with fail
    go_loopw [11, 12] (fun v iv wr => ∃ (k : Nat) (C : FvM) (z : Nat), v = .int .i64 z ∧ z ≤ 18000 ∧ k ≤ 12 ∧ k ≤ l.length ∧ iv = .int .i64 k ∧ FullS k C ∧ Bears wr (fvA f s pd d 1024 0 true C0 C * R)) (fun _ iv _ => 12 - (intOf iv).toNat)
    case atStart => exact ⟨0, C0, 0, rfl, by omega, by omega, by omega, rfl, hs0, h2⟩
    case round =>
      obtain ⟨k, C, z, rfl, hz, hk, hk2, rfl, hS, h3⟩ := hrel
      have HS := Lib.hid hS
      clear hS
      by_cases hlt : k < l.length ∧ k < 12
      · obtain ⟨hlt, hlt2⟩ := hlt
        obtain ⟨bk, bo, had, hcl⟩ := Hcell.out _ _ k h3 hlt
        subst had
        obtain ⟨n, hn, hkn⟩ := K0.out k hlt
        have i1 : (k : Int) < (ln : Int) := by omega
        generalize l.getD k 0 = y at hcl hkn
        have Hkn := Lib.hid hkn
        clear hkn
        go_wp2_with fail
        refine (Hkn.out _).mono ?_
        rintro e w' ⟨rfl, rfl⟩
        by_cases hbr : 17000 < (z : Int) + (n : Int)
        · go_wp2_with fail
          go_meet
          case rel => exact ⟨k, C, z, rfl, by omega, hk, HS.out, h3⟩
        · have hmv := full_make HS.out (show k < 256 by omega)
          have hfs : (C.set k ⟨1, 1, []⟩ 0).fs k = ⟨1, 1, []⟩ := by rw [FvM.set_fs, updF_self]
          have hw := full_write (full_made HS.out) (show k < 256 by omega) hfs (a := 0) (b := List.replicate n 0) (by simp; omega) rfl
          rw [show ((0 : Nat) : Int) = 0 from rfl] at hw
          have hS1 := full_made HS.out
          generalize C.set k ⟨1, 1, []⟩ 0 = C1 at hmv hw hS1
          have Hmv := Lib.hid hmv
          have Hw := Lib.hid hw
          have HS1 := Lib.hid hS1
          clear hmv hfs hw hS1 HS
          go_wp2_with fail
          refine (fv_make h3 1).mono ?_
          rintro e w4 ⟨rfl, h4⟩
          rw [Hmv.out] at h4 ⊢
          have hmk := run_make_bytes w4 n (by omega)
          have h5 := (h4.alloc (.cells (cellsV (List.replicate n 0)).toArray 5)).objBuf (by unfold maxLen; simp; omega)
          rw [List.length_replicate] at h5
          go_wp2_with fail
          refine (fv_write h5.pull2 k 0 buf_tells (Nat.le_refl _) (by omega)).mono ?_
          rintro e w6 ⟨rfl, h6⟩
          rcases Hw.out with ⟨_, hw⟩ | ⟨_, C2, hw, hS2, _⟩
          · rw [hw] at h6 ⊢
            clear hw hmk
            go_wp2_with fail
            go_roundw
            case rel => exact ⟨k + 1, C1, z + n + 64, by go_num, by omega, by omega, by omega, by go_num, HS1.out, h6.pull2.right⟩
            case measure => simp [intOf]; omega
          · rw [hw] at h6 ⊢
            have HS2 := Lib.hid hS2
            clear hw hmk hS2
            go_wp2_with fail
            go_roundw
            case rel => exact ⟨k + 1, C2, z + n + 64, by go_num, by omega, by omega, by omega, by go_num, HS2.out, h6.pull2.right⟩
            case measure => simp [intOf]; omega
      · go_wp2_with fail
        all_goals
          go_meet
          case rel => exact ⟨k, C, z, rfl, by omega, hk, HS.out, h3⟩
  case' rest =>
    obtain ⟨k, C, z, rfl, hz, hk, hS, h3⟩ := hcut
  obtain ⟨nd, hnd⟩ : ∃ nd : Int, nd = if List.replicate bn (0 : UInt8) = [] then 0 else costI ((a + (List.replicate bn (0 : UInt8)).length : Nat) : Int) := ⟨_, rfl⟩
  obtain ⟨dl, hdl⟩ : ∃ dl : Nat, dl = if List.replicate bn (0 : UInt8) = [] then 0 else a + (List.replicate bn (0 : UInt8)).length := ⟨_, rfl⟩
  have hmv := full_make hS (show k < 256 by omega)
  have hfs : (C.set k ⟨1, 1, []⟩ 0).fs k = ⟨1, 1, []⟩ := by rw [FvM.set_fs, updF_self]
  have hw := full_write (full_made hS) (show k < 256 by omega) hfs (a := a) (b := List.replicate bn 0) (by simp; omega) hnd
  have hlo := (full_made hS).lo
  have hhi := (full_made hS).hi
  have hno1 : ¬ (C.set k ⟨1, 1, []⟩ 0).no k := by unfold FvM.no; rw [Int.toNat_natCast, hfs]; simp only; omega
  have hst1 : (C.set k ⟨1, 1, []⟩ 0).stat k = (0, ⟨1, 1, []⟩) := by unfold FvM.stat; rw [if_neg hno1, Int.toNat_natCast, hfs]
  generalize C.set k ⟨1, 1, []⟩ 0 = C1 at hmv hw hlo hhi hst1
  have Hmv := Lib.hid hmv
  have Hw := Lib.hid hw
  have Hst1 := Lib.hid hst1
  clear hmv hfs hw hS hst1 hno1
  go_wp2_with fail
  refine (fv_make h3 1).mono ?_
  rintro e w4 ⟨rfl, h4⟩
  rw [Hmv.out] at h4 ⊢
  go_wp2_with fail
  refine (K1.out _).mono ?_
  rintro e w' ⟨rfl, rfl⟩
  go_wp2_with fail
  refine (K2.out _).mono ?_
  rintro e w' ⟨rfl, rfl⟩
  have hmk := run_make_bytes w4 bn (by omega)
  have h5 := (h4.alloc (.cells (cellsV (List.replicate bn 0)).toArray 5)).objBuf (by unfold maxLen; simp; omega)
  rw [List.length_replicate] at h5
  go_wp2_with fail
  refine (fv_blocks h5.pull2).mono ?_
  rintro e w6 ⟨rfl, h6⟩
  clear hmk
  have Hdl := Lib.hid hdl
  by_cases hb0 : bn = 0
  · subst hb0
    obtain rfl : nd = 0 := hnd
    have hdl0 : dl = 0 := hdl
    subst hdl0
    clear hdl
    have b0 : ((((0 : Nat) : Int)) == 0) = true := rfl
    by_cases hbig : 22000 < (z : Int) + (a : Int)
    · go_wp2_with fail
      go_ret
      exact ⟨rfl, h6.right.right⟩
    · go_wp2_with fail
      refine (fv_write h6 k a buf_tells (Nat.le_refl _) (by omega)).mono ?_
      rintro e w7 ⟨rfl, h7⟩
      rcases Hw.out with ⟨hn, hw⟩ | ⟨hn, C2, hw, hS2, hf2, hk2, hl2, hd2⟩
      · exfalso; omega
      · rw [hw] at h7 ⊢
        have hst2 : C2.stat k = (0, C2.fs k) := by unfold FvM.stat; rw [if_neg (by unfold FvM.no; rw [Int.toNat_natCast, hk2]; omega), Int.toNat_natCast]
        have hf3 : C2.fr = C1.fr - 0 := hf2
        generalize C2.fs k = fk at hst2 hk2 hl2 hd2
        have Hst2 := Lib.hid hst2
        have hd3 : fk.data.length = 0 := hd2.trans Hdl.out.symm
        generalize hfl : fk.data.length = fl at hd3
        have Hfl := Lib.hid hfl
        have Hk2 := Lib.hid hk2
        have Hl2 := Lib.hid hl2
        have Hf3 := Lib.hid hf3
        have Hd3 := Lib.hid hd3
        clear hw hS2 hf2 hst2 hd2 hfl hk2 hl2 hf3 hd3
        go_wp2_with fail
        refine (fv_stat h7 k).mono ?_
        rintro e w8 ⟨rfl, h8⟩
        rw [Hst2.out]
        simp only [Hfl.out, Hk2.out, Hl2.out]
        have h9 : Bears _ (Assn.obj w8.heap.size (.cells #[.int .i64 1, .int .i64 1, .int .i64 fl] 42 (0, 0)) * (fvA f s pd d 1024 0 true C0 C2 * _)) := h8.alloc (.cells #[.int .i64 ((1 : Nat) : Int), .int .i64 ((1 : Nat) : Int), .int .i64 fl] 42)
        go_wp2_with fail
        refine (fv_blocks h9.pull2).mono ?_
        rintro e w9 ⟨rfl, h10⟩
        rw [Hf3.out]
        have c2 := cell_of_obj h10.pull2.obj 2
        simp only [List.getElem?_toArray, List.getElem?_cons_zero, List.getElem?_cons_succ] at c2
        have wf : IntKind.i64.wrap (C1.fr - 0) = C1.fr - 0 := IntWalk.i64_in _ (by omega)
        go_wp2_with fail
        go_ret
        exact ⟨rfl, h10.right.right.right⟩
  · have hne : List.replicate bn (0 : UInt8) ≠ [] := by intro e; have := congrArg List.length e; simp at this; omega
    rw [if_neg hne, List.length_replicate] at hnd hdl
    have hb1 : (0 : Int) < (bn : Int) := by omega
    have hb2 : ((bn : Int) == 0) = false := by rw [beq_eq_false_iff_ne]; omega
    have hco := fun w => cost_any ((a : Int) + (bn : Int)) w (by omega)
    have hcb := costI_b (n := a + bn) (by omega)
    rw [← hnd] at hcb
    rw [show ((a + bn : Nat) : Int) = (a : Int) + (bn : Int) by omega] at hnd
    simp only [← hnd] at hco
    have hdI : (dl : Int) = (a : Int) + (bn : Int) := by omega
    have Hco := Lib.hid hco
    have HdI := Lib.hid hdI
    clear hnd hdl hco hne hdI
    go_wp2_with fail
    refine (Hco.out _).mono ?_
    rintro e w' ⟨rfl, rfl⟩
    by_cases hbig : 22000 < (z : Int) + (a : Int) + (bn : Int)
    · go_wp2_with fail
      go_ret
      exact ⟨rfl, h6.right.right⟩
    · go_wp2_with fail
      refine (fv_write h6 k a buf_tells (Nat.le_refl _) (by omega)).mono ?_
      rintro e w7 ⟨rfl, h7⟩
      rcases Hw.out with ⟨hn, hw⟩ | ⟨hn, C2, hw, hS2, hf2, hk2, hl2, hd2⟩
      · rw [hw] at h7 ⊢
        clear hw
        go_wp2_with fail
        refine (fv_stat h7 k).mono ?_
        rintro e w8 ⟨rfl, h8⟩
        rw [Hst1.out]
        have h9 : Bears _ (Assn.obj w8.heap.size (.cells #[.int .i64 1, .int .i64 1, .int .i64 0] 42 (0, 0)) * (fvA f s pd d 1024 0 true C0 C1 * _)) := h8.alloc (.cells #[.int .i64 1, .int .i64 1, .int .i64 0] 42)
        go_wp2_with fail
        refine (fv_blocks h9.pull2).mono ?_
        rintro e w9 ⟨rfl, h10⟩
        have c2 := cell_of_obj h10.pull2.obj 2
        simp only [List.getElem?_toArray, List.getElem?_cons_zero, List.getElem?_cons_succ] at c2
        go_wp2_with fail
        go_ret
        exact ⟨rfl, h10.right.right.right⟩
      · rw [hw] at h7 ⊢
        have hst2 : C2.stat k = (0, C2.fs k) := by unfold FvM.stat; rw [if_neg (by unfold FvM.no; rw [Int.toNat_natCast, hk2]; omega), Int.toNat_natCast]
        have hf3 : C2.fr = C1.fr - nd := hf2
        generalize C2.fs k = fk at hst2 hk2 hl2 hd2
        have Hst2 := Lib.hid hst2
        have hd3 : fk.data.length = dl := hd2.trans Hdl.out.symm
        generalize hfl : fk.data.length = fl at hd3
        have Hfl := Lib.hid hfl
        have Hk2 := Lib.hid hk2
        have Hl2 := Lib.hid hl2
        have Hf3 := Lib.hid hf3
        have Hd3 := Lib.hid hd3
        clear hw hS2 hf2 hst2 hd2 hfl hk2 hl2 hf3 hd3
        go_wp2_with fail
        refine (fv_stat h7 k).mono ?_
        rintro e w8 ⟨rfl, h8⟩
        rw [Hst2.out]
        simp only [Hfl.out, Hk2.out, Hl2.out]
        have h9 : Bears _ (Assn.obj w8.heap.size (.cells #[.int .i64 1, .int .i64 1, .int .i64 fl] 42 (0, 0)) * (fvA f s pd d 1024 0 true C0 C2 * _)) := h8.alloc (.cells #[.int .i64 ((1 : Nat) : Int), .int .i64 ((1 : Nat) : Int), .int .i64 fl] 42)
        go_wp2_with fail
        refine (fv_blocks h9.pull2).mono ?_
        rintro e w9 ⟨rfl, h10⟩
        rw [Hf3.out]
        have c2 := cell_of_obj h10.pull2.obj 2
        simp only [List.getElem?_toArray, List.getElem?_cons_zero, List.getElem?_cons_succ] at c2
        have wf : IntKind.i64.wrap (C1.fr - nd) = C1.fr - nd := IntWalk.i64_in _ (by omega)
        go_wp2_with fail
        go_ret
        exact ⟨(by show Ending.returned (.bool ((fl : Int) == (a : Int) + (bn : Int))) = _; rw [Hd3.out, HdI.out]; simp), h10.right.right.right⟩

end Go.Proofs.Ytggbnelbnbaoiaa
