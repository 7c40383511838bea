/- Texts of this claim, put together: AllocW7, AllocW8, AllocW9, AllocW10, AllocW11, AllocW12, AllocW13; no condition. -/
import Derived.Test.YtcggloceabjjdaaGreatMfa81560253
import Derived.ChangeKeysEq

set_option linter.unusedSimpArgs false
set_option linter.unusedVariables false

/- Walks of the space's functions, part 7: SetInode, free; no condition. -/
namespace Go.Proofs.YtcggloceabjjdaaGreat
open Go.RowKit Go.MapKept

theorem copy_row {w : World} {g o c dLen dCap sn sc : Nat} {l s : List UInt8} {ad : Option Addr} {R : Assn} (h : Bears w (rowA 5 1 (.slice (some ⟨g, 0, none⟩) 64 c) 64 (cellsV l) * R)) (hl : l.length = 64) (hs : R.Tells (fun w => BytesIn w (.slice ad sn sc) s))
    (hne : s ≠ []) (hn : s.length ≤ dLen) (hfit : o + s.length ≤ 64) :
    ∃ w', (Builtin.copy_ #[34, 34] 3 #[.slice (some ⟨g, o, none⟩) dLen dCap, .slice ad sn sc]).run Tryz.prog w = .ok (goInt s.length) w' ∧
      Bears w' (rowA 5 1 (.slice (some ⟨g, 0, none⟩) 64 c) 64 (cellsV (putAt l o s)) * R) := by
  obtain rfl : sn = s.length := (hs _ h.right).len
  obtain ⟨b, so, rfl, hr⟩ := (hs _ h.right).at hne
  have hrun := run_copy_cells (P := Tryz.prog) w 34 34 3 5 g o dLen dCap ⟨b, so, none⟩ s.length sc (cellsV s) u_bytes (by kernel_rfl) (by simp [Nat.min_eq_left hn])
    (fun j v hv => by
      have := hr j v hv
      unfold Addr.add
      by_cases hj : j = 0
      · subst hj; simpa using this
      · simpa [hj] using this)
    (fun j hj => by
      simp only [length_cellsV] at hj
      rw [h.rowCell (i := o + j) (by omega) (v := (cellsV l)[o + j]'(by simp; omega)) (List.getElem?_eq_getElem _)]
      rfl)
    (fun j hj => h.rowFrozen _) (oneCell_cellsV s)
  rw [length_cellsV] at hrun
  refine ⟨_, hrun, ?_⟩
  have h2 := h.rowSets (cellsV s) o (by simp; omega)
  rw [setList_cellsV (by omega)] at h2
  exact h2

set_option maxRecDepth 100000 in
set_option maxHeartbeats 800000 in
theorem setinode_closed {s p len g : Nat} {k : List Nat} {d : DiskM} {F G : Nat → Sec} {R : Assn} {w : World} (h : Bears w (spA s p d len g k false F G * R)) (n : Int) (v : Value) :
    Calls Tryz.prog 44 #[.pointer (some ⟨s, 0, none⟩), .int .i64 n, v] w fun e w' => e = .returned (.int .i64 30) ∧ Bears w' (spA s p d len g k false F G * R) := by
  go_enter Tryz.func44, Tryz.ntmps44
  go_wp2_with fail
  refine (busy_any h).mono ?_
  rintro e w1 ⟨rfl, h1⟩
  go_wp2_with fail
  go_ret
  exact ⟨rfl, h1⟩
set_option maxRecDepth 100000 in
set_option maxHeartbeats 800000 in
theorem setinode_bad {s p len g : Nat} {k : List Nat} {d : DiskM} {F G : Nat → Sec} {R : Assn} {w : World} (h : Bears w (spA s p d len g k true F G * R)) (n : Int) (v : Value) (hn : n < 0 ∨ 256 ≤ n) :
    Calls Tryz.prog 44 #[.pointer (some ⟨s, 0, none⟩), .int .i64 n, v] w fun e w' => e = .returned (.int .i64 40) ∧ Bears w' (spA s p d len g k true F G * R) := by
  have hin := fun w => inode_no (s := s) (w := w) n hn
  clear hn
  go_enter Tryz.func44, Tryz.ntmps44
  go_wp2_with fail
  refine (busy_any h).mono ?_
  rintro e w1 ⟨rfl, h1⟩
  go_wp2_with fail
  refine (hin w1).mono ?_
  rintro e w2 ⟨rfl, rfl⟩
  go_wp2_with fail
  go_ret
  exact ⟨rfl, h1⟩
/-- What the setting of an inode answers, and what is at hand behind it. -/
def siN (len : Nat) (G : Nat → Sec) (m : Nat) (b : Sec) : Int × (Nat → Sec) := if b.length = 32 then (0, updS G (iSec len m) (putAt (G (iSec len m)) (iAt m) b)) else (11, G)
theorem putAt64 {l b : Sec} {o : Nat} (hl : l.length = 64) (h : o + b.length ≤ 64) : (putAt l o b).length = 64 := by rw [putAt_length (by omega), hl]

set_option maxRecDepth 100000 in
set_option maxHeartbeats 1000000 in
theorem setinode_any {s p len g : Nat} {k : List Nat} {d : DiskM} {F G : Nat → Sec} {R : Assn} {w : World} (h : Bears w (spA s p d len g k true F G * R)) (m : Nat) (hm : m < 256) {b : Sec} {ad : Option Addr} {bn bc : Nat} (hb : R.Tells (fun w => BytesIn w (.slice ad bn bc) b)) :
    Calls Tryz.prog 44 #[.pointer (some ⟨s, 0, none⟩), .int .i64 m, .slice ad bn bc] w fun e w' => e = .returned (.int .i64 (siN len G m b).1) ∧ Bears w' (spA s p d len g (iSec len m :: k) true F (siN len G m b).2 * R) := by
  obtain ⟨hlo, hhi⟩ := h.spOk
  obtain ⟨hi1, hi2, hi3⟩ := iSec_lt hlo hhi hm
  obtain rfl : bn = b.length := (hb _ h.right).len
  have hin := fun w' (h' : Bears w' (spA s p d len g k true F G * R)) => inode_any h' m hm rfl
  have hr64 : (G (iSec len m)).length = 64 := h.sp64 _
  have hat : iAt m = 0 ∨ iAt m = 32 := by unfold iAt; omega
  obtain ⟨am, ham⟩ : ∃ am, iAt m = am := ⟨_, rfl⟩
  obtain ⟨si, hsi⟩ : ∃ si, iSec len m = si := ⟨_, rfl⟩
  have esi : siN len G m b = if b.length = 32 then (0, updS G si (putAt (G si) am b)) else (11, G) := by unfold siN; rw [hsi, ham]
  rw [esi, hsi]
  simp only [ham, hsi] at hin hr64 hat hi1 hi2
  clear ham hsi esi hm
  have H64 := Lib.hid hr64
  have Hin := Lib.hid hin
  have Hat := Lib.hid hat
  clear hr64 hin hat
  by_cases hl : b.length = 32
  · rw [if_pos hl]
    have Hl := Lib.hid hl
    have hne : b ≠ [] := by intro e; rw [e] at hl; cases hl
    have Hne := Lib.hid hne
    rw [hl] at hb ⊢
    clear hl hne
    go_enter Tryz.func44, Tryz.ntmps44
    go_wp2_with fail
    refine (busy_any h).mono ?_
    rintro e w1 ⟨rfl, h1⟩
    go_wp2_with fail
    refine (Hin.out w1 h1).mono ?_
    rintro e w2 ⟨ad2, cap, rfl, h2⟩
    obtain ⟨rg, rfl, _⟩ := h2.rowAt (k := 0) (by omega)
    obtain ⟨_, cap', e1, hcap, _⟩ := h2.rowForm
    simp only [Value.slice.injEq] at e1
    obtain ⟨-, -, rfl⟩ := e1
    have hfin : ∀ w3, Bears w3 (rowA 5 1 (.slice (some ⟨rg, 0, none⟩) 64 cap) 64 (cellsV (putAt (G si) am b)) * (spA s p d len g k true F G * R)) → ∃ c, w3.cell? ⟨s, 0, none⟩ = some (.pointer (some ⟨c, 0, none⟩)) ∧
        Calls Tryz.prog 69 #[.pointer (some ⟨c, 0, none⟩), .int .i64 si, .slice (some ⟨rg, 0, none⟩) 64 cap] w3 fun e w' => e = .returned (.int .i64 0) ∧ Bears w' (spA s p d len g (si :: k) true F (updS G si (putAt (G si) am b)) * R) := by
      intro w3 h3
      obtain ⟨c, x, hok, h4⟩ := Bears.sp.1 h3.pull2
      have hpl : (putAt (G si) am b).length = 64 := putAt64 H64.out (by have := Hat.out; have := Hl.out; omega)
      have hwr := vwrite_any (i := (si : Int)) (b := putAt (G si) am b) h4.push3 hok.size (fun w' hw' => rowA_bytes hpl.symm _ hw'.right.right) hpl (by omega) (by omega) (by omega)
      rw [Int.toNat_natCast] at hwr
      refine ⟨c, (sp_cells h4).1, hwr.mono ?_⟩
      rintro e w' ⟨rfl, h5⟩
      exact ⟨rfl, Bears.sp.2 ⟨c, x, hok.put _ hpl, (h5.cast (by ac_rfl) : Bears _ (rowA 5 1 _ 64 _ * (spObj s c x len * (cvA c p x len 1 620 F _ (_ :: k) true * (diskA p d * (walObj x p 1 620 (g : Int) * R)))))).right⟩⟩
    have Hfin := Lib.hid hfin
    clear hfin
    rcases Hat.out with rfl | rfl
    · obtain ⟨w3, hcp, h3⟩ := copy_row (o := 0) (dLen := 64) (dCap := cap) h2 H64.out hb.right Hne.out (by rw [Hl.out]; decide) (by rw [Hl.out]; decide)
      obtain ⟨c, c0, hwr⟩ := Hfin.out w3 h3
      go_wp2_with (refine wpList_op rfl (exec_copy rfl rfl rfl hcp) ?_)
      refine hwr.mono ?_
      rintro e w4 ⟨rfl, h4⟩
      go_wp2_with fail
      go_ret
      exact ⟨rfl, h4⟩
    · obtain ⟨w3, hcp, h3⟩ := copy_row (o := 32) (dLen := 32) (dCap := cap - 32) h2 H64.out hb.right Hne.out (by rw [Hl.out]; decide) (by rw [Hl.out]; decide)
      obtain ⟨c, c0, hwr⟩ := Hfin.out w3 h3
      go_wp2_with (refine wpList_op rfl (exec_copy rfl rfl rfl hcp) ?_)
      refine hwr.mono ?_
      rintro e w4 ⟨rfl, h4⟩
      go_wp2_with fail
      go_ret
      exact ⟨rfl, h4⟩
  · rw [if_neg hl]
    have hne : ((b.length : Int) != 32) = true := by rw [bne_iff_ne]; omega
    clear hl
    go_enter Tryz.func44, Tryz.ntmps44
    go_wp2_with fail
    refine (busy_any h).mono ?_
    rintro e w1 ⟨rfl, h1⟩
    go_wp2_with fail
    refine (Hin.out w1 h1).mono ?_
    rintro e w2 ⟨ad2, cap, rfl, h2⟩
    go_wp2_with fail
    go_ret
    obtain ⟨c, x, hok, h3⟩ := Bears.sp.1 h2.right
    exact ⟨rfl, Bears.sp.2 ⟨c, x, hok, (h3.pull2.cvMore _).pull2⟩⟩

/-- Is an inode free? -/
def ifreeB (len : Nat) (G : Nat → Sec) (m : Nat) : Bool := (G (iSec len m)).getD (iAt m) 0 == 0
set_option maxRecDepth 100000 in
set_option maxHeartbeats 800000 in
theorem ifree_any {s p len g : Nat} {k : List Nat} {d : DiskM} {op : Bool} {F G : Nat → Sec} {R : Assn} {w : World} (h : Bears w (spA s p d len g k op F G * R)) (m : Nat) (hm : m < 256) :
    Calls Tryz.prog 65 #[.pointer (some ⟨s, 0, none⟩), .int .i64 m] w fun e w' => e = .returned (.bool (ifreeB len G m)) ∧ Bears w' (spA s p d len g k op F G * R) := by
  have hin := sinode_any h m hm rfl
  have hr64 : (G (iSec len m)).length = 64 := h.sp64 _
  have hat : iAt m < 64 := by unfold iAt; omega
  unfold ifreeB
  obtain ⟨am, ham⟩ : ∃ am, iAt m = am := ⟨_, rfl⟩
  obtain ⟨r, hr⟩ : ∃ r, G (iSec len m) = r := ⟨_, rfl⟩
  rw [ham, hr] at hin
  rw [ham] at hat ⊢
  rw [hr] at hr64 ⊢
  obtain ⟨cb, hcb⟩ : ∃ cb, r.getD am 0 = cb := ⟨_, rfl⟩
  rw [hcb]
  have e0 : (cb == 0) = ((cb.toNat : Int) == 0) := by
    rw [Bool.eq_iff_iff, beq_iff_eq, beq_iff_eq]
    constructor
    · rintro rfl; rfl
    · intro h; exact UInt8.toNat_inj.1 (by show cb.toNat = 0; omega)
  rw [e0]
  obtain ⟨cn, hcn⟩ : ∃ cn : Int, (cb.toNat : Int) = cn := ⟨_, rfl⟩
  rw [hcn]
  have Hcn := Lib.hid hcn
  clear hcn e0
  have Hcb := Lib.hid hcb
  have H64 := Lib.hid hr64
  clear h hm ham hr hcb hr64
  go_enter Tryz.func65, Tryz.ntmps65
  go_wp2_with fail
  refine hin.mono ?_
  rintro e w1 ⟨b, cap, rfl, h1⟩
  have hcell := h1.rowCell (i := am) hat (v := byteV cb) (by simp [cellsV, H64.out, hat, ← Hcb.out])
  unfold byteV at hcell
  rw [Hcn.out] at hcell
  go_wp2_with fail
  go_ret
  exact ⟨rfl, h1.right⟩

end Go.Proofs.YtcggloceabjjdaaGreat

/- Walks of the space's functions, part 8: Blocks, Inodes; no condition. -/
namespace Go.Proofs.YtcggloceabjjdaaGreat
open Go.RowKit Go.MapKept

/-- How many bits are 1 in the first j bytes. -/
def onesTo (r : Sec) : Nat → Nat
  | 0 => 0
  | j + 1 => onesTo r j + Lib.onesCount (r.getD j 0).toNat
/-- How many bits are 1 in the first i sectors of bits. -/
def usedTo (G : Nat → Sec) : Nat → Nat
  | 0 => 0
  | i + 1 => usedTo G i + onesTo (G (621 + i)) 64
theorem ones8 : ∀ x : Fin 256, Lib.onesCount x.val ≤ 8 := by decide +kernel
theorem onesTo_le (r : Sec) : ∀ j, onesTo r j ≤ 8 * j
  | 0 => Nat.le_refl _
  | j + 1 => by
    have h1 := onesTo_le r j
    have h2 := ones8 ⟨(r.getD j 0).toNat, (r.getD j 0).toNat_lt⟩
    simp only [onesTo] at h2 ⊢
    omega
theorem usedTo_le (G : Nat → Sec) : ∀ i, usedTo G i ≤ 512 * i
  | 0 => Nat.le_refl _
  | i + 1 => by
    have h1 := usedTo_le G i
    have h2 := onesTo_le (G (621 + i)) 64
    simp only [usedTo]
    omega
def blkN (len : Nat) (G : Nat → Sec) : Int := ((len - firstB len : Nat) : Int) - usedTo G (mapsN len)
/-- How many of the first i inodes are free. -/
def ifreeTo (len : Nat) (G : Nat → Sec) : Nat → Nat
  | 0 => 0
  | i + 1 => ifreeTo len G i + (ifreeB len G i).toNat
theorem ifreeTo_le (len : Nat) (G : Nat → Sec) : ∀ i, ifreeTo len G i ≤ i
  | 0 => Nat.le_refl _
  | i + 1 => by
    have h1 := ifreeTo_le len G i
    simp only [ifreeTo]
    cases ifreeB len G i <;> simp <;> omega

set_option maxRecDepth 100000 in
set_option maxHeartbeats 1000000 in
theorem sinodes_any {s p len g : Nat} {k : List Nat} {d : DiskM} {op : Bool} {F G : Nat → Sec} {R : Assn} {w : World} (h : Bears w (spA s p d len g k op F G * R)) :
    Calls Tryz.prog 29 #[.pointer (some ⟨s, 0, none⟩)] w fun e w' => e = .returned (.int .i64 (ifreeTo len G 256)) ∧ Bears w' (spA s p d len g k op F G * R) := by
  go_enter Tryz.func29, Tryz.ntmps29
  go_wp2_with fail
  go_loopw [3, 5] (fun n i wr => ∃ j : Nat, j ≤ 256 ∧ i = .int .i64 j ∧ n = .int .i64 (ifreeTo len G j) ∧ Bears wr (spA s p d len g k op F G * R)) (fun _ i _ => 256 - (intOf i).toNat)
  case atStart => exact ⟨0, by omega, rfl, rfl, h⟩
  case round =>
    clear h
    obtain ⟨j, hj, rfl, rfl, h1⟩ := hrel
    by_cases hlt : j < 256
    · have hf := ifree_any h1 j hlt
      have hle := ifreeTo_le len G j
      have e1 : ifreeTo len G (j + 1) = ifreeTo len G j + (ifreeB len G j).toNat := rfl
      obtain ⟨b, hb⟩ : ∃ b, ifreeB len G j = b := ⟨_, rfl⟩
      rw [hb] at hf e1
      obtain ⟨q, hq⟩ : ∃ q, ifreeTo len G j = q := ⟨_, rfl⟩
      rw [hq] at e1 hle ⊢
      have E1 := Lib.hid e1
      clear e1 hb hq
      cases b with
      | true =>
        go_wp2_with fail
        refine hf.mono ?_
        rintro e w2 ⟨rfl, h2⟩
        go_wp2_with fail
        go_roundw
        case rel => exact ⟨j + 1, hlt, by go_num, by rw [E1.out]; simp, h2⟩
        case measure => simp [intOf]; omega
      | false =>
        go_wp2_with fail
        refine hf.mono ?_
        rintro e w2 ⟨rfl, h2⟩
        go_wp2_with fail
        go_roundw
        case rel => exact ⟨j + 1, hlt, by go_num, by rw [E1.out]; simp, h2⟩
        case measure => simp [intOf]; omega
    · obtain rfl : j = 256 := by omega
      go_wp2_with fail
      go_ret
      exact ⟨rfl, h1⟩

set_option maxRecDepth 100000 in
set_option maxHeartbeats 1000000 in
theorem sblocks_any {s p len g : Nat} {k : List Nat} {d : DiskM} {op : Bool} {F G : Nat → Sec} {R : Assn} {w : World} (h : Bears w (spA s p d len g k op F G * R)) :
    Calls Tryz.prog 28 #[.pointer (some ⟨s, 0, none⟩)] w fun e w' => e = .returned (.int .i64 (blkN len G)) ∧ Bears w' (spA s p d len g k op F G * R) := by
  obtain ⟨hlo, hhi⟩ := h.spOk
  have hmf : mapsN len ≤ 16 ∧ 621 + mapsN len ≤ len := by unfold mapsN; omega
  obtain ⟨hm16, hml⟩ := hmf
  have hcells : ∀ w', Bears w' (spA s p d len g k op F G * R) → ∃ c x, SpOk len d g F G ∧ Bears w' (spObj s c x len * (cvA c p x len 1 620 F G k op * (diskA p d * (walObj x p 1 620 (g : Int) * R)))) := fun w' h' => Bears.sp.1 h'
  obtain ⟨c, x, hok, h0⟩ := Bears.sp.1 h
  have hcnt : len - firstB len ≤ 8192 := by omega
  unfold blkN
  obtain ⟨cnt, hcn⟩ : ∃ cnt, len - firstB len = cnt := ⟨_, rfl⟩
  obtain ⟨_, _, c2, _, c4⟩ := sp_cells h0
  rw [hcn] at c4 hcnt ⊢
  obtain ⟨mp, hmp⟩ : ∃ mp, mapsN len = mp := ⟨_, rfl⟩
  rw [hmp] at c2 hm16 hml ⊢
  have Hc := Lib.hid hcells
  clear hcells hok h0 hcn hmp hlo
  go_enter Tryz.func28, Tryz.ntmps28
  go_wp2_with fail
  go_loopw [3, 17] (fun n i wr => ∃ j : Nat, j ≤ mp ∧ i = .int .i64 j ∧ n = .int .i64 ((cnt : Int) - usedTo G j) ∧ Bears wr (spA s p d len g k op F G * R)) (fun _ i _ => mp - (intOf i).toNat)
  case atStart => exact ⟨0, by omega, rfl, by simp [usedTo], h⟩
  case round =>
    clear h c2 c4
    obtain ⟨i, hi, rfl, rfl, h1⟩ := hrel
    have hu := usedTo_le G i
    obtain ⟨u, hu2⟩ : ∃ u, usedTo G i = u := ⟨_, rfl⟩
    have e1 : usedTo G (i + 1) = u + onesTo (G (621 + i)) 64 := by rw [← hu2]; rfl
    rw [hu2] at hu ⊢
    by_cases hlt : i < mp
    · obtain ⟨c, x, hok, h2⟩ := Hc.out _ h1
      obtain ⟨c0, _, _, _, _⟩ := sp_cells h2
      obtain ⟨r, hr⟩ : ∃ r, G (621 + i) = r := ⟨_, rfl⟩
      rw [hr] at e1
      have hsr := sread_any (i := 621 + (i : Int)) hok h2 (by omega) (by omega) (r := r) (by rw [show (621 + (i : Int)).toNat = 621 + i by omega]; exact hr)
      have hr64 : r.length = 64 := by rw [← hr]; exact h1.sp64 _
      have Hok := Lib.hid hok
      have H64 := Lib.hid hr64
      have E1 := Lib.hid e1
      clear hok hr hr64 h2 e1 hu2
      go_wp2_with fail
      refine hsr.mono ?_
      rintro e w2 ⟨ad, cap, rfl, h3⟩
      obtain ⟨rg, rfl, _⟩ := h3.rowAt (k := 0) (by omega)
      go_wp2_with fail
      go_loopw [3, 34] (fun n jv wr => ∃ j : Nat, j ≤ 64 ∧ jv = .int .i64 j ∧ n = .int .i64 ((cnt : Int) - u - onesTo r j) ∧ Bears wr (rowA 5 1 (.slice (some ⟨rg, 0, none⟩) 64 cap) 64 (cellsV r) * (spObj s c x len * (cvA c p x len 1 620 F G k op * (diskA p d * (walObj x p 1 620 (g : Int) * R)))))) (fun _ jv _ => 64 - (intOf jv).toNat)
      case atStart => exact ⟨0, by omega, rfl, by simp [onesTo], h3⟩
      case round =>
        clear h3
        obtain ⟨j, hj, rfl, rfl, h4⟩ := hrel
        have ho := onesTo_le r j
        have e2 : onesTo r (j + 1) = onesTo r j + Lib.onesCount (r.getD j 0).toNat := rfl
        obtain ⟨o, ho2⟩ : ∃ o, onesTo r j = o := ⟨_, rfl⟩
        rw [ho2] at ho e2 ⊢
        by_cases hlj : j < 64
        · obtain ⟨cb, hcb⟩ : ∃ cb, r.getD j 0 = cb := ⟨_, rfl⟩
          have hcell := h4.rowCell (i := j) hlj (v := byteV cb) (by simp [cellsV, H64.out, hlj, ← hcb])
          rw [hcb] at e2
          have hb8 := ones8 ⟨cb.toNat, cb.toNat_lt⟩
          have hcb2 := cb.toNat_lt
          unfold byteV at hcell
          simp only at hb8
          obtain ⟨cn, hcn⟩ : ∃ cn, cb.toNat = cn := ⟨_, rfl⟩
          rw [hcn] at hcell e2 hb8 hcb2
          have hoc := Go.Proofs.Tryz.bits_OnesCount8 (cn : Int) wr (by omega) (by omega)
          rw [Int.toNat_natCast] at hoc
          obtain ⟨oc, hoc2⟩ : ∃ oc, Lib.onesCount cn = oc := ⟨_, rfl⟩
          rw [hoc2] at hoc e2 hb8
          have hli : (j : Int) < 64 := by omega
          have E2 := Lib.hid e2
          clear e2 hcb hcn hoc2 ho2
          go_wp2_with fail
          refine hoc.mono ?_
          rintro e w5 ⟨rfl, rfl⟩
          go_wp2_with fail
          go_roundw
          case rel => exact ⟨j + 1, hlj, by go_num, congrArg (Value.int IntKind.i64) (by rw [E2.out]; omega), h4⟩
          case measure => simp [intOf]; omega
        · obtain rfl : j = 64 := by omega
          rw [← ho2]
          go_wp2_with fail
          go_roundw
          case rel => exact ⟨i + 1, hlt, by go_num, congrArg (Value.int IntKind.i64) (by rw [E1.out]; omega), Bears.sp.2 ⟨c, x, Hok.out, h4.right⟩⟩
          case measure => simp [intOf]; omega
    · obtain rfl : i = mp := by omega
      go_wp2_with fail
      go_ret
      exact ⟨by rw [← hu2]; rfl, h1⟩

end Go.Proofs.YtcggloceabjjdaaGreat

/- Walks of the space's functions, part 9: Alloc; no condition. -/
namespace Go.Proofs.YtcggloceabjjdaaGreat
open Go.RowKit Go.MapKept

theorem tz_spec : ∀ x : Fin 256, x.val ≠ 0 → Lib.trailingZeros8 x.val < 8 ∧ x.val.testBit (Lib.trailingZeros8 x.val) = true ∧ ∀ b : Fin 8, b.val < Lib.trailingZeros8 x.val → x.val.testBit b.val = false := by decide +kernel
theorem and_spec : ∀ x : Fin 256, x.val ≠ 0 → bits BinOp.and IntKind.u8 (x.val : Int) ((x.val : Int) - 1) = ((x.val - 2 ^ Lib.trailingZeros8 x.val : Nat) : Int) := by decide +kernel
theorem low_spec : ∀ (x : Fin 256) (b : Fin 8), x.val ≠ 0 → (x.val - 2 ^ Lib.trailingZeros8 x.val).testBit b.val = (x.val.testBit b.val && !(b.val == Lib.trailingZeros8 x.val)) := by decide +kernel
theorem not_spec : ∀ (x : Fin 256) (b : Fin 8), (255 - x.val).testBit b.val = !x.val.testBit b.val := by decide +kernel
theorem xor_spec : ∀ x : Fin 256, bits BinOp.xor IntKind.u8 IntKind.u8.max (x.val : Int) = ((255 - x.val : Nat) : Int) := by decide +kernel
theorem low_lt : ∀ x : Fin 256, x.val ≠ 0 → 2 ^ Lib.trailingZeros8 x.val ≤ x.val ∧ 0 < 2 ^ Lib.trailingZeros8 x.val := by decide +kernel

/-- Is a block's bit set? -/
def bitN (G : Nat → Sec) (n : Nat) : Bool := bitOf (G (621 + n / 512)) (n % 512)
/-- None of the blocks below N is free. -/
def FullTo (len : Nat) (G : Nat → Sec) (N : Nat) : Prop := ∀ m, m < N → firstB len ≤ m → m < len → bitN G m = true
theorem bitN_at {G : Nat → Sec} {i j b : Nat} (hj : j < 64) (hb : b < 8) : bitN G (512 * i + 8 * j + b) = ((G (621 + i)).getD j 0).toNat.testBit b := by
  unfold bitN bitOf
  rw [show (512 * i + 8 * j + b) / 512 = i by omega, show (512 * i + 8 * j + b) % 512 / 8 = j by omega, show (512 * i + 8 * j + b) % 512 % 8 = b by omega]

set_option maxRecDepth 100000 in
set_option maxHeartbeats 400000 in
theorem salloc_closed {s p len g : Nat} {k : List Nat} {d : DiskM} {F G : Nat → Sec} {R : Assn} {w : World} (h : Bears w (spA s p d len g k false F G * R)) :
    Calls Tryz.prog 30 #[.pointer (some ⟨s, 0, none⟩)] w fun e w' => e = .returned (.tuple #[.int .i64 0, .int .i64 30]) ∧ Bears w' (spA s p d len g k false F G * R) := by
  go_enter Tryz.func30, Tryz.ntmps30
  go_wp2_with fail
  refine (busy_any h).mono ?_
  rintro e w1 ⟨rfl, h1⟩
  go_wp2_with fail
  go_ret2
  exact ⟨rfl, h1⟩

set_option maxRecDepth 100000 in
set_option maxHeartbeats 4000000 in
theorem salloc_any {s p len g : Nat} {k : List Nat} {d : DiskM} {F G : Nat → Sec} {R : Assn} {w : World} (h : Bears w (spA s p d len g k true F G * R)) :
    Calls Tryz.prog 30 #[.pointer (some ⟨s, 0, none⟩)] w fun e w' =>
      (∃ n, firstB len ≤ n ∧ n < len ∧ bitN G n = false ∧ FullTo len G n ∧ e = .returned (.tuple #[.int .i64 n, .int .i64 0]) ∧
        Bears w' (spA s p d len g (n :: (621 + n / 512) :: k) true F (updS (updS G (621 + n / 512) (secSet (G (621 + n / 512)) (n % 512) true)) n zeroSec) * R)) ∨
      (FullTo len G len ∧ e = .returned (.tuple #[.int .i64 0, .int .i64 3]) ∧ Bears w' (spA s p d len g k true F G * R)) := by
  obtain ⟨hlo, hhi⟩ := h.spOk
  have hmp : mapsN len ≤ 16 ∧ 621 + mapsN len ≤ len ∧ len ≤ 512 * mapsN len := by unfold mapsN; omega
  obtain ⟨hm16, hml, hmc⟩ := hmp
  have hfl : firstB len ≤ len := by unfold firstB mapsN; omega
  have hf621 : 621 ≤ firstB len := by unfold firstB; omega
  have hopen : ∀ w', Bears w' (spA s p d len g k true F G * R) → ∃ c x, SpOk len d g F G ∧ Bears w' (spObj s c x len * (cvA c p x len 1 620 F G k true * (diskA p d * (walObj x p 1 620 (g : Int) * R)))) := fun w' h' => Bears.sp.1 h'
  have Hopen := Lib.hid hopen
  clear hopen
  go_enter Tryz.func30, Tryz.ntmps30
  go_wp2_with fail
  refine (busy_any h).mono ?_
  rintro e w1 ⟨rfl, h1⟩
  obtain ⟨c, x, hok, h0⟩ := Hopen.out _ h1
  obtain ⟨_, _, c2, _, _⟩ := sp_cells h0
  obtain ⟨mp, hmpe⟩ : ∃ mp, mapsN len = mp := ⟨_, rfl⟩
  rw [hmpe] at c2 hm16 hml hmc
  have hwr : IntKind.i64.wrap ((firstB len : Int) + ((len - firstB len : Nat) : Int)) = (len : Int) := by rw [IntWalk.i64_in _ (by omega)]; omega
  have hfull0 : FullTo len G 0 := fun m hm => absurd hm (by omega)
  clear hok h0 hmpe h
  go_wp2_with fail
  go_loopw [20] (fun iv wr => ∃ i : Nat, i ≤ mp ∧ iv = .int .i64 i ∧ FullTo len G (512 * i) ∧ Bears wr (spA s p d len g k true F G * R)) (fun iv _ => mp - (intOf iv).toNat)
  case atStart => exact ⟨0, by omega, rfl, hfull0, h1⟩
  case round =>
    clear h1 c2 hfull0
    obtain ⟨i, hi, rfl, hfu, h2⟩ := hrel
    have Hfu := Lib.hid hfu
    clear hfu
    by_cases hlt : i < mp
    · obtain ⟨c, x, hok, h3⟩ := Hopen.out _ h2
      obtain ⟨c0, _, _, _, _⟩ := sp_cells h3
      obtain ⟨r, hr⟩ : ∃ r, G (621 + i) = r := ⟨_, rfl⟩
      have hsr := sread_any (i := 621 + (i : Int)) hok h3 (by omega) (by omega) (r := r) (by rw [show (621 + (i : Int)).toNat = 621 + i by omega]; exact hr)
      have hr64 : r.length = 64 := by rw [← hr]; exact h2.sp64 _
      have Hok := Lib.hid hok
      have H64 := Lib.hid hr64
      have Hr := Lib.hid hr
      clear hok hr hr64 h3 h2
      go_wp2_with fail
      refine hsr.mono ?_
      rintro e w3 ⟨ad, cap, rfl, h4⟩
      obtain ⟨rg, rfl, _⟩ := h4.rowAt (k := 0) (by omega)
      have h5 : Bears w3 (rowA 5 1 (.slice (some ⟨rg, 0, none⟩) 64 cap) 64 (cellsV r) * (spA s p d len g k true F G * R)) := Bears.pull2 (Bears.sp.2 ⟨c, x, Hok.out, h4.cast (by ac_rfl)⟩)
      clear h4 Hok
      go_wp2_with fail
      go_loopw [38] (fun jv wr => ∃ j : Nat, j ≤ 64 ∧ jv = .int .i64 j ∧ FullTo len G (512 * i + 8 * j) ∧ Bears wr (rowA 5 1 (.slice (some ⟨rg, 0, none⟩) 64 cap) 64 (cellsV r) * (spA s p d len g k true F G * R))) (fun jv _ => 64 - (intOf jv).toNat)
      case atStart => exact ⟨0, by omega, rfl, Hfu.out, h5⟩
      case round =>
        clear h5 Hfu
        obtain ⟨j, hj, rfl, hfu, h6⟩ := hrel
        have Hfu := Lib.hid hfu
        clear hfu
        by_cases hlj : j < 64
        · obtain ⟨cb, hcb⟩ : ∃ cb, r.getD j 0 = cb := ⟨_, rfl⟩
          have hcell := h6.rowCell (i := j) hlj (v := byteV cb) (by simp [cellsV, H64.out, hlj, ← hcb])
          have hcb2 := cb.toNat_lt
          unfold byteV at hcell
          have hbit : ∀ b, b < 8 → bitN G (512 * i + 8 * j + b) = cb.toNat.testBit b := fun b hb => by rw [bitN_at hlj hb, Hr.out, hcb]
          obtain ⟨cn, hcn⟩ : ∃ cn, cb.toNat = cn := ⟨_, rfl⟩
          rw [hcn] at hcell hbit hcb2
          have hli : (j : Int) < 64 := by omega
          have Hbit := Lib.hid hbit
          have hxo := xor_spec ⟨cn, hcb2⟩
          simp only at hxo
          have Hxo := Lib.hid hxo
          clear hcb hcn hbit hxo
          go_wp2_with fail
          go_loopw [9] (fun xv wr => ∃ xn : Nat, xn < 256 ∧ xv = .int .u8 (xn : Int) ∧ (∀ b, b < 8 → xn.testBit b = true → cn.testBit b = false) ∧
            (∀ b, b < 8 → xn.testBit b = false → cn.testBit b = true ∨ 512 * i + 8 * j + b < firstB len ∨ len ≤ 512 * i + 8 * j + b) ∧
            Bears wr (rowA 5 1 (.slice (some ⟨rg, 0, none⟩) 64 cap) 64 (cellsV r) * (spA s p d len g k true F G * R))) (fun xv _ => (intOf xv).toNat)
          case atStart =>
            refine ⟨255 - cn, by omega, by rw [Hxo.out], fun b hb h1 => ?_, fun b hb h1 => ?_, h6⟩
            · have := not_spec ⟨cn, hcb2⟩ ⟨b, hb⟩; simp only at this; rw [this] at h1; simpa using h1
            · have := not_spec ⟨cn, hcb2⟩ ⟨b, hb⟩; simp only at this; rw [this] at h1; left; simpa using h1
          case round =>
            clear h6 hcell
            obtain ⟨xn, hx8, rfl, hfree, hrest, h7⟩ := hrel
            have Hfree := Lib.hid hfree
            have Hrest := Lib.hid hrest
            clear hfree hrest
            by_cases hx0 : xn = 0
            · subst hx0
              go_wp2_with fail
              go_roundw
              case rel =>
                refine ⟨j + 1, hlj, by go_num, fun m hm m1 m2 => ?_, h7⟩
                by_cases hmo : m < 512 * i + 8 * j
                · exact Hfu.out m hmo m1 m2
                · obtain ⟨b, rfl⟩ : ∃ b, m = 512 * i + 8 * j + b := ⟨m - (512 * i + 8 * j), by omega⟩
                  rw [Hbit.out b (by omega)]
                  rcases Hrest.out b (by omega) (by simp) with q | q | q
                  · exact q
                  · omega
                  · omega
              case measure => simp [intOf]; omega
            · have hne : ((xn : Int) != 0) = true := by rw [bne_iff_ne]; omega
              have htz := Go.Proofs.Tryz.bits_TrailingZeros8 (xn : Int) wr (by omega) (by omega)
              rw [Int.toNat_natCast] at htz
              obtain ⟨ht8, htb, htl⟩ := tz_spec ⟨xn, hx8⟩ hx0
              have hand := and_spec ⟨xn, hx8⟩ hx0
              have hlow := fun b => low_spec ⟨xn, hx8⟩ b hx0
              have hllt := low_lt ⟨xn, hx8⟩ hx0
              simp only at ht8 htb htl hand hlow hllt
              obtain ⟨t, ht⟩ : ∃ t, Lib.trailingZeros8 xn = t := ⟨_, rfl⟩
              rw [ht] at htz ht8 htb htl hand hllt
              simp only [ht] at hlow
              have Htb := Lib.hid htb
              have Htl := Lib.hid htl
              have Hand := Lib.hid hand
              have Hlow := Lib.hid hlow
              clear hx0 ht htb htl hand hlow
              go_wp2_with fail
              refine htz.mono ?_
              rintro e w8 ⟨rfl, rfl⟩
              go_wp2_with fail
              obtain ⟨n, hn⟩ : ∃ n : Nat, (i : Int) * 512 + 8 * j + t = n := ⟨512 * i + 8 * j + t, by omega⟩
              rw [hn]
              have hnn : n = 512 * i + 8 * j + t := by omega
              have hfulln : FullTo len G n := fun m hm m1 m2 => by
                by_cases hmo : m < 512 * i + 8 * j
                · exact Hfu.out m hmo m1 m2
                · obtain ⟨b, rfl⟩ : ∃ b, m = 512 * i + 8 * j + b := ⟨m - (512 * i + 8 * j), by omega⟩
                  rw [Hbit.out b (by omega)]
                  rcases Hrest.out b (by omega) (Htl.out ⟨b, by omega⟩ (by simp only; omega)) with q | q | q
                  · exact q
                  · omega
                  · omega
              have hbn : bitN G n = false := by rw [hnn, Hbit.out t ht8]; exact Hfree.out t ht8 Htb.out
              have hnext : n < firstB len ∨ len ≤ n → (∀ b, b < 8 → (xn - 2 ^ t).testBit b = true → cn.testBit b = false) ∧
                  (∀ b, b < 8 → (xn - 2 ^ t).testBit b = false → cn.testBit b = true ∨ 512 * i + 8 * j + b < firstB len ∨ len ≤ 512 * i + 8 * j + b) := fun hout => by
                refine ⟨fun b hb hq => ?_, fun b hb hq => ?_⟩
                · have := Hlow.out ⟨b, hb⟩
                  simp only at this
                  rw [this, Bool.and_eq_true] at hq
                  exact Hfree.out b hb hq.1
                · have := Hlow.out ⟨b, hb⟩
                  simp only at this
                  rw [this, Bool.and_eq_false_iff] at hq
                  rcases hq with hq | hq
                  · exact Hrest.out b hb hq
                  · obtain rfl : b = t := by simpa using hq
                    rw [← hnn]; exact .inr hout
              obtain ⟨y, hy⟩ : ∃ y, xn - 2 ^ t = y := ⟨_, rfl⟩
              have hyx : y < xn := by rw [← hy]; omega
              rw [hy] at hnext
              have Hy := Lib.hid hy
              have Hnn := Lib.hid hnn
              have Hfulln := Lib.hid hfulln
              have Hbn := Lib.hid hbn
              have Hnext := Lib.hid hnext
              obtain ⟨c, x, hok, h8⟩ := Bears.sp.1 h7.pull2
              have hu1 : IntKind.u8.wrap ((xn : Int) - 1) = (xn : Int) - 1 := IntWalk.u8_in _ (by omega)
              clear hy hn hnn hfulln hbn hnext htz hllt hok
              by_cases h1 : n < firstB len
              · have hd1 : decide ((n : Int) < (firstB len : Int)) = true := decide_eq_true (by omega)
                have hd1n : decide (n < firstB len) = true := decide_eq_true h1
                have H1 := Lib.hid h1
                clear h1
                refine wp_region_L (fun w' => ∃ Q, Bears w' (spObj s c x len * Q)) 19 [(true, 0), (true, 1), (true, 2), (true, 3), (true, 4), (true, 5), (true, 6), (true, 7), (true, 8), (true, 9), (true, 10), (true, 11), (true, 12), (true, 13), (true, 14), (true, 15), (true, 16), (true, 17), (true, 18)] [] (by kernel_rfl) (by kernel_rfl) ⟨_, h8.drew⟩ ?_
                simp only [pick, List.getElem?_cons_zero, List.getElem?_cons_succ]
                refine wpL_guarded (v := ?_) rfl (fun w' hS => ?_) ?_
                rotate_left
                · (obtain ⟨_, hS⟩ := hS; obtain ⟨_, _, _, c3, c4⟩ := sp_cells hS; go_simp; try with_reducible rfl)
                simp only [Act.put, List.setIfInBounds_toArray, List.set_cons_zero, List.set_cons_succ]
                refine wpL_guarded (v := ?_) rfl (fun w' hS => ?_) ?_
                rotate_left
                · (obtain ⟨_, hS⟩ := hS; obtain ⟨_, _, _, c3, c4⟩ := sp_cells hS; go_simp; try with_reducible rfl)
                simp only [Act.put, List.setIfInBounds_toArray, List.set_cons_zero, List.set_cons_succ]
                refine wpL_guarded (v := ?_) rfl (fun w' hS => ?_) ?_
                rotate_left
                · (obtain ⟨_, hS⟩ := hS; obtain ⟨_, _, _, c3, c4⟩ := sp_cells hS; go_simp; try with_reducible rfl)
                simp only [Act.put, List.setIfInBounds_toArray, List.set_cons_zero, List.set_cons_succ]
                refine wpL_guarded (v := ?_) rfl (fun w' hS => ?_) ?_
                rotate_left
                · (obtain ⟨_, hS⟩ := hS; obtain ⟨_, _, _, c3, c4⟩ := sp_cells hS; go_simp; try with_reducible rfl)
                simp only [Act.put, List.setIfInBounds_toArray, List.set_cons_zero, List.set_cons_succ]
                refine wpL_guarded (v := ?_) rfl (fun w' hS => ?_) ?_
                rotate_left
                · (obtain ⟨_, hS⟩ := hS; obtain ⟨_, _, _, c3, c4⟩ := sp_cells hS; go_simp; try with_reducible rfl)
                simp only [Act.put, List.setIfInBounds_toArray, List.set_cons_zero, List.set_cons_succ]
                refine wpL_guarded (v := ?_) rfl (fun w' hS => ?_) ?_
                rotate_left
                · (obtain ⟨_, hS⟩ := hS; obtain ⟨_, _, _, c3, c4⟩ := sp_cells hS; go_simp; try with_reducible rfl)
                simp only [Act.put, List.setIfInBounds_toArray, List.set_cons_zero, List.set_cons_succ]
                refine wpL_guarded (v := ?_) rfl (fun w' hS => ?_) ?_
                rotate_left
                · (obtain ⟨_, hS⟩ := hS; obtain ⟨_, _, _, c3, c4⟩ := sp_cells hS; go_simp; try with_reducible rfl)
                simp only [Act.put, List.setIfInBounds_toArray, List.set_cons_zero, List.set_cons_succ]
                refine wpL_skip rfl ?_
                simp only [Act.put, List.setIfInBounds_toArray, List.set_cons_zero, List.set_cons_succ]
                refine wpL_skip rfl ?_
                simp only [Act.put, List.setIfInBounds_toArray, List.set_cons_zero, List.set_cons_succ]
                refine wpL_skip rfl ?_
                simp only [Act.put, List.setIfInBounds_toArray, List.set_cons_zero, List.set_cons_succ]
                refine wpL_skip rfl ?_
                simp only [Act.put, List.setIfInBounds_toArray, List.set_cons_zero, List.set_cons_succ]
                refine wpL_skip rfl ?_
                simp only [Act.put, List.setIfInBounds_toArray, List.set_cons_zero, List.set_cons_succ]
                refine wpL_skip rfl ?_
                simp only [Act.put, List.setIfInBounds_toArray, List.set_cons_zero, List.set_cons_succ]
                refine wpL_skip rfl ?_
                simp only [Act.put, List.setIfInBounds_toArray, List.set_cons_zero, List.set_cons_succ]
                refine wpL_skip rfl ?_
                simp only [Act.put, List.setIfInBounds_toArray, List.set_cons_zero, List.set_cons_succ]
                refine wpL_skip rfl ?_
                simp only [Act.put, List.setIfInBounds_toArray, List.set_cons_zero, List.set_cons_succ]
                refine wpL_skip rfl ?_
                simp only [Act.put, List.setIfInBounds_toArray, List.set_cons_zero, List.set_cons_succ]
                refine wpL_skip rfl ?_
                simp only [Act.put, List.setIfInBounds_toArray, List.set_cons_zero, List.set_cons_succ]
                refine wpL_guarded (v := ?_) rfl (fun w' hS => ?_) ?_
                rotate_left
                · (go_simp; try with_reducible rfl)
                simp only [Act.put, List.setIfInBounds_toArray, List.set_cons_zero, List.set_cons_succ]
                refine wpL_nil ?_
                refine wpL_nil ?_
                go_wp2_with fail
                rw [Hand.out, Hy.out]
                exact ⟨⟨y, by omega, rfl, (Hnext.out (.inl H1.out)).1, (Hnext.out (.inl H1.out)).2, h7.drew⟩, by simp [intOf]; omega⟩
              · have hd1 : decide ((n : Int) < (firstB len : Int)) = false := decide_eq_false (by omega)
                have hd1n : decide (n < firstB len) = false := decide_eq_false h1
                by_cases h2 : len ≤ n
                · have hd2 : decide ((n : Int) ≥ (len : Int)) = true := decide_eq_true (by omega)
                  have hd2n : decide (len ≤ n) = true := decide_eq_true h2
                  have H2 := Lib.hid h2
                  clear h1 h2
                  refine wp_region_L (fun w' => ∃ Q, Bears w' (spObj s c x len * Q)) 19 [(true, 0), (true, 1), (true, 2), (true, 3), (true, 4), (true, 5), (true, 6), (true, 7), (true, 8), (true, 9), (true, 10), (true, 11), (true, 12), (true, 13), (true, 14), (true, 15), (true, 16), (true, 17), (true, 18)] [] (by kernel_rfl) (by kernel_rfl) ⟨_, h8.drew⟩ ?_
                  simp only [pick, List.getElem?_cons_zero, List.getElem?_cons_succ]
                  refine wpL_guarded (v := ?_) rfl (fun w' hS => ?_) ?_
                  rotate_left
                  · (obtain ⟨_, hS⟩ := hS; obtain ⟨_, _, _, c3, c4⟩ := sp_cells hS; go_simp; try with_reducible rfl)
                  simp only [Act.put, List.setIfInBounds_toArray, List.set_cons_zero, List.set_cons_succ]
                  refine wpL_guarded (v := ?_) rfl (fun w' hS => ?_) ?_
                  rotate_left
                  · (obtain ⟨_, hS⟩ := hS; obtain ⟨_, _, _, c3, c4⟩ := sp_cells hS; go_simp; try with_reducible rfl)
                  simp only [Act.put, List.setIfInBounds_toArray, List.set_cons_zero, List.set_cons_succ]
                  refine wpL_guarded (v := ?_) rfl (fun w' hS => ?_) ?_
                  rotate_left
                  · (obtain ⟨_, hS⟩ := hS; obtain ⟨_, _, _, c3, c4⟩ := sp_cells hS; go_simp; try with_reducible rfl)
                  simp only [Act.put, List.setIfInBounds_toArray, List.set_cons_zero, List.set_cons_succ]
                  refine wpL_guarded (v := ?_) rfl (fun w' hS => ?_) ?_
                  rotate_left
                  · (obtain ⟨_, hS⟩ := hS; obtain ⟨_, _, _, c3, c4⟩ := sp_cells hS; go_simp; try with_reducible rfl)
                  simp only [Act.put, List.setIfInBounds_toArray, List.set_cons_zero, List.set_cons_succ]
                  refine wpL_guarded (v := ?_) rfl (fun w' hS => ?_) ?_
                  rotate_left
                  · (obtain ⟨_, hS⟩ := hS; obtain ⟨_, _, _, c3, c4⟩ := sp_cells hS; go_simp; try with_reducible rfl)
                  simp only [Act.put, List.setIfInBounds_toArray, List.set_cons_zero, List.set_cons_succ]
                  refine wpL_guarded (v := ?_) rfl (fun w' hS => ?_) ?_
                  rotate_left
                  · (obtain ⟨_, hS⟩ := hS; obtain ⟨_, _, _, c3, c4⟩ := sp_cells hS; go_simp; try with_reducible rfl)
                  simp only [Act.put, List.setIfInBounds_toArray, List.set_cons_zero, List.set_cons_succ]
                  refine wpL_guarded (v := ?_) rfl (fun w' hS => ?_) ?_
                  rotate_left
                  · (obtain ⟨_, hS⟩ := hS; obtain ⟨_, _, _, c3, c4⟩ := sp_cells hS; go_simp; try with_reducible rfl)
                  simp only [Act.put, List.setIfInBounds_toArray, List.set_cons_zero, List.set_cons_succ]
                  refine wpL_guarded (v := ?_) rfl (fun w' hS => ?_) ?_
                  rotate_left
                  · (obtain ⟨_, hS⟩ := hS; obtain ⟨_, _, _, c3, c4⟩ := sp_cells hS; go_simp; try with_reducible rfl)
                  simp only [Act.put, List.setIfInBounds_toArray, List.set_cons_zero, List.set_cons_succ]
                  refine wpL_guarded (v := ?_) rfl (fun w' hS => ?_) ?_
                  rotate_left
                  · (obtain ⟨_, hS⟩ := hS; obtain ⟨_, _, _, c3, c4⟩ := sp_cells hS; go_simp; try with_reducible rfl)
                  simp only [Act.put, List.setIfInBounds_toArray, List.set_cons_zero, List.set_cons_succ]
                  refine wpL_guarded (v := ?_) rfl (fun w' hS => ?_) ?_
                  rotate_left
                  · (obtain ⟨_, hS⟩ := hS; obtain ⟨_, _, _, c3, c4⟩ := sp_cells hS; go_simp; try with_reducible rfl)
                  simp only [Act.put, List.setIfInBounds_toArray, List.set_cons_zero, List.set_cons_succ]
                  refine wpL_guarded (v := ?_) rfl (fun w' hS => ?_) ?_
                  rotate_left
                  · (obtain ⟨_, hS⟩ := hS; obtain ⟨_, _, _, c3, c4⟩ := sp_cells hS; go_simp; try with_reducible rfl)
                  simp only [Act.put, List.setIfInBounds_toArray, List.set_cons_zero, List.set_cons_succ]
                  refine wpL_guarded (v := ?_) rfl (fun w' hS => ?_) ?_
                  rotate_left
                  · (obtain ⟨_, hS⟩ := hS; obtain ⟨_, _, _, c3, c4⟩ := sp_cells hS; go_simp; try with_reducible rfl)
                  simp only [Act.put, List.setIfInBounds_toArray, List.set_cons_zero, List.set_cons_succ]
                  refine wpL_guarded (v := ?_) rfl (fun w' hS => ?_) ?_
                  rotate_left
                  · (obtain ⟨_, hS⟩ := hS; obtain ⟨_, _, _, c3, c4⟩ := sp_cells hS; go_simp; try with_reducible rfl)
                  simp only [Act.put, List.setIfInBounds_toArray, List.set_cons_zero, List.set_cons_succ]
                  refine wpL_guarded (v := ?_) rfl (fun w' hS => ?_) ?_
                  rotate_left
                  · (obtain ⟨_, hS⟩ := hS; obtain ⟨_, _, _, c3, c4⟩ := sp_cells hS; go_simp; try with_reducible rfl)
                  simp only [Act.put, List.setIfInBounds_toArray, List.set_cons_zero, List.set_cons_succ]
                  refine wpL_guarded (v := ?_) rfl (fun w' hS => ?_) ?_
                  rotate_left
                  · (obtain ⟨_, hS⟩ := hS; obtain ⟨_, _, _, c3, c4⟩ := sp_cells hS; go_simp; try with_reducible rfl)
                  simp only [Act.put, List.setIfInBounds_toArray, List.set_cons_zero, List.set_cons_succ]
                  refine wpL_guarded (v := ?_) rfl (fun w' hS => ?_) ?_
                  rotate_left
                  · (obtain ⟨_, hS⟩ := hS; obtain ⟨_, _, _, c3, c4⟩ := sp_cells hS; go_simp; try with_reducible rfl)
                  simp only [Act.put, List.setIfInBounds_toArray, List.set_cons_zero, List.set_cons_succ]
                  refine wpL_guarded (v := ?_) rfl (fun w' hS => ?_) ?_
                  rotate_left
                  · (obtain ⟨_, hS⟩ := hS; obtain ⟨_, _, _, c3, c4⟩ := sp_cells hS; go_simp; try with_reducible rfl)
                  simp only [Act.put, List.setIfInBounds_toArray, List.set_cons_zero, List.set_cons_succ]
                  refine wpL_guarded (v := ?_) rfl (fun w' hS => ?_) ?_
                  rotate_left
                  · (obtain ⟨_, hS⟩ := hS; obtain ⟨_, _, _, c3, c4⟩ := sp_cells hS; go_simp; try with_reducible rfl)
                  simp only [Act.put, List.setIfInBounds_toArray, List.set_cons_zero, List.set_cons_succ]
                  refine wpL_guarded (v := ?_) rfl (fun w' hS => ?_) ?_
                  rotate_left
                  · (obtain ⟨_, hS⟩ := hS; obtain ⟨_, _, _, c3, c4⟩ := sp_cells hS; go_simp; try with_reducible rfl)
                  simp only [Act.put, List.setIfInBounds_toArray, List.set_cons_zero, List.set_cons_succ]
                  refine wpL_nil ?_
                  refine wpL_nil ?_
                  go_wp2_with fail
                  rw [Hand.out, Hy.out]
                  exact ⟨⟨y, by omega, rfl, (Hnext.out (.inr H2.out)).1, (Hnext.out (.inr H2.out)).2, h7.drew⟩, by simp [intOf]; omega⟩
                · have hd2 : decide ((n : Int) ≥ (len : Int)) = false := decide_eq_false (by omega)
                  have hd2n : decide (len ≤ n) = false := decide_eq_false h2
                  have hn1 : firstB len ≤ n ∧ n < len := ⟨by omega, by omega⟩
                  have Hn1 := Lib.hid hn1
                  have hset := set_any h7.pull2.drew n (by omega) true rfl
                  have Hset := Lib.hid hset
                  clear h1 h2 hset hn1
                  refine wp_region_L (fun w' => ∃ Q, Bears w' (spObj s c x len * Q)) 19 [(true, 0), (true, 1), (true, 2), (true, 3), (true, 4), (true, 5), (true, 6), (true, 7), (true, 8), (true, 9), (true, 10), (true, 11), (true, 12), (true, 13), (true, 14), (true, 15), (true, 16), (true, 17), (true, 18)] [] (by kernel_rfl) (by kernel_rfl) ⟨_, h8.drew⟩ ?_
                  simp only [pick, List.getElem?_cons_zero, List.getElem?_cons_succ]
                  refine wpL_guarded (v := ?_) rfl (fun w' hS => ?_) ?_
                  rotate_left
                  · (obtain ⟨_, hS⟩ := hS; obtain ⟨_, _, _, c3, c4⟩ := sp_cells hS; go_simp; try with_reducible rfl)
                  simp only [Act.put, List.setIfInBounds_toArray, List.set_cons_zero, List.set_cons_succ]
                  refine wpL_guarded (v := ?_) rfl (fun w' hS => ?_) ?_
                  rotate_left
                  · (obtain ⟨_, hS⟩ := hS; obtain ⟨_, _, _, c3, c4⟩ := sp_cells hS; go_simp; try with_reducible rfl)
                  simp only [Act.put, List.setIfInBounds_toArray, List.set_cons_zero, List.set_cons_succ]
                  refine wpL_guarded (v := ?_) rfl (fun w' hS => ?_) ?_
                  rotate_left
                  · (obtain ⟨_, hS⟩ := hS; obtain ⟨_, _, _, c3, c4⟩ := sp_cells hS; go_simp; try with_reducible rfl)
                  simp only [Act.put, List.setIfInBounds_toArray, List.set_cons_zero, List.set_cons_succ]
                  refine wpL_guarded (v := ?_) rfl (fun w' hS => ?_) ?_
                  rotate_left
                  · (obtain ⟨_, hS⟩ := hS; obtain ⟨_, _, _, c3, c4⟩ := sp_cells hS; go_simp; try with_reducible rfl)
                  simp only [Act.put, List.setIfInBounds_toArray, List.set_cons_zero, List.set_cons_succ]
                  refine wpL_guarded (v := ?_) rfl (fun w' hS => ?_) ?_
                  rotate_left
                  · (obtain ⟨_, hS⟩ := hS; obtain ⟨_, _, _, c3, c4⟩ := sp_cells hS; go_simp; try with_reducible rfl)
                  simp only [Act.put, List.setIfInBounds_toArray, List.set_cons_zero, List.set_cons_succ]
                  refine wpL_guarded (v := ?_) rfl (fun w' hS => ?_) ?_
                  rotate_left
                  · (obtain ⟨_, hS⟩ := hS; obtain ⟨_, _, _, c3, c4⟩ := sp_cells hS; go_simp; try with_reducible rfl)
                  simp only [Act.put, List.setIfInBounds_toArray, List.set_cons_zero, List.set_cons_succ]
                  refine wpL_guarded (v := ?_) rfl (fun w' hS => ?_) ?_
                  rotate_left
                  · (obtain ⟨_, hS⟩ := hS; obtain ⟨_, _, _, c3, c4⟩ := sp_cells hS; go_simp; try with_reducible rfl)
                  simp only [Act.put, List.setIfInBounds_toArray, List.set_cons_zero, List.set_cons_succ]
                  refine wpL_guarded (v := ?_) rfl (fun w' hS => ?_) ?_
                  rotate_left
                  · (obtain ⟨_, hS⟩ := hS; obtain ⟨_, _, _, c3, c4⟩ := sp_cells hS; go_simp; try with_reducible rfl)
                  simp only [Act.put, List.setIfInBounds_toArray, List.set_cons_zero, List.set_cons_succ]
                  refine wpL_guarded (v := ?_) rfl (fun w' hS => ?_) ?_
                  rotate_left
                  · (obtain ⟨_, hS⟩ := hS; obtain ⟨_, _, _, c3, c4⟩ := sp_cells hS; go_simp; try with_reducible rfl)
                  simp only [Act.put, List.setIfInBounds_toArray, List.set_cons_zero, List.set_cons_succ]
                  refine wpL_guarded (v := ?_) rfl (fun w' hS => ?_) ?_
                  rotate_left
                  · (obtain ⟨_, hS⟩ := hS; obtain ⟨_, _, _, c3, c4⟩ := sp_cells hS; go_simp; try with_reducible rfl)
                  simp only [Act.put, List.setIfInBounds_toArray, List.set_cons_zero, List.set_cons_succ]
                  refine wpL_guarded (v := ?_) rfl (fun w' hS => ?_) ?_
                  rotate_left
                  · (obtain ⟨_, hS⟩ := hS; obtain ⟨_, _, _, c3, c4⟩ := sp_cells hS; go_simp; try with_reducible rfl)
                  simp only [Act.put, List.setIfInBounds_toArray, List.set_cons_zero, List.set_cons_succ]
                  refine wpL_guarded (v := ?_) rfl (fun w' hS => ?_) ?_
                  rotate_left
                  · (obtain ⟨_, hS⟩ := hS; obtain ⟨_, _, _, c3, c4⟩ := sp_cells hS; go_simp; try with_reducible rfl)
                  simp only [Act.put, List.setIfInBounds_toArray, List.set_cons_zero, List.set_cons_succ]
                  refine wpL_guarded (v := ?_) rfl (fun w' hS => ?_) ?_
                  rotate_left
                  · (obtain ⟨_, hS⟩ := hS; obtain ⟨_, _, _, c3, c4⟩ := sp_cells hS; go_simp; try with_reducible rfl)
                  simp only [Act.put, List.setIfInBounds_toArray, List.set_cons_zero, List.set_cons_succ]
                  refine wpL_guarded (v := ?_) rfl (fun w' hS => ?_) ?_
                  rotate_left
                  · (obtain ⟨_, hS⟩ := hS; obtain ⟨_, _, _, c3, c4⟩ := sp_cells hS; go_simp; try with_reducible rfl)
                  simp only [Act.put, List.setIfInBounds_toArray, List.set_cons_zero, List.set_cons_succ]
                  refine wpL_guarded (v := ?_) rfl (fun w' hS => ?_) ?_
                  rotate_left
                  · (obtain ⟨_, hS⟩ := hS; obtain ⟨_, _, _, c3, c4⟩ := sp_cells hS; go_simp; try with_reducible rfl)
                  simp only [Act.put, List.setIfInBounds_toArray, List.set_cons_zero, List.set_cons_succ]
                  refine wpL_guarded (v := ?_) rfl (fun w' hS => ?_) ?_
                  rotate_left
                  · (obtain ⟨_, hS⟩ := hS; obtain ⟨_, _, _, c3, c4⟩ := sp_cells hS; go_simp; try with_reducible rfl)
                  simp only [Act.put, List.setIfInBounds_toArray, List.set_cons_zero, List.set_cons_succ]
                  refine wpL_guarded (v := ?_) rfl (fun w' hS => ?_) ?_
                  rotate_left
                  · (obtain ⟨_, hS⟩ := hS; obtain ⟨_, _, _, c3, c4⟩ := sp_cells hS; go_simp; try with_reducible rfl)
                  simp only [Act.put, List.setIfInBounds_toArray, List.set_cons_zero, List.set_cons_succ]
                  refine wpL_guarded (v := ?_) rfl (fun w' hS => ?_) ?_
                  rotate_left
                  · (obtain ⟨_, hS⟩ := hS; obtain ⟨_, _, _, c3, c4⟩ := sp_cells hS; go_simp; try with_reducible rfl)
                  simp only [Act.put, List.setIfInBounds_toArray, List.set_cons_zero, List.set_cons_succ]
                  refine wpL_guarded (v := ?_) rfl (fun w' hS => ?_) ?_
                  rotate_left
                  · (obtain ⟨_, hS⟩ := hS; obtain ⟨_, _, _, c3, c4⟩ := sp_cells hS; go_simp; try with_reducible rfl)
                  simp only [Act.put, List.setIfInBounds_toArray, List.set_cons_zero, List.set_cons_succ]
                  refine wpL_nil ?_
                  refine wpL_nil ?_
                  go_wp2_with fail
                  refine Hset.out.mono ?_
                  rintro e w9 ⟨rfl, h9⟩
                  obtain ⟨c, x, hok, h10⟩ := Bears.sp.1 h9
                  have Hok := Lib.hid hok
                  clear hok
                  go_wp2_with (first
                    | (refine wpList_alloc_z rfl rfl (z_asec _) ?_))
                  have h11 := h10.alloc (.cells (cellsV zeroSec).toArray 71)
                  refine wp_region_L (fun w' => ∃ Q, Bears w' (spObj s c x len * Q)) 9 [(true, 0), (true, 1), (true, 2), (true, 3), (true, 4), (true, 5), (true, 6), (false, 7), (true, 8)] [(true, 9)] (by kernel_rfl) (by kernel_rfl) ⟨_, h11.right.drew⟩ ?_
                  simp only [pick, List.getElem?_cons_zero, List.getElem?_cons_succ]
                  refine wpL_guarded (v := ?_) rfl (fun w' hS => ?_) ?_
                  rotate_left
                  · (obtain ⟨_, hS⟩ := hS; obtain ⟨k0, _, _, _, _⟩ := sp_cells hS; go_simp; try with_reducible rfl)
                  simp only [Act.put, List.setIfInBounds_toArray, List.set_cons_zero, List.set_cons_succ]
                  refine wpL_guarded (v := ?_) rfl (fun w' hS => ?_) ?_
                  rotate_left
                  · (obtain ⟨_, hS⟩ := hS; obtain ⟨k0, _, _, _, _⟩ := sp_cells hS; go_simp; try with_reducible rfl)
                  simp only [Act.put, List.setIfInBounds_toArray, List.set_cons_zero, List.set_cons_succ]
                  refine wpL_guarded (v := ?_) rfl (fun w' hS => ?_) ?_
                  rotate_left
                  · (obtain ⟨_, hS⟩ := hS; obtain ⟨k0, _, _, _, _⟩ := sp_cells hS; go_simp; try with_reducible rfl)
                  simp only [Act.put, List.setIfInBounds_toArray, List.set_cons_zero, List.set_cons_succ]
                  refine wpL_guarded (v := ?_) rfl (fun w' hS => ?_) ?_
                  rotate_left
                  · (obtain ⟨_, hS⟩ := hS; obtain ⟨k0, _, _, _, _⟩ := sp_cells hS; go_simp; try with_reducible rfl)
                  simp only [Act.put, List.setIfInBounds_toArray, List.set_cons_zero, List.set_cons_succ]
                  refine wpL_guarded (v := ?_) rfl (fun w' hS => ?_) ?_
                  rotate_left
                  · (obtain ⟨_, hS⟩ := hS; obtain ⟨k0, _, _, _, _⟩ := sp_cells hS; go_simp; try with_reducible rfl)
                  simp only [Act.put, List.setIfInBounds_toArray, List.set_cons_zero, List.set_cons_succ]
                  refine wpL_guarded (v := ?_) rfl (fun w' hS => ?_) ?_
                  rotate_left
                  · (obtain ⟨_, hS⟩ := hS; obtain ⟨k0, _, _, _, _⟩ := sp_cells hS; go_simp; try with_reducible rfl)
                  simp only [Act.put, List.setIfInBounds_toArray, List.set_cons_zero, List.set_cons_succ]
                  refine wpL_guarded (v := ?_) rfl (fun w' hS => ?_) ?_
                  rotate_left
                  · (obtain ⟨_, hS⟩ := hS; obtain ⟨k0, _, _, _, _⟩ := sp_cells hS; go_simp; try with_reducible rfl)
                  simp only [Act.put, List.setIfInBounds_toArray, List.set_cons_zero, List.set_cons_succ]
                  refine wpL_effG rfl ?_
                  go_simp
                  have h12 : Bears _ (cvA c p x len 1 620 F _ (_ :: k) true * (diskA p d * (Assn.obj w9.heap.size (.cells (cellsV zeroSec).toArray 71 (0, 0)) * (spObj s c x len * (walObj x p 1 620 (g : Int) * (rowA 5 1 (.slice (some ⟨rg, 0, none⟩) 64 cap) 64 (cellsV r) * R)))))) := h11.drew.cast (by ac_rfl)
                  have hw := vwrite_any (i := (n : Int)) (b := zeroSec) (ad := some ⟨w9.heap.size, 0, none⟩) (n := 64) (cap := 64) h12 Hok.out.size (BytesIn.tells _ _ rfl) rfl (by omega) (by have := Hn1.out; omega) (by have := Hn1.out; omega)
                  rw [Int.toNat_natCast] at hw
                  refine hw.mono ?_
                  rintro e w13 ⟨rfl, h13⟩
                  have h14 : Bears w13 (spA s p d len g (n :: (621 + n / 512) :: k) true F (updS (updS G (621 + n / 512) (secSet (G (621 + n / 512)) (n % 512) true)) n zeroSec) * (Assn.obj w9.heap.size (.cells (cellsV zeroSec).toArray 71 (0, 0)) * (rowA 5 1 (.slice (some ⟨rg, 0, none⟩) 64 cap) 64 (cellsV r) * R))) :=
                    Bears.sp.2 ⟨c, x, Hok.out.put _ rfl, h13.cast (by ac_rfl)⟩
                  refine ⟨⟨_, (h13.cast (by ac_rfl) : Bears _ (spObj s c x len * (cvA c p x len 1 620 F _ (_ :: _ :: k) true * (diskA p d * (Assn.obj w9.heap.size (.cells (cellsV zeroSec).toArray 71 (0, 0)) * (walObj x p 1 620 (g : Int) * (rowA 5 1 (.slice (some ⟨rg, 0, none⟩) 64 cap) 64 (cellsV r) * R)))))))⟩, ?_⟩
                  refine wpL_guarded (v := ?_) rfl (fun w' hS => ?_) ?_
                  rotate_left
                  · (go_simp; try with_reducible rfl)
                  simp only [Act.put, List.setIfInBounds_toArray, List.set_cons_zero, List.set_cons_succ]
                  refine wpL_nil ?_
                  refine wpL_yield (v := ?_) rfl (fun w' hS => ?_) ?_
                  rotate_left
                  · (go_simp; try with_reducible rfl)
                  simp only [Act.put, List.setIfInBounds_toArray]
                  refine wpL_nil ?_
                  go_wp2_with fail
                  go_ret2
                  exact .inl ⟨n, Hn1.out.1, Hn1.out.2, Hbn.out, Hfulln.out, rfl, h14.pull2.right.pull2.right⟩
        · obtain rfl : j = 64 := by omega
          go_wp2_with fail
          go_roundw
          case rel => exact ⟨i + 1, hlt, by go_num, by have := Hfu.out; rwa [show 512 * (i + 1) = 512 * i + 8 * 64 by omega], h6.right⟩
          case measure => simp [intOf]; omega
    · obtain rfl : i = mp := by omega
      go_wp2_with fail
      go_ret2
      exact .inr ⟨fun m hm h1 h2 => Hfu.out m (by omega) h1 h2, rfl, h2⟩

end Go.Proofs.YtcggloceabjjdaaGreat

/- Walks of the space's functions, part 10: clean, Format's literals; no condition. -/
namespace Go.Proofs.YtcggloceabjjdaaGreat
open Go.RowKit Go.MapKept

structure DiskM.Plain (d : DiskM) : Prop where
  off : d.off = false
  fuse : d.fuse = -1

def DiskM.put (d : DiskM) (i : Nat) (s : Sec) : DiskM := { d with waits := d.waits ++ [(i, s)], steps := wrap64 (d.steps + 1) }
def DiskM.bar (d : DiskM) : DiskM := { d with sure := d.now, waits := [], steps := wrap64 (d.steps + 1) }

theorem DiskM.Plain.step {d : DiskM} (h : d.Plain) : d.step = (0, { d with steps := wrap64 (d.steps + 1) }) := by
  simp [DiskM.step, h.fuse]
theorem DiskM.Plain.check {d : DiskM} (h : d.Plain) {i : Nat} (hi : i < d.len) : d.check (i : Int) = 0 := by
  unfold DiskM.check
  rw [h.off, if_neg (by simp), if_neg (by omega)]
theorem DiskM.Plain.write {d : DiskM} (h : d.Plain) {i : Nat} (hi : i < d.len) {s : Sec} (hs : s.length = 64) : d.write (i : Int) s = (0, d.put i s) := by
  simp only [DiskM.write, h.check hi, hs, h.step]
  simp [DiskM.put]
theorem DiskM.Plain.write' {d : DiskM} (h : d.Plain) {i : Int} {n : Nat} (e : i = n) (hi : n < d.len) {s : Sec} (hs : s.length = 64) : d.write i s = (0, d.put n s) := by
  subst e; exact h.write hi hs
theorem DiskM.Plain.barrier {d : DiskM} (h : d.Plain) : d.barrier = (0, d.bar) := by
  simp only [DiskM.barrier, h.off, h.step]
  simp [DiskM.bar, h.off]
theorem DiskM.Plain.put {d : DiskM} (h : d.Plain) (i : Nat) (s : Sec) : (d.put i s).Plain := ⟨h.off, h.fuse⟩
theorem DiskM.Plain.bar {d : DiskM} (h : d.Plain) : d.bar.Plain := ⟨h.off, h.fuse⟩

theorem z_asec' (w : World) : (zeroValue 71).run Tryz.prog w = .ok (.agg (cellsV zeroSec).toArray) w := z_asec w
theorem now_put (d : DiskM) (i : Nat) (b : Sec) : (d.put i b).now = updS d.now i b := by
  simp [DiskM.put, DiskM.now, settle, List.foldl_append]
theorem now_bar (d : DiskM) : d.bar.now = d.now := rfl
def cleanD (d : DiskM) : Nat → DiskM
  | 0 => d
  | n + 1 => (cleanD d n).put (621 + n) zeroSec
theorem cleanD_is {d : DiskM} (h : d.Plain) : ∀ n, (cleanD d n).Plain ∧ (cleanD d n).len = d.len ∧ (cleanD d n).sure = d.sure ∧ (cleanD d n).waits.length = d.waits.length + n ∧
    (∀ i, (cleanD d n).now i = if 621 ≤ i ∧ i < 621 + n then zeroSec else d.now i)
  | 0 => ⟨h, rfl, rfl, rfl, fun i => by rw [if_neg (by omega)]; rfl⟩
  | n + 1 => by
    obtain ⟨h1, h2, h3, h4, h5⟩ := cleanD_is h n
    refine ⟨h1.put _ _, h2, h3, by simp [cleanD, DiskM.put, h4]; omega, fun i => ?_⟩
    show ((cleanD d n).put (621 + n) zeroSec).now i = _
    rw [now_put]
    unfold updS
    rw [h5]
    by_cases hi : i = 621 + n
    · rw [if_pos hi, if_pos (by omega)]
    · rw [if_neg hi]
      by_cases hj : 621 ≤ i ∧ i < 621 + n
      · rw [if_pos hj, if_pos (by omega)]
      · rw [if_neg hj, if_neg (by omega)]

set_option maxRecDepth 100000 in
set_option maxHeartbeats 1000000 in
theorem clean_any {p : Nat} {d : DiskM} {R : Assn} {w : World} (h : Bears w (diskA p d * R)) (hd : d.Plain) {f : Nat} (hf : f ≤ d.len) (hl : d.len ≤ 8192) (h621 : 621 ≤ f) (hroom : d.waits.length + 10000 < 1099511627776) :
    Calls Tryz.prog 76 #[.pointer (some ⟨p, 0, none⟩), .int .i64 f] w fun e w' => e = .returned (.int .i64 0) ∧ Bears w' (diskA p (cleanD d (f - 621)) * R) := by
  have h1 := h.alloc (.cells (cellsV zeroSec).toArray 71)
  have Hd := Lib.hid hd
  clear h hd
  go_enter Tryz.func76, Tryz.ntmps76
  go_wp2_with (first
    | (refine wpList_alloc_z rfl rfl (z_asec' _) ?_))
  go_loopw [6] (fun iv wr => ∃ k : Nat, k ≤ f - 621 ∧ iv = .int .i64 ((621 + k : Nat) : Int) ∧ Bears wr (Assn.obj w.heap.size (.cells (cellsV zeroSec).toArray 71 (0, 0)) * (diskA p (cleanD d k) * R))) (fun iv _ => f - (intOf iv).toNat)
  case atStart => exact ⟨0, by omega, rfl, h1⟩
  case round =>
    clear h1
    obtain ⟨k, hk, rfl, h2⟩ := hrel
    obtain ⟨c1, c2, c3, c4, c5⟩ := cleanD_is Hd.out k
    by_cases hlt : k < f - 621
    · have hfi : ((621 + k : Nat) : Int) < (f : Int) := by omega
      have hw := write_to (l := zeroSec) (ad := some ⟨w.heap.size, 0, none⟩) (n := 64) (cap := 64) h2.pull2 (c1.write (i := 621 + k) (by rw [c2]; omega) rfl) (BytesIn.tells _ _ rfl) (by rw [c4]; omega)
      have Hw := Lib.hid hw
      clear c1 c2 c3 c4 c5 hw
      go_wp2_with fail
      refine Hw.out.mono ?_
      rintro e w3 ⟨rfl, h3⟩
      go_wp2_with fail
      go_roundw
      case rel => exact ⟨k + 1, hlt, by go_num, h3.pull2⟩
      case measure => simp [intOf]; omega
    · obtain rfl : k = f - 621 := by omega
      have hfi : ¬ ((621 + (f - 621) : Nat) : Int) < (f : Int) := by omega
      go_wp2_with fail
      go_ret
      exact ⟨rfl, h2.right⟩

abbrev boxA (b : Nat) (v : Value) (t : TypeId) : Assn := Assn.obj b (.cells #[v] t (0, 0))
abbrev ptrB (p : Nat) : Value := .pointer (some ⟨p, 0, none⟩)

set_option maxRecDepth 100000 in
set_option maxHeartbeats 400000 in
theorem format1_any {p b z : Nat} {d : DiskM} {R : Assn} {w : World} (h : Bears w (diskA p d * (boxA b (ptrB p) 24 * (Assn.obj z (.cells (cellsV zeroSec).toArray 71 (0, 0)) * R)))) (hd : d.Plain) (hl : 0 < d.len) (hroom : d.waits.length + 10000 < 1099511627776) :
    Calls Tryz.prog 70 #[ptrB b, ptrB z] w fun e w' => e = .returned (.int .i64 0) ∧ Bears w' (diskA p (d.put 0 zeroSec) * (boxA b (ptrB p) 24 * (Assn.obj z (.cells (cellsV zeroSec).toArray 71 (0, 0)) * R))) := by
  have hw := write_to (l := zeroSec) (ad := some ⟨z, 0, none⟩) (n := 64) (cap := 64) h.drew (hd.write' (i := 0) (n := 0) rfl hl rfl) (fun w' hw' => BytesIn.tells _ _ rfl w' hw'.right) (by omega)
  have Hw := Lib.hid hw
  have c0 : w.drew.cell? ⟨b, 0, none⟩ = some (ptrB p) := cell_of_obj h.drew.pull2.obj 0
  have c0' : w.cell? ⟨b, 0, none⟩ = some (ptrB p) := cell_of_obj h.pull2.obj 0
  clear hw h hd
  go_enter Tryz.func70, Tryz.ntmps70
  go_wp2_with fail
  refine wp_region_tail 2 (by kernel_rfl) (by kernel_rfl) ?_
  simp only [List.take_succ_cons, List.take_zero, List.drop_succ_cons, List.drop_zero]
  iterate 2 still_step
  refine wpStill_nil ?_
  go_wp2_with fail
  refine Hw.out.mono ?_
  rintro e w3 ⟨rfl, h3⟩
  go_wp2_with fail
  go_ret
  exact ⟨rfl, h3⟩

set_option maxRecDepth 100000 in
set_option maxHeartbeats 400000 in
theorem format2_any {p b : Nat} {d d' : DiskM} {R : Assn} {w : World} (h : Bears w (diskA p d * (boxA b (ptrB p) 24 * R))) (heq : wFormat d 1 620 = (0, d')) (hroom : d.waits.length + 10000 < 1099511627776) :
    Calls Tryz.prog 73 #[ptrB b] w fun e w' => e = .returned (.int .i64 0) ∧ Bears w' (diskA p d' * (boxA b (ptrB p) 24 * R)) := by
  have hw := format_to h heq (by omega) (by omega) (by omega)
  have Hw := Lib.hid hw
  have c0' : w.cell? ⟨b, 0, none⟩ = some (ptrB p) := cell_of_obj h.pull2.obj 0
  clear hw h heq
  go_enter Tryz.func73, Tryz.ntmps73
  go_wp2_with fail
  refine Hw.out.mono ?_
  rintro e w3 ⟨rfl, h3⟩
  go_wp2_with fail
  go_ret
  exact ⟨rfl, h3⟩

set_option maxRecDepth 100000 in
set_option maxHeartbeats 400000 in
theorem format3_any {p b c : Nat} {d : DiskM} {R : Assn} {w : World} {f : Nat} (h : Bears w (diskA p d * (boxA b (ptrB p) 24 * (boxA c (.int .i64 f) 3 * R)))) (hd : d.Plain) (hf : f ≤ d.len) (hl : d.len ≤ 8192) (h621 : 621 ≤ f) (hroom : d.waits.length + 10000 < 1099511627776) :
    Calls Tryz.prog 75 #[ptrB b, ptrB c] w fun e w' => e = .returned (.int .i64 0) ∧ Bears w' (diskA p (cleanD d (f - 621)) * (boxA b (ptrB p) 24 * (boxA c (.int .i64 f) 3 * R))) := by
  have hw := clean_any h hd hf hl h621 hroom
  have Hw := Lib.hid hw
  have c0' : w.cell? ⟨b, 0, none⟩ = some (ptrB p) := cell_of_obj h.pull2.obj 0
  have c1' : w.cell? ⟨c, 0, none⟩ = some (.int .i64 f) := cell_of_obj h.pull3.obj 0
  clear hw h hd
  go_enter Tryz.func75, Tryz.ntmps75
  go_wp2_with fail
  refine Hw.out.mono ?_
  rintro e w3 ⟨rfl, h3⟩
  go_wp2_with fail
  go_ret
  exact ⟨rfl, h3⟩

set_option maxRecDepth 100000 in
set_option maxHeartbeats 400000 in
theorem format4_any {p b : Nat} {d : DiskM} {R : Assn} {w : World} (h : Bears w (diskA p d * (boxA b (ptrB p) 24 * R))) (hd : d.Plain) (hl : 0 < d.len) (hl2 : d.len ≤ 8192) (hroom : d.waits.length + 10000 < 1099511627776) :
    Calls Tryz.prog 77 #[ptrB b] w fun e w' => e = .returned (.int .i64 0) ∧ Bears w' (diskA p (d.put 0 (superB d.len)) * (boxA b (ptrB p) 24 * R)) := by
  have c0' : w.cell? ⟨b, 0, none⟩ = some (ptrB p) := cell_of_obj h.pull2.obj 0
  have Hd := Lib.hid hd
  clear hd
  go_enter Tryz.func77, Tryz.ntmps77
  go_wp2_with fail
  refine (len_any h).mono ?_
  rintro e w1 ⟨rfl, rfl⟩
  go_wp2_with fail
  refine (super_any h d.len (by omega)).mono ?_
  rintro e w2 ⟨rfl, h2⟩
  have h3 := h2.alloc (.cells (cellsV zeroSec).toArray 71)
  have hsz : (cellsV (superB d.len)).toArray.size = (cellsV zeroSec).toArray.size := by simp [superB_length, zeroSec]
  have hin : (Tryz.prog.info? 71).map (·.size) = some (cellsV zeroSec).toArray.size := i_asec
  have hon : ∀ v ∈ (cellsV (superB d.len)).toArray.toList, v.oneCell' = true := fun v hv => oneCell_cellsV _ v (by simpa using hv)
  have hs64 := superB_length d.len
  obtain ⟨sb, hsb⟩ : ∃ sb, superB d.len = sb := ⟨_, rfl⟩
  rw [hsb] at hsz hon hs64 ⊢
  have Hsb := Lib.hid hsb
  clear hsb h
  go_wp2_with (first
    | (refine wpList_alloc_z rfl rfl (z_asec' _) ?_)
    | (refine wpList_store_obj h3 rfl rfl rfl rfl hsz hin hon ?_; intro w4 h4))
  have hw := write_to (l := sb) (ad := some ⟨w2.heap.size, 0, none⟩) (n := 64) (cap := 64) h4.pull2.drew (Hd.out.write' (i := 0) (n := 0) rfl hl hs64) (BytesIn.tells _ _ hs64.symm) (by omega)
  have Hw := Lib.hid hw
  have c1 : w4.drew.cell? ⟨b, 0, none⟩ = some (ptrB p) := cell_of_obj h4.drew.pull3.obj 0
  clear hw
  refine wp_region_tail 2 (by kernel_rfl) (by kernel_rfl) ?_
  simp only [List.take_succ_cons, List.take_zero, List.drop_succ_cons, List.drop_zero]
  iterate 2 still_step
  refine wpStill_nil ?_
  go_wp2_with fail
  refine Hw.out.mono ?_
  rintro e w3 ⟨rfl, h3⟩
  go_wp2_with fail
  go_ret
  rw [Hsb.out]
  exact ⟨rfl, h3.pull2.right⟩

end Go.Proofs.YtcggloceabjjdaaGreat

/- Walks of the space's functions, part 11: Format; no condition. -/
namespace Go.Proofs.YtcggloceabjjdaaGreat
open Go.RowKit Go.MapKept

/-- The disk behind so many of Format's steps. -/
def fmtD (d d3 : DiskM) (f : Nat) : Nat → DiskM
  | 0 => d
  | 1 => d.put 0 zeroSec
  | 2 => (d.put 0 zeroSec).bar
  | 3 => d3
  | 4 => cleanD d3 (f - 621)
  | 5 => (cleanD d3 (f - 621)).bar
  | 6 => (cleanD d3 (f - 621)).bar.put 0 (superB d.len)
  | _ => ((cleanD d3 (f - 621)).bar.put 0 (superB d.len)).bar

/-- Format's steps: what it makes of them. -/
def stepsV (b c z p : Nat) : List Value := [.func (.func 70) #[] #[ptrB b, ptrB z], .func (.func 72) #[ptrB p] #[], .func (.func 73) #[] #[ptrB b],
  .func (.func 75) #[] #[ptrB b, ptrB c], .func (.func 72) #[ptrB p] #[], .func (.func 77) #[] #[ptrB b], .func (.func 72) #[ptrB p] #[]]

theorem Bears.rev5 {w : World} {a b c d e r : Assn} (h : Bears w (a * (b * (c * (d * (e * r)))))) : Bears w (e * (d * (c * (b * (a * r))))) := h.cast (by ac_rfl)

set_option maxRecDepth 100000 in
set_option maxHeartbeats 1000000 in
theorem format_space {p : Nat} {d d3 : DiskM} {R : Assn} {w : World} (h : Bears w (diskA p d * R)) (hd : d.Plain) (hlo : 1024 ≤ d.len) (hhi : d.len ≤ 8192) (hroom : d.waits.length + 10000 < 1099511627776)
    (hwf : wFormat (d.put 0 zeroSec).bar 1 620 = (0, d3)) (h3 : d3.Plain) (h3l : d3.len = d.len) (h3w : d3.waits = []) :
    Calls Tryz.prog 34 #[ptrB p] w fun e w' => e = .returned (.int .i64 0) ∧ Bears w' (diskA p (fmtD d d3 (firstB d.len) 7) * R) := by
  have hmf : ∀ (fn : Fn) (first cap : Array Value) (w : World), (Instr.makeFunc fn first cap).run Tryz.prog w = .ok (.func fn first cap) w := fun _ _ _ _ => rfl
  have hfl : firstB d.len ≤ d.len := by unfold firstB mapsN; omega
  have hf621 : 621 ≤ firstB d.len := by unfold firstB; omega
  have hfn := firstN_eq hlo hhi
  have hb1 := (h.alloc (.cells #[ptrB p] 24))
  obtain ⟨f, hf⟩ : ∃ f, firstB d.len = f := ⟨_, rfl⟩
  rw [hf] at hfl hf621 hfn
  have Hwf := Lib.hid hwf
  have H3p := Lib.hid h3
  have H3l := Lib.hid h3l
  have H3w := Lib.hid h3w
  have Hd := Lib.hid hd
  have Hf := Lib.hid hf
  have Hfn := Lib.hid hfn
  clear hwf h3 h3l h3w hfn hf hd h
  go_enter Tryz.func34, Tryz.ntmps34
  go_wp2_with fail
  refine (len_any hb1.pull2).mono ?_
  rintro e w1 ⟨rfl, rfl⟩
  go_wp2_with fail
  refine (first_any (d.len : Int) _ (by omega)).mono ?_
  rintro e w2 ⟨rfl, rfl⟩
  rw [Hfn.out]
  go_wp2_with (first
    | (refine wpList_alloc_z rfl rfl (z_asec' _) ?_))
  have hb2 := hb1.alloc (.cells #[.int .i64 f] 3)
  rw [show (w.alloc (.cells #[ptrB p] 24)).heap.size = w.heap.size + 1 from Array.size_push _] at hb2
  have hb3 := hb2.alloc (.cells (cellsV zeroSec).toArray 71)
  rw [show ((w.alloc (.cells #[ptrB p] 24)).alloc (.cells #[.int .i64 f] 3)).heap.size = w.heap.size + 1 + 1 from (Array.size_push _).trans (congrArg (· + 1) (Array.size_push _))] at hb3
  have hb4 := hb3.alloc (.cells (stepsV w.heap.size (w.heap.size + 1) (w.heap.size + 1 + 1) p).toArray 43)
  rw [show (((w.alloc (.cells #[ptrB p] 24)).alloc (.cells #[.int .i64 f] 3)).alloc (.cells (cellsV zeroSec).toArray 71)).heap.size = w.heap.size + 1 + 1 + 1 from (Array.size_push _).trans (congrArg (· + 1) ((Array.size_push _).trans (congrArg (· + 1) (Array.size_push _))))] at hb4
  have hb5 : Bears _ (diskA p (fmtD d d3 f 0) * (boxA w.heap.size (ptrB p) 24 * (boxA (w.heap.size + 1) (.int .i64 f) 3 * (Assn.obj (w.heap.size + 1 + 1) (.cells (cellsV zeroSec).toArray 71 (0, 0)) *
    (Assn.obj (w.heap.size + 1 + 1 + 1) (.cells (stepsV w.heap.size (w.heap.size + 1) (w.heap.size + 1 + 1) p).toArray 43 (0, 0)) * R))))) := hb4.rev5
  clear hb1 hb2 hb3 hb4
  go_loopw [25] (fun kv wr => ∃ k : Nat, k ≤ 7 ∧ kv = .int .i64 k ∧ Bears wr (diskA p (fmtD d d3 f k) * (boxA w.heap.size (ptrB p) 24 * (boxA (w.heap.size + 1) (.int .i64 f) 3 * (Assn.obj (w.heap.size + 1 + 1) (.cells (cellsV zeroSec).toArray 71 (0, 0)) *
    (Assn.obj (w.heap.size + 1 + 1 + 1) (.cells (stepsV w.heap.size (w.heap.size + 1) (w.heap.size + 1 + 1) p).toArray 43 (0, 0)) * R)))))) (fun kv _ => 7 - (intOf kv).toNat)
  case atStart => exact ⟨0, by omega, rfl, hb5⟩
  case round =>
    clear hb5
    obtain ⟨k, hk, rfl, h2⟩ := hrel
    obtain ⟨b, hb⟩ : ∃ b, w.heap.size = b := ⟨_, rfl⟩
    rw [hb] at h2 ⊢
    have Hb := Lib.hid hb
    clear hb
    match k, hk, h2 with
    | 0, _, h2 =>
      have cs : wr.cell? ⟨b + 1 + 1 + 1, 0, none⟩ = some ((stepsV b (b + 1) (b + 1 + 1) p).getD 0 undef) := cell_of_obj h2.pull5.obj 0
      simp only [stepsV, List.getD_cons_zero] at cs
      have Hc := Lib.hid (format1_any h2.c34 Hd.out (by show 0 < d.len; omega) hroom)
      have H2 := Lib.hid h2
      clear h2
      go_wp2_with fail
      refine Hc.out.mono ?_
      rintro e w3 ⟨rfl, h3⟩
      go_wp2_with fail
      go_roundw
      case rel => exact ⟨1, by omega, by go_num, h3.c34⟩
      case measure => simp [intOf]
    | 1, _, h2 =>
      have cs : wr.cell? ⟨b + 1 + 1 + 1, 1, none⟩ = some ((stepsV b (b + 1) (b + 1 + 1) p).getD 1 undef) := cell_of_obj h2.pull5.obj 1
      simp only [stepsV, List.getD_cons_zero, List.getD_cons_succ] at cs
      have Hc := Lib.hid (barrier_to h2 ((Hd.out.put 0 zeroSec).barrier) (by show (d.waits ++ [(0, zeroSec)]).length < _; rw [List.length_append]; simp only [List.length_cons, List.length_nil]; omega))
      have H2 := Lib.hid h2
      clear h2
      go_wp2_with fail
      refine Hc.out.mono ?_
      rintro e w3 ⟨rfl, h3⟩
      go_wp2_with fail
      go_roundw
      case rel => exact ⟨2, by omega, by go_num, h3⟩
      case measure => simp [intOf]
    | 2, _, h2 =>
      have cs : wr.cell? ⟨b + 1 + 1 + 1, 2, none⟩ = some ((stepsV b (b + 1) (b + 1 + 1) p).getD 2 undef) := cell_of_obj h2.pull5.obj 2
      simp only [stepsV, List.getD_cons_zero, List.getD_cons_succ] at cs
      have Hc := Lib.hid (format2_any h2 Hwf.out (by show 0 + 10000 < 1099511627776; omega))
      have H2 := Lib.hid h2
      clear h2
      go_wp2_with fail
      refine Hc.out.mono ?_
      rintro e w3 ⟨rfl, h3⟩
      go_wp2_with fail
      go_roundw
      case rel => exact ⟨3, by omega, by go_num, h3⟩
      case measure => simp [intOf]
    | 3, _, h2 =>
      have cs : wr.cell? ⟨b + 1 + 1 + 1, 3, none⟩ = some ((stepsV b (b + 1) (b + 1 + 1) p).getD 3 undef) := cell_of_obj h2.pull5.obj 3
      simp only [stepsV, List.getD_cons_zero, List.getD_cons_succ] at cs
      have Hc := Lib.hid (format3_any h2 H3p.out (by show f ≤ d3.len; rw [H3l.out]; exact hfl) (by show d3.len ≤ 8192; rw [H3l.out]; exact hhi) hf621 (by show d3.waits.length + 10000 < _; rw [H3w.out]; show 0 + 10000 < 1099511627776; omega))
      have H2 := Lib.hid h2
      clear h2
      go_wp2_with fail
      refine Hc.out.mono ?_
      rintro e w3 ⟨rfl, h3⟩
      go_wp2_with fail
      go_roundw
      case rel => exact ⟨4, by omega, by go_num, h3⟩
      case measure => simp [intOf]
    | 4, _, h2 =>
      have cs : wr.cell? ⟨b + 1 + 1 + 1, 4, none⟩ = some ((stepsV b (b + 1) (b + 1 + 1) p).getD 4 undef) := cell_of_obj h2.pull5.obj 4
      simp only [stepsV, List.getD_cons_zero, List.getD_cons_succ] at cs
      have Hc := Lib.hid (barrier_to h2 ((cleanD_is H3p.out (f - 621)).1.barrier) (by show (cleanD d3 (f - 621)).waits.length < _; rw [(cleanD_is H3p.out (f - 621)).2.2.2.1, H3w.out]; simp; omega))
      have H2 := Lib.hid h2
      clear h2
      go_wp2_with fail
      refine Hc.out.mono ?_
      rintro e w3 ⟨rfl, h3⟩
      go_wp2_with fail
      go_roundw
      case rel => exact ⟨5, by omega, by go_num, h3⟩
      case measure => simp [intOf]
    | 5, _, h2 =>
      have cs : wr.cell? ⟨b + 1 + 1 + 1, 5, none⟩ = some ((stepsV b (b + 1) (b + 1 + 1) p).getD 5 undef) := cell_of_obj h2.pull5.obj 5
      simp only [stepsV, List.getD_cons_zero, List.getD_cons_succ] at cs
      have Hc := Lib.hid (format4_any h2 ((cleanD_is H3p.out (f - 621)).1.bar) (by show 0 < (cleanD d3 (f - 621)).len; rw [(cleanD_is H3p.out (f - 621)).2.1, H3l.out]; omega) (by show (cleanD d3 (f - 621)).len ≤ 8192; rw [(cleanD_is H3p.out (f - 621)).2.1, H3l.out]; exact hhi) (by show 0 + 10000 < 1099511627776; omega))
      have H2 := Lib.hid h2
      clear h2
      go_wp2_with fail
      refine Hc.out.mono ?_
      rintro e w3 ⟨rfl, h3⟩
      go_wp2_with fail
      go_roundw
      case rel =>
        rw [show (fmtD d d3 f 5).len = d.len from (cleanD_is H3p.out (f - 621)).2.1.trans H3l.out] at h3
        exact ⟨6, by omega, by go_num, h3⟩
      case measure => simp [intOf]
    | 6, _, h2 =>
      have cs : wr.cell? ⟨b + 1 + 1 + 1, 6, none⟩ = some ((stepsV b (b + 1) (b + 1 + 1) p).getD 6 undef) := cell_of_obj h2.pull5.obj 6
      simp only [stepsV, List.getD_cons_zero, List.getD_cons_succ] at cs
      have Hc := Lib.hid (barrier_to h2 (((cleanD_is H3p.out (f - 621)).1.bar.put 0 (superB d.len)).barrier) (by show 1 < 1099511627776; omega))
      have H2 := Lib.hid h2
      clear h2
      go_wp2_with fail
      refine Hc.out.mono ?_
      rintro e w3 ⟨rfl, h3⟩
      go_wp2_with fail
      go_roundw
      case rel => exact ⟨7, by omega, by go_num, h3⟩
      case measure => simp [intOf]
    | 7, _, h2 =>
      have H2 := Lib.hid h2
      clear h2
      go_wp2_with fail
      go_ret
      rw [Hf.out]
      exact ⟨rfl, H2.out.pull2.right.pull2.right.pull2.right.pull2.right⟩

end Go.Proofs.YtcggloceabjjdaaGreat

/- Sectors that are compared; Open; no condition. -/
namespace Go.Proofs.YtcggloceabjjdaaGreat
open Go.RowKit Go.MapKept

theorem beq_toNat (x y : UInt8) : ((x.toNat : Int) == (y.toNat : Int)) = (x == y) := by
  rw [Bool.eq_iff_iff, beq_iff_eq, beq_iff_eq]
  constructor
  · intro h
    exact UInt8.toNat_inj.1 (by omega)
  · rintro h; rw [h]
theorem all_range {a b : List UInt8} {n : Nat} (ha : a.length = n) (hb : b.length = n) : ((List.range n).all fun i => a.getD i 0 == b.getD i 0) = decide (a = b) := by
  rw [Bool.eq_iff_iff, decide_eq_true_iff, List.all_eq_true]
  constructor
  · intro h
    refine List.ext_getElem (by omega) (fun j h1 h2 => ?_)
    have := h j (by simp; omega)
    rw [beq_iff_eq] at this
    simpa [h1, h2] using this
  · rintro rfl j _
    simp

theorem run_eqItems_bytes (w : World) (d : Nat) (a b : List UInt8) (is : List Nat) (hi : ∀ i ∈ is, i < a.length ∧ i < b.length) :
    (Op.eqItems (d + 1) 5 (Tryz.prog.cellsOf 5) (cellsV a).toArray (cellsV b).toArray is).run Tryz.prog w = .ok (is.all fun i => a.getD i 0 == b.getD i 0) w := by
  induction is with
  | nil => simp [Op.eqItems]
  | cons i is ih =>
    have h1 := (hi i (by simp)).1
    have h2 := (hi i (by simp)).2
    have hc : Tryz.prog.cellsOf 5 = 1 := by kernel_rfl
    have p1 : (part 5 (cellsV a).toArray (i * 1)).run Tryz.prog w = .ok (byteV (a.getD i 0)) w := run_part_plain w (by kernel_rfl) (by simp [cellsV, h1])
    have p2 : (part 5 (cellsV b).toArray (i * 1)).run Tryz.prog w = .ok (byteV (b.getD i 0)) w := run_part_plain w (by kernel_rfl) (by simp [cellsV, h2])
    have p3 : (Op.equalIn (d + 1) 5 (byteV (a.getD i 0)) (byteV (b.getD i 0))).run Tryz.prog w = .ok (a.getD i 0 == b.getD i 0) w := by
      unfold byteV
      rw [run_equalIn_int w d 5 .u8 .u8 _ _ Tryz.underlying5]
      rw [beq_toNat]
    have ih' := ih (fun j hj => hi j (by simp [hj]))
    rw [hc] at ih' ⊢
    simp only [Op.eqItems, Sem.run_bind, p1, p2, p3, Result.andThen_ok, List.all_cons]
    cases a.getD i 0 == b.getD i 0
    · simp
    · simpa using ih'

theorem neq_sec (w : World) (a b : Sec) (ha : a.length = 64) (hb : b.length = 64) : (binOp .neq 71 (.agg (cellsV a).toArray) (.agg (cellsV b).toArray)).run Tryz.prog w = .ok (.bool (!decide (a = b))) w := by
  obtain ⟨i, hi⟩ : ∃ i, Tryz.prog.info? 5 = some i := Option.isSome_iff_exists.1 (by kernel_rfl)
  rw [run_neq_struct, run_equalIn_array w 9999 _ _ u_asec hi, run_eqItems_bytes w 9998 a b _ (fun j hj => by simp at hj; omega)]
  simp only [Result.andThen_ok]
  rw [all_range ha hb]

set_option maxRecDepth 100000 in
set_option maxHeartbeats 400000 in
theorem space_args {p : Nat} {d : DiskM} {R : Assn} {w : World} (h : Bears w (diskA p d * R)) (hl : d.len < 1024 ∨ 8192 < d.len) (hb : d.len ≤ 8192) :
    Calls Tryz.prog 10 #[ptrB p] w fun e w' => e = .returned (.tuple #[.pointer none, .int .i64 1]) ∧ w' = w := by
  have e1 : firstN (d.len : Int) = 0 := by unfold firstN; rw [if_pos (by omega)]
  have E1 := Lib.hid e1
  clear e1
  go_enter Tryz.func10, Tryz.ntmps10
  go_wp2_with fail
  refine (len_any h).mono ?_
  rintro e w1 ⟨rfl, rfl⟩
  go_wp2_with fail
  refine (first_any (d.len : Int) _ (by omega)).mono ?_
  rintro e w2 ⟨rfl, rfl⟩
  rw [E1.out]
  go_wp2_with fail
  go_ret2
  exact ⟨rfl, rfl⟩

set_option maxRecDepth 100000 in
set_option maxHeartbeats 400000 in
theorem format_args {p : Nat} {d : DiskM} {R : Assn} {w : World} (h : Bears w (diskA p d * R)) (hl : d.len < 1024 ∨ 8192 < d.len) (hb : d.len ≤ 8192) :
    Calls Tryz.prog 34 #[ptrB p] w fun e w' => e = .returned (.int .i64 1) ∧ Bears w' (diskA p d * R) := by
  have e1 : firstN (d.len : Int) = 0 := by unfold firstN; rw [if_pos (by omega)]
  have E1 := Lib.hid e1
  have hb1 := (h.alloc (.cells #[ptrB p] 24))
  clear e1 h
  go_enter Tryz.func34, Tryz.ntmps34
  go_wp2_with fail
  refine (len_any hb1.pull2).mono ?_
  rintro e w1 ⟨rfl, rfl⟩
  go_wp2_with fail
  refine (first_any (d.len : Int) _ (by omega)).mono ?_
  rintro e w2 ⟨rfl, rfl⟩
  rw [E1.out]
  have hb2 := hb1.alloc (.cells #[.int .i64 0] 3)
  go_wp2_with fail
  go_ret
  exact ⟨rfl, hb2.right.right⟩

set_option maxRecDepth 100000 in
set_option maxHeartbeats 1000000 in
theorem space_none {p : Nat} {d : DiskM} {R : Assn} {w : World} (h : Bears w (diskA p d * R)) (ho : d.off = false) (hlo : 1024 ≤ d.len) (hhi : d.len ≤ 8192) {s0 : Sec} (hs0 : d.now 0 = s0) (hs64 : s0.length = 64) (hne : s0 ≠ superB d.len) :
    Calls Tryz.prog 10 #[ptrB p] w fun e w' => e = .returned (.tuple #[.pointer none, .int .i64 4]) ∧ Bears w' (diskA p d * R) := by
  have hfn := firstN_eq hlo hhi
  have hf621 : 621 ≤ firstB d.len := by unfold firstB; omega
  have hsl := superB_length d.len
  have hnq : ∀ w, (binOp .neq 71 (.agg (cellsV s0).toArray) (.agg (cellsV (superB d.len)).toArray)).run Tryz.prog w = .ok (.bool true) w := fun w => by
    rw [neq_sec w _ _ hs64 hsl, decide_eq_false hne]; rfl
  have hck : d.check 0 = 0 := by unfold DiskM.check; rw [ho, if_neg (by simp), if_neg (by omega)]
  have Hnq := Lib.hid hnq
  have H64 := Lib.hid hs64
  have Hs0 := Lib.hid hs0
  have Hfn := Lib.hid hfn
  have Hne := Lib.hid hne
  clear hnq hs64 hs0 hne hfn
  go_enter Tryz.func10, Tryz.ntmps10
  go_wp2_with fail
  refine (len_any h).mono ?_
  rintro e w1 ⟨rfl, rfl⟩
  go_wp2_with fail
  refine (first_any (d.len : Int) _ (by omega)).mono ?_
  rintro e w2 ⟨rfl, rfl⟩
  rw [Hfn.out]
  go_wp2_with fail
  refine (read_to 0 h hck Hs0.out).mono ?_
  rintro e w3 ⟨g, rfl, h3⟩
  go_wp2_with fail
  have hap : ∀ w, (Instr.arrayAt 71 (.slice (some ⟨g, 0, none⟩) 64 64)).run Tryz.prog w = .ok (.pointer (some ⟨g, 0, none⟩)) w := fun w => by kernel_rfl
  have hcl : (Tryz.prog.info? 71).map (·.size) = some (cellsV s0).length := by rw [length_cellsV, H64.out]; exact i_asec
  have hon : ∀ w, (∃ Q, Bears w (diskA p d * (Assn.obj g (.cells (cellsV s0).toArray 86 (0, 0)) * Q))) → w.rangeAt g 0 (cellsV s0) := fun w ⟨_, hq⟩ => rangeAt_of_obj hq.pull2.obj
  refine wp_region_L (fun w' => ∃ Q, Bears w' (diskA p d * (Assn.obj g (.cells (cellsV s0).toArray 86 (0, 0)) * Q))) 7 [(true, 0), (true, 1), (true, 2), (true, 3), (false, 4), (false, 5), (true, 6)] [] (by kernel_rfl) (by kernel_rfl) ⟨_, h3.pull2.drew⟩ ?_
  simp only [pick, List.getElem?_cons_zero, List.getElem?_cons_succ]
  refine wpL_guarded (v := ?_) rfl (fun w' hS => ?_) ?_
  rotate_left
  · (go_simp; try with_reducible rfl)
  simp only [Act.put, List.setIfInBounds_toArray, List.set_cons_zero, List.set_cons_succ]
  refine wpL_guarded (v := ?_) rfl (fun w' hS => ?_) ?_
  rotate_left
  · (go_simp; try with_reducible rfl)
  simp only [Act.put, List.setIfInBounds_toArray, List.set_cons_zero, List.set_cons_succ]
  refine wpL_load_mid 71 _ rfl rfl g 0 rfl (cellsV s0) _ hon u_asec rfl hcl ?_
  simp only [Act.put, List.setIfInBounds_toArray, List.set_cons_zero, List.set_cons_succ]
  refine wpL_guarded (v := ?_) rfl (fun w' hS => ?_) ?_
  rotate_left
  · (go_simp; try with_reducible rfl)
  simp only [Act.put, List.setIfInBounds_toArray, List.set_cons_zero, List.set_cons_succ]
  refine wpL_effG rfl ?_
  go_simp
  refine (len_any h3.pull2.drew).mono ?_
  rintro e w4 ⟨rfl, rfl⟩
  refine ⟨⟨_, h3.pull2.drew⟩, ?_⟩
  refine wpL_effG rfl ?_
  go_simp
  refine (super_any h3.pull2.drew d.len (by omega)).mono ?_
  rintro e w5 ⟨rfl, h5⟩
  refine ⟨⟨_, h5⟩, ?_⟩
  have hnq := Hnq.out
  have heg : Tryz.prog.eqGuardType Tryz.prog.depth 71 = false := by kernel_rfl
  simp only [secV]
  refine wpL_guarded (v := ?_) rfl (fun w' hS => ?_) ?_
  rotate_left
  · (go_simp; try with_reducible rfl)
  simp only [Act.put, List.setIfInBounds_toArray, List.set_cons_zero, List.set_cons_succ]
  refine wpL_nil ?_
  refine wpL_nil ?_
  go_wp2_with fail
  go_ret2
  exact ⟨rfl, h5.pull2.right⟩

set_option maxRecDepth 100000 in
set_option maxHeartbeats 1000000 in
theorem space_opens {p g0 : Nat} {d : DiskM} {F : Nat → Sec} {R : Assn} {w : World} (h : Bears w (diskA p d * R)) (hL : LogOn d 1 620 g0 F) (hlo : 1024 ≤ d.len) (hhi : d.len ≤ 8192) (hF : F 0 = superB d.len) (h64 : ∀ i, (F i).length = 64) (hg : g0 < 9223372036854775808) :
    Calls Tryz.prog 10 #[ptrB p] w fun e w' => ∃ s, e = .returned (.tuple #[ptrB s, .int .i64 0]) ∧ Bears w' (spA s p d d.len g0 [] false F F * R) := by
  have ho := hL.off
  have hs0 : d.now 0 = superB d.len := by rw [hL.now (by omega)]; exact hF
  have hs64 : (superB d.len).length = 64 := superB_length _
  obtain ⟨hop, hgr⟩ := hL.opens hg
  have hfew := hL.few 20000 (by omega)
  have hsp : SpOk d.len d g0 F F := ⟨hL, rfl, hlo, hhi, h64, h64⟩
  have hfn := firstN_eq hlo hhi
  have hf621 : 621 ≤ firstB d.len := by unfold firstB; omega
  have hfl : firstB d.len ≤ d.len := by unfold firstB mapsN; omega
  have hfm : firstB d.len = 621 + mapsN d.len + 128 := rfl
  have hnq : ∀ w, (binOp .neq 71 (.agg (cellsV (superB d.len)).toArray) (.agg (cellsV (superB d.len)).toArray)).run Tryz.prog w = .ok (.bool false) w := fun w => by
    rw [neq_sec w _ _ hs64 hs64, decide_eq_true rfl]; rfl
  have hck : d.check 0 = 0 := by unfold DiskM.check; rw [ho, if_neg (by simp), if_neg (by omega)]
  have Hnq := Lib.hid hnq
  have H64 := Lib.hid hs64
  have Hs0 := Lib.hid hs0
  have Hfn := Lib.hid hfn
  have Hop := Lib.hid hop
  have Hgr := Lib.hid hgr
  have Hsp := Lib.hid hsp
  have Hfm := Lib.hid hfm
  clear hnq hs64 hs0 hfn hop hgr hsp hF hfm
  go_enter Tryz.func10, Tryz.ntmps10
  go_wp2_with fail
  refine (len_any h).mono ?_
  rintro e w1 ⟨rfl, rfl⟩
  go_wp2_with fail
  refine (first_any (d.len : Int) _ (by omega)).mono ?_
  rintro e w2 ⟨rfl, rfl⟩
  rw [Hfn.out]
  go_wp2_with fail
  refine (read_to 0 h hck Hs0.out).mono ?_
  rintro e w3 ⟨g, rfl, h3⟩
  go_wp2_with fail
  have hap : ∀ w, (Instr.arrayAt 71 (.slice (some ⟨g, 0, none⟩) 64 64)).run Tryz.prog w = .ok (.pointer (some ⟨g, 0, none⟩)) w := fun w => by kernel_rfl
  have hcl : (Tryz.prog.info? 71).map (·.size) = some (cellsV (superB d.len)).length := by rw [length_cellsV, H64.out]; exact i_asec
  have hon : ∀ w, (∃ Q, Bears w (diskA p d * (Assn.obj g (.cells (cellsV (superB d.len)).toArray 86 (0, 0)) * Q))) → w.rangeAt g 0 (cellsV (superB d.len)) := fun w ⟨_, hq⟩ => rangeAt_of_obj hq.pull2.obj
  refine wp_region_L (fun w' => ∃ Q, Bears w' (diskA p d * (Assn.obj g (.cells (cellsV (superB d.len)).toArray 86 (0, 0)) * Q))) 7 [(true, 0), (true, 1), (true, 2), (true, 3), (false, 4), (false, 5), (true, 6)] [] (by kernel_rfl) (by kernel_rfl) ⟨_, h3.pull2.drew⟩ ?_
  simp only [pick, List.getElem?_cons_zero, List.getElem?_cons_succ]
  refine wpL_guarded (v := ?_) rfl (fun w' hS => ?_) ?_
  rotate_left
  · (go_simp; try with_reducible rfl)
  simp only [Act.put, List.setIfInBounds_toArray, List.set_cons_zero, List.set_cons_succ]
  refine wpL_guarded (v := ?_) rfl (fun w' hS => ?_) ?_
  rotate_left
  · (go_simp; try with_reducible rfl)
  simp only [Act.put, List.setIfInBounds_toArray, List.set_cons_zero, List.set_cons_succ]
  refine wpL_load_mid 71 _ rfl rfl g 0 rfl (cellsV (superB d.len)) _ hon u_asec rfl hcl ?_
  simp only [Act.put, List.setIfInBounds_toArray, List.set_cons_zero, List.set_cons_succ]
  refine wpL_guarded (v := ?_) rfl (fun w' hS => ?_) ?_
  rotate_left
  · (go_simp; try with_reducible rfl)
  simp only [Act.put, List.setIfInBounds_toArray, List.set_cons_zero, List.set_cons_succ]
  refine wpL_effG rfl ?_
  go_simp
  refine (len_any h3.pull2.drew).mono ?_
  rintro e w4 ⟨rfl, rfl⟩
  refine ⟨⟨_, h3.pull2.drew⟩, ?_⟩
  refine wpL_effG rfl ?_
  go_simp
  refine (super_any h3.pull2.drew d.len (by omega)).mono ?_
  rintro e w5 ⟨rfl, h5⟩
  refine ⟨⟨_, h5⟩, ?_⟩
  have hnq := Hnq.out
  have heg : Tryz.prog.eqGuardType Tryz.prog.depth 71 = false := by kernel_rfl
  simp only [secV]
  refine wpL_guarded (v := ?_) rfl (fun w' hS => ?_) ?_
  rotate_left
  · (go_simp; try with_reducible rfl)
  simp only [Act.put, List.setIfInBounds_toArray, List.set_cons_zero, List.set_cons_succ]
  refine wpL_nil ?_
  refine wpL_nil ?_
  go_wp2_with fail
  have h6 : Bears w5 (diskA p d * R) := h5.pull2.right
  refine (open_yes h6 Hop.out Hgr.out (by omega) (by omega) hfew).mono ?_
  rintro e w7 ⟨x, rfl, h7⟩
  go_wp2_with fail
  refine (cnew_ok h7 p x 64 (by omega) (by omega)).mono ?_
  rintro e w8 ⟨c, rfl, h8⟩
  go_wp2_with fail
  refine (len_any h8.pull3).mono ?_
  rintro e w9 ⟨rfl, rfl⟩
  go_wp2_with fail
  go_ret2
  have e1 : ((firstB d.len : Int) - 621 - 128) = ((mapsN d.len : Nat) : Int) := by have := Hfm.out; omega
  have e2 : ((d.len : Int) - (firstB d.len : Int)) = ((d.len - firstB d.len : Nat) : Int) := by omega
  rw [e1, e2]
  have h9 := h8.alloc (.cells #[.pointer (some ⟨c, 0, none⟩), .pointer (some ⟨x, 0, none⟩), .int .i64 (mapsN d.len), .int .i64 (firstB d.len), .int .i64 ((d.len - firstB d.len : Nat) : Int)] 80)
  have h10 : Bears _ (cacheA c p x (CacheM.new 64) * (spObj w8.heap.size c x d.len * (diskA p d * (walObj x p 1 620 (g0 : Int) * R)))) := h9.pull2.c34
  have h11 := Bears.cv.2 ⟨CacheM.new 64, CV.new (a := 1) (s := 620) (F := F) (m := 64) hhi, h10⟩
  exact ⟨w8.heap.size, rfl, Bears.sp.2 ⟨c, x, Hsp.out, h11.pull2⟩⟩

end Go.Proofs.YtcggloceabjjdaaGreat

/- A new space; a transaction's bound; no condition. -/
namespace Go.Proofs.YtcggloceabjjdaaGreat
open Go.RowKit Go.MapKept

/-- What a new space has. -/
def freshF (n : Nat) : Nat → Sec := updS (fun _ => zeroSec) 0 (superB n)
theorem freshF64 (n i : Nat) : (freshF n i).length = 64 := upd64 (fun _ => rfl) 0 (superB_length n) i

theorem DiskM.new_plain (n : Nat) : (DiskM.new n).Plain := ⟨rfl, rfl⟩
theorem fmtD7 (d d3 : DiskM) (f : Nat) : fmtD d d3 f 7 = ((cleanD d3 (f - 621)).bar.put 0 (superB d.len)).bar := rfl

theorem format_new {p n : Nat} {R : Assn} {w : World} (hlo : 1024 ≤ n) (hhi : n ≤ 8192) (h : Bears w (diskA p (DiskM.new n) * R)) :
    Calls Tryz.prog 34 #[ptrB p] w fun e w' => ∃ d, e = .returned (.int .i64 0) ∧ LogOn d 1 620 0 (freshF n) ∧ d.fuse = -1 ∧ d.len = n ∧ Bears w' (diskA p d * R) := by
  have hz : ∀ i, ((DiskM.new n).put 0 zeroSec).bar.now i = zeroSec := fun i => by
    rw [now_bar, now_put]
    unfold updS
    split
    · rfl
    · rfl
  obtain ⟨d3, h1, h2, h3, h4⟩ := formats (d := ((DiskM.new n).put 0 zeroSec).bar) (a := 1) (s := 620) (F := fun _ => zeroSec) rfl rfl (by decide) (by show 1 + 620 ≤ n; omega) hhi (fun i _ => hz i)
  have hp3 : d3.Plain := ⟨h2.off, h3⟩
  refine (format_space h (DiskM.new_plain n) hlo hhi (by show 0 + 10000 < 1099511627776; omega) h1 hp3 h4 h2.quiet).mono ?_
  rintro e w' ⟨rfl, h5⟩
  rw [fmtD7, show (DiskM.new n).len = n from rfl] at h5
  rw [show ((DiskM.new n).put 0 zeroSec).bar.len = n from rfl] at h4
  generalize firstB n - 621 = q at h5
  refine ⟨_, rfl, ?_, ?_, ?_, h5⟩
  · obtain ⟨c1, c2, c3, c4, c5⟩ := cleanD_is hp3 q
    have hl : ((cleanD d3 q).bar.put 0 (superB n)).bar.len = n := c2.trans h4
    have hs : ∀ i, ((cleanD d3 q).bar.put 0 (superB n)).bar.sure i = updS (cleanD d3 q).now 0 (superB n) i := fun i => by
      show ((cleanD d3 q).bar.put 0 (superB n)).now i = _
      rw [now_put, now_bar]
    refine ⟨c1.off, rfl, by decide, by rw [hl]; omega, by rw [hl]; omega, ?_, fun i hi => ?_⟩
    · rw [hs]
      unfold updS
      rw [if_neg (by decide), c5, if_neg (by omega), now_quiet h2.quiet]
      exact h2.rest.head
    · rw [hs]
      unfold freshF updS
      by_cases h0 : i = 0
      · rw [if_pos h0, if_pos h0]
      · rw [if_neg h0, if_neg h0, c5]
        split
        · rfl
        · exact h2.now (by omega)
  · exact (cleanD_is hp3 q).1.fuse
  · exact (cleanD_is hp3 q).2.1.trans h4

end Go.Proofs.YtcggloceabjjdaaGreat
