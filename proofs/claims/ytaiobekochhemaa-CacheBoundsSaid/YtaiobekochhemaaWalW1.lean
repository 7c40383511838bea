/- The log's small functions; no condition. -/
import Derived.Test.YtaiobekochhemaaWalM
import Derived.Test.YtaiobekochhemaaDiskT
import Derived.Lib.LazyBuf
namespace Go.Proofs.Ytaiobekochhemaa
open Go.RowKit Go.MapKept

theorem lists_any (w : World) (n : Nat) (hn : n ≤ 9223372036854775000) :
    Calls Try.prog 110 #[.int .i64 n] w fun e w' => e = .returned (.int .i64 (listsN n)) ∧ w = w' := by
  go_enter Try.func110, Try.ntmps110
  go_wp2
  go_ret
  exact ⟨by unfold listsN; go_num, rfl⟩

theorem room_any (w : World) (n : Int) (hn : -9223372036854775808 ≤ n ∧ n ≤ 9223372036854775807) :
    Calls Try.prog 92 #[.int .i64 n] w fun e w' => e = .returned (.int .i64 (roomN n.toNat)) ∧ w = w' := by
  by_cases h3 : n < 3
  · go_enter Try.func92, Try.ntmps92
    go_wp2
    go_ret
    refine ⟨?_, rfl⟩
    rw [show roomN n.toNat = 0 by unfold roomN; rw [if_pos (by omega)]]
    rfl
  · have e1 : (n - 1).tdiv 33 = (n - 1) / 33 := Int.tdiv_eq_ediv_of_nonneg (by omega)
    have e2 : (n - 1).tmod 33 = (n - 1) % 33 := Int.tmod_eq_emod_of_nonneg (by omega)
    go_enter Try.func92, Try.ntmps92
    go_wp2
    all_goals
      go_ret
      refine ⟨?_, rfl⟩
      unfold roomN
      rw [if_neg (by omega)]
      go_num

theorem there_any {p : Nat} {d : DiskM} {R : Assn} {w : World} (h : Bears w (diskA p d * R)) (at' size : Int) (ha : -9223372036854775808 ≤ at' ∧ at' ≤ 9223372036854775807) (hs : -9223372036854775808 ≤ size ∧ size ≤ 9223372036854775807) :
    Calls Try.prog 89 #[.pointer (some ⟨p, 0, none⟩), .int .i64 at', .int .i64 size] w fun e w' => e = .returned (.bool (wThere d at' size)) ∧ Bears w' (diskA p d * R) := by
  obtain ⟨_, _, _, _, _, hwf, _⟩ := Bears.disk.1 h
  have hlen := hwf.len
  unfold wThere
  by_cases h3 : 3 ≤ size
  · by_cases h4 : size ≤ (d.len : Int)
    · by_cases h5 : 0 ≤ at'
      · simp only [h3, h4, h5, decide_true, Bool.true_and]
        go_enter Try.func89, Try.ntmps89
        go_wp2_with fail
        refine (len_any h).mono ?_
        rintro e w' ⟨rfl, rfl⟩
        go_wp2_with fail
        refine (len_any h).mono ?_
        rintro e w' ⟨rfl, rfl⟩
        go_wp2_with fail
        go_ret
        exact ⟨rfl, h⟩
      · simp only [h3, h4, h5, decide_true, Bool.true_and, decide_false, Bool.false_and]
        go_enter Try.func89, Try.ntmps89
        go_wp2_with fail
        refine (len_any h).mono ?_
        rintro e w' ⟨rfl, rfl⟩
        go_wp2_with fail
        go_ret
        exact ⟨rfl, h⟩
    · simp only [h3, h4, decide_true, Bool.true_and, decide_false, Bool.false_and]
      go_enter Try.func89, Try.ntmps89
      go_wp2_with fail
      refine (len_any h).mono ?_
      rintro e w' ⟨rfl, rfl⟩
      go_wp2_with fail
      go_ret
      exact ⟨rfl, h⟩
  · simp only [h3, decide_false, Bool.false_and]
    go_enter Try.func89, Try.ntmps89
    go_wp2_with fail
    go_ret
    exact ⟨rfl, h⟩

theorem or_byte (x c : Int) (hx : x % 256 = 0) (h0 : 0 ≤ c) (h1 : c < 256) (hl : -9223372036854775808 ≤ x) (hh : x + c ≤ 9223372036854775807) : bits .or .i64 x c = x + c := by
  have e1 : (BitVec.ofInt 64 x).toNat = (x % 18446744073709551616).toNat := by simp [BitVec.toNat_ofInt]
  have e2 : (BitVec.ofInt 64 c).toNat = c.toNat := by simp [BitVec.toNat_ofInt]; omega
  have e3 : (BitVec.ofInt 64 x ||| BitVec.ofInt 64 c).toNat = (x % 18446744073709551616).toNat + c.toNat := by
    rw [BitVec.toNat_or, e1, e2]
    exact nat_join 8 _ _ (by omega) (by omega)
  show IntKind.i64.wrap ((BitVec.ofInt 64 x ||| BitVec.ofInt 64 c).toNat : Nat) = x + c
  rw [e3, IntKind.wrap_i64]
  omega

theorem number_any {blk o m cap : Nat} {l : List UInt8} {ty : TypeId} {R : Assn} {w : World} (h : Bears w (Assn.obj blk (.cells (cellsV l).toArray ty (0, 0)) * R)) (n : Int) (hm : o + m ≤ l.length) (hm8 : m ≤ 8) :
    Calls Try.prog 111 #[.slice (some ⟨blk, o, none⟩) m cap, .int .i64 n] w fun e w' => e = .returned (.tuple #[]) ∧ Bears w' (Assn.obj blk (.cells (cellsV (putAt l o (numB m n))).toArray ty (0, 0)) * R) := by
  go_enter Try.func111, Try.ntmps111
  go_wp2_with fail
  go_loopw [7] (fun i wr => ∃ k : Nat, k ≤ m ∧ i = .int .i64 k ∧ Bears wr (Assn.obj blk (.cells (cellsV (putAt l (o + (m - k)) (numB k n))).toArray ty (0, 0)) * R))
    (fun i _ => m - (intOf i).toNat)
  case atStart => exact ⟨0, by omega, rfl, h.cast (by rw [numB, putAt_nil])⟩
  case round =>
    obtain ⟨k, hk, rfl, h1⟩ := hrel
    by_cases hlt : k < m
    · have hs : (putAt l (o + (m - k)) (numB k n)).set (o + (m - 1 - k)) (byteAt n k) = putAt l (o + (m - (k + 1))) (numB (k + 1) n) := by
        rw [show o + (m - k) = (o + (m - 1 - k)) + 1 by omega, putAt_set (by rw [numB_length]; omega)]
        rw [show m - 1 - k = m - (k + 1) by omega]
        rfl
      have hll : (putAt l (o + (m - k)) (numB k n)).length = l.length := putAt_length (by rw [numB_length]; omega)
      have hb := byteV_byteAt n k
      have h2 := h1.setByte (o + (m - 1 - k)) (byteAt n k)
      rw [hs] at h2
      have hc := h1.byteCell (j := o + (m - 1 - k)) (by rw [hll]; omega)
      have hf := frozen_of_obj h1.obj (o + (m - 1 - k))
      generalize (putAt l (o + (m - k)) (numB k n)).getD (o + (m - 1 - k)) 0 = old at hc
      generalize putAt l (o + (m - k)) (numB k n) = l1 at h1 hll
      unfold byteV at h2 hb
      rw [hb] at h2
      clear hb hs hll
      go_wp2_with fail
      go_roundw
      case rel => exact ⟨k + 1, hlt, by go_num, h2⟩
      case measure => simp [intOf]; omega
    · obtain rfl : k = m := by omega
      go_wp2
      go_end0
      exact ⟨rfl, h1.cast (by simp)⟩

theorem taken_any {ad : Option Addr} {m cap : Nat} {l : List UInt8} {R : Assn} {w : World} (h : Bears w R) (hb : R.Tells (fun w => BytesIn w (.slice ad m cap) l)) (hl : l.length ≤ 9223372036854775807) :
    Calls Try.prog 90 #[.slice ad m cap] w fun e w' => e = .returned (.int .i64 (takenB l)) ∧ Bears w' R := by
  obtain rfl := (hb _ h).len
  go_enter Try.func90, Try.ntmps90
  go_wp2_with fail
  go_loopw [3, 8] (fun n i wr => ∃ k : Nat, k ≤ l.length ∧ i = .int .i64 k ∧ n = .int .i64 (takenB (l.take k)) ∧ Bears wr R)
    (fun _ i _ => l.length - (intOf i).toNat)
  case atStart => exact ⟨0, by omega, rfl, by simp [takenB, beN, wrap64], h⟩
  case round =>
    obtain ⟨k, hk, rfl, rfl, h1⟩ := hrel
    by_cases hlt : k < l.length
    · obtain ⟨b, o, rfl, hcell⟩ := (hb _ h1).cell hlt
      have e1 : takenB (l.take (k + 1)) = wrap64 (takenB (l.take k) * 256) + (l.getD k 0).toNat := by
        have e : l.take (k + 1) = l.take k ++ [l.getD k 0] := by rw [List.take_succ_eq_append_getElem hlt]; simp [hlt]
        rw [e]
        unfold takenB
        rw [beN_snoc]
        have := (l.getD k 0).toNat_lt
        unfold wrap64
        omega
      have hr : -9223372036854775808 ≤ takenB (l.take k) ∧ takenB (l.take k) ≤ 9223372036854775807 := by unfold takenB wrap64; omega
      have hc := (l.getD k 0).toNat_lt
      have ho := or_byte (wrap64 (takenB (l.take k) * 256)) ((l.getD k 0).toNat : Int) (by unfold wrap64; omega) (by omega) (by omega) (by unfold wrap64; omega) (by unfold wrap64; omega)
      generalize l.getD k 0 = c at hcell e1 hc ho
      generalize takenB (l.take k) = x at hr ho e1
      have E1 := Lib.hid e1
      have Ho := Lib.hid ho
      clear e1 ho
      go_wp2_with fail
      go_roundw
      case rel =>
        refine ⟨k + 1, hlt, by go_num, ?_, h1⟩
        rw [E1.out, ← Ho.out]
      case measure => simp [intOf]; omega
    · obtain rfl : k = l.length := by omega
      go_wp2
      go_ret
      exact ⟨by simp, h1⟩

theorem setList_cellsV {l s : List UInt8} {o : Nat} (h : o + s.length ≤ l.length) : setList (cellsV l).toArray o (cellsV s) = (cellsV (putAt l o s)).toArray := by
  apply Array.toList_inj.1
  rw [setList_toList _ _ _ (by simpa using h)]
  simp [cellsV, putAt]

theorem headB_built (size groups hand : Int) : putAt (putAt (putAt (putAt (List.replicate 64 0) 0 markB) 13 (numB 4 size)) 17 (numB 8 groups)) 25 (numB 2 hand) = headB size groups hand := rfl

/-- The mark, copied into new bytes. -/
theorem copy_mark {w : World} {g : Nat} {l : List UInt8} {R : Assn} (h : Bears w (Assn.obj g (.cells (cellsV l).toArray 5 (0, 0)) * R)) (hl : l.length = 64) :
    ∃ w', (Builtin.copy_ #[43, 9] 3 #[.slice (some ⟨g, 0, none⟩) 64 64, .string ⟨#[101, 115, 116, 97, 102, 101, 116, 116, 101, 58, 108, 111, 103]⟩]).run Try.prog w = .ok (goInt 13) w' ∧
      Bears w' (Assn.obj g (.cells (cellsV (putAt l 0 markB)).toArray 5 (0, 0)) * R) := by
  have hz : ∀ w, (Go.sizeOf 5).run Try.prog w = .ok 1 w := fun w => by kernel_rfl
  refine ⟨_, run_copy_string (P := Try.prog) w 43 9 3 5 g 0 64 64 ⟨#[101, 115, 116, 97, 102, 101, 116, 116, 101, 58, 108, 111, 103]⟩ Try.underlying43 hz (by decide)
    (fun j hj => by rw [Nat.zero_add, cell_of_obj h.obj]; have : j < 13 := hj; simp [hl]; omega) (fun j hj => frozen_of_obj h.obj _), ?_⟩
  have h2 := h.setCells 0 (cellsV markB)
  rw [setList_cellsV (by rw [hl]; decide)] at h2
  exact h2

set_option maxRecDepth 100000 in
set_option maxHeartbeats 800000 in
theorem whead_any {R : Assn} {w : World} (h : Bears w R) (size groups hand : Int) :
    Calls Try.prog 91 #[.int .i64 size, .int .i64 groups, .int .i64 hand] w fun e w' => ∃ g, e = .returned (.slice (some ⟨g, 0, none⟩) 64 64) ∧ Bears w' (Assn.obj g (.cells (cellsV (headB size groups hand)).toArray 5 (0, 0)) * R) := by
  rw [← headB_built]
  have hzl : (List.replicate 64 (0 : UInt8)).length = 64 := rfl
  have hmk : ∀ w, (Instr.makeSlice 43 (.int .i64 64) (.int .i64 64)).run Try.prog w = .ok (.slice (some ⟨w.heap.size, 0, none⟩) 64 64) (w.alloc (.cells (cellsV (List.replicate 64 0)).toArray 5)) := fun _ => by kernel_rfl
  generalize List.replicate 64 (0 : UInt8) = z at hzl hmk
  have h1 := h.alloc (.cells (cellsV z).toArray 5)
  obtain ⟨w1, hcp, h2⟩ := copy_mark h1 hzl
  have l1 : (putAt z 0 markB).length = 64 := by rw [putAt_length (by rw [hzl]; decide)]; exact hzl
  generalize putAt z 0 markB = z1 at l1 h2
  have l2 : (putAt z1 13 (numB 4 size)).length = 64 := by rw [putAt_length (by rw [l1, numB_length]; decide)]; exact l1
  have l3 : (putAt (putAt z1 13 (numB 4 size)) 17 (numB 8 groups)).length = 64 := by rw [putAt_length (by rw [l2, numB_length]; decide)]; exact l2
  clear h h1
  go_enter Try.func91, Try.ntmps91
  go_wp2_with (refine wpList_op rfl (exec_copy rfl rfl rfl hcp) ?_)
  refine (number_any (o := 13) (m := 4) h2 size (by rw [l1]; decide) (by decide)).mono ?_
  rintro e w2 ⟨rfl, h3⟩
  go_wp2_with fail
  refine (number_any (o := 17) (m := 8) h3 groups (by rw [l2]; decide) (by decide)).mono ?_
  rintro e w3 ⟨rfl, h4⟩
  go_wp2_with fail
  refine (number_any (o := 25) (m := 2) h4 hand (by rw [l3]; decide) (by decide)).mono ?_
  rintro e w4 ⟨rfl, h5⟩
  go_wp2_with fail
  go_ret
  exact ⟨_, rfl, h5⟩

end Go.Proofs.Ytaiobekochhemaa
