/- Texts of this claim, put together: IGapsM, IGapsW, RowB, Ops, OpsZ, Arr2; no condition. -/
import Derived.Test.YtggbnelbnbaoiaaM26025afd3a
import Derived.Test.YtggbnelbnbaoiaaChecked
import Derived.Deep.Slices
import Derived.Deep.Fields
import Derived.SizedLaws
import Derived.ChangeMaps5

set_option linter.unusedSimpArgs false
set_option linter.unusedVariables false

/- InodeGaps, plain: what its calls lead to; a row of bytes that is made longer; no condition. -/
namespace Go.Proofs.Ytggbnelbnbaoiaa
open Go.RowKit Go.MapKept

theorem gaps_go {c k : Nat} {b more : List UInt8} (hb : b.length ≤ 3000) (hm : more.length ≤ 300) (hc : c ≤ b.length) (hk : k < 4000) : ∃ C2 C3 C4 : FvM,
    ((fresh0 1400).set 0 ⟨1, 1, []⟩ 0).write 0 0 b = (0, C2) ∧ C2.cut 0 c = (0, C3) ∧ C3.write 0 k more = (0, C4) ∧ C4.read 0 0 16384 = (0, dataW (b.take c) k more) := by
  have hfr : ((fresh0 1400).set 0 ⟨1, 1, []⟩ 0).fr = 648 := by show ((1400 - firstB 1400 : Nat) : Int) + 0 = 648; decide
  have l2 : (b.take c).length = c := by rw [List.length_take]; omega
  have e1 : dataW [] 0 b = b := dataW_end [] b
  have hcb := costD_le (l := b) (by omega)
  obtain ⟨C2, h1, f1, r1⟩ := FvM.wr_ok (C := (fresh0 1400).set 0 ⟨1, 1, []⟩ 0) (n := 0) (f := ⟨1, 1, []⟩) (by decide) (by unfold FvM.set; simp) (by decide) (a := 0) (b := b) (by omega) (by
    rw [hfr, e1, costD_nil]; omega)
  rw [e1, costD_nil, hfr] at r1
  simp only [e1] at f1
  have g2 : C2.fs 0 = ⟨1, 1, b⟩ := by rw [f1]; simp
  obtain ⟨C3, h2, f2, r2⟩ := FvM.cut_ok (C := C2) (n := 0) (by decide) g2 Nat.one_ne_zero (a := c) hc
  have g3 : C3.fs 0 = ⟨1, 1, b.take c⟩ := by rw [f2]; simp
  have hdl : (dataW (b.take c) k more).length ≤ 16384 := by
    unfold dataW
    split
    · omega
    · rw [wrD_length]; omega
  have hcd := costD_le hdl
  have hc0 : 0 ≤ costD (b.take c) := by unfold costD; omega
  have hc1 : 0 ≤ costD b := by unfold costD; omega
  simp only at r2
  obtain ⟨C4, h3, f3, r3⟩ := FvM.wr_ok (C := C3) (n := 0) (by decide) g3 Nat.one_ne_zero (a := k) (b := more) (by omega) (by
    simp only
    have hct := costD_le (l := b.take c) (by omega)
    omega)
  have g4 : C4.fs 0 = ⟨1, 1, dataW (b.take c) k more⟩ := by rw [f3]; simp
  have rd := FvM.read_ok (C := C4) (n := 0) (by decide) g4 Nat.one_ne_zero 16384
  simp only at rd
  rw [List.take_of_length_le hdl] at rd
  exact ⟨C2, C3, C4, h1, h2, h3, rd⟩

/-- Noughts behind bytes. -/
def padB (l : List UInt8) (n : Nat) : List UInt8 := l ++ List.replicate n 0
theorem padB_succ (l : List UInt8) (n : Nat) : padB l n ++ [0] = padB l (n + 1) := by
  unfold padB
  rw [List.append_assoc, List.replicate_succ']
theorem padB_length (l : List UInt8) (n : Nat) : (padB l n).length = l.length + n := by simp [padB]
theorem pad_put {l b : List UInt8} {a : Nat} (hb : b ≠ []) : putAt (padB l (a + b.length - l.length)) a b = dataW l a b := by
  unfold dataW
  rw [if_neg hb]
  have hl : (padB l (a + b.length - l.length)).length = max l.length (a + b.length) := by rw [padB_length]; omega
  have hla : ((padB l (a + b.length - l.length)).take a).length = a := by rw [List.length_take]; omega
  refine list_ext0 (by rw [putAt_length (by omega), wrD_length, hl]) fun i => ?_
  rw [wrD_getD]
  have hp : ∀ i, (padB l (a + b.length - l.length)).getD i 0 = l.getD i 0 := fun i => by
    unfold padB
    rw [getD_append]
    split
    · rfl
    · rw [getD_over (l := l) (by omega), List.getD_eq_getElem?_getD, List.getElem?_replicate]
      split <;> rfl
  unfold putAt wrB
  rw [List.append_assoc, getD_append, hla]
  by_cases h1 : i < a
  · rw [if_pos h1, if_neg (by omega), getD_take0, if_pos h1, hp]
  · rw [if_neg h1, getD_append]
    by_cases h2 : i - a < b.length
    · rw [if_pos h2, if_pos (by omega)]
    · rw [if_neg h2, if_neg (by omega), List.getD_eq_getElem?_getD, List.getElem?_drop, ← List.getD_eq_getElem?_getD, show a + b.length + (i - a - b.length) = i by omega, hp]

/-- Bytes are copied into the end of a row. -/
theorem copy_rowN {w : World} {g o c n dCap sn sc : Nat} {l s : List UInt8} {ad : Option Addr} {R : Assn} (h : Bears w (rowA 5 1 (.slice (some ⟨g, 0, none⟩) n c) n (cellsV l) * R)) (hl : l.length = n) (hs : R.Tells (fun w => BytesIn w (.slice ad sn sc) s))
    (hne : s ≠ []) (hfit : o + s.length ≤ n) :
    ∃ w', (Builtin.copy_ #[33, 33] 3 #[.slice (some ⟨g, o, none⟩) (n - o) dCap, .slice ad sn sc]).run Try.prog w = .ok (goInt s.length) w' ∧
      Bears w' (rowA 5 1 (.slice (some ⟨g, 0, none⟩) n c) n (cellsV (putAt l o s)) * R) := by
  obtain rfl : sn = s.length := (hs _ h.right).len
  obtain ⟨b, so, rfl, hr⟩ := (hs _ h.right).at hne
  have hrun := run_copy_cells (P := Try.prog) w 33 33 3 5 g o (n - o) dCap ⟨b, so, none⟩ s.length sc (cellsV s) u_bytes (by kernel_rfl) (by rw [length_cellsV]; exact (Nat.min_eq_left (by omega)).symm)
    (addr_cells hr)
    (fun j hj => by
      rw [length_cellsV] at hj
      rw [h.rowCell (i := o + j) (by omega) (v := (cellsV l)[o + j]'(by simp; omega)) (List.getElem?_eq_getElem _)]
      rfl)
    (fun j hj => h.rowFrozen _) (oneCell_cellsV _)
  rw [length_cellsV] at hrun
  refine ⟨_, hrun, ?_⟩
  have h2 := h.rowSets (cellsV s) o (by rw [length_cellsV]; omega)
  rw [setList_cellsV (by omega)] at h2
  exact h2

end Go.Proofs.Ytggbnelbnbaoiaa

/- InodeGaps walked; no condition. -/
namespace Go.Proofs.Ytggbnelbnbaoiaa
open Go.RowKit Go.MapKept

def slLen : Value → Nat
  | .slice _ n _ => n
  | _ => 0
/-- 'append([]byte{}, s...)', as a row that grows on. -/
theorem wpList_append_row {w : World} {ops : Array Oper} {rest : List Oper} {o : Oper} {a : Act} {Q : Exit → Act → World → Prop} {s x : Operand} {R : Assn} {b0 : Addr} (h : Bears w (rowA 5 1 (.slice (some b0) 0 0) 0 [] * R)) (hg : o.guard = none)
    (ho : o.op = .call { callee := .builtin .append, args := #[s, x], argTypes := #[33, 33] }) {ad : Option Addr} {n c : Nat} {l : List UInt8} (hs : a.eval s = .slice (some b0) 0 0) (hx : a.eval x = .slice ad n c)
    (hb : BytesIn w (.slice ad n c) l) (hl : l.length ≤ 100000) (hK : ∀ a' c' w', Bears w' (rowA 5 1 (.slice a' n c') n (cellsV l) * R) → wpList Try.prog ops Q rest (a.put o.dst (.slice a' n c')) w') : wpList Try.prog ops Q (o :: rest) a w := by
  have hn := hb.len
  subst hn
  obtain ⟨i0, hi0, hz0, hz1, hz2⟩ := info_parts i_byte
  by_cases h0 : l = []
  · subst h0
    refine wpList_plain hg fun K hK' => ?_
    have hr : (Builtin.append_ #[33, 33] o.type #[.slice (some b0) 0 0, .slice ad 0 c]).run Try.prog w = .ok (.slice (some b0) 0 0) w := by
      cases ad <;> simp [Builtin.append_, run_underlying Try.underlying33, sizeOf, typeInfo, hi0, storeCells, Builtin.lenOf, Builtin.firstCells, loadCells, loadCellsFrom]
    have hx' : a.eval x = .slice ad 0 c := hx
    unfold Oper.wp execOp
    simp only [ho, resolve, invoke, builtin, Sem.run_bind, Sem.run_pure, Result.andThen_ok, List.map_toArray, List.map_cons, List.map_nil, hs, hx', hr]
    exact hK' _ _ (hK _ _ _ h)
  · obtain ⟨b, ob, rfl, hr⟩ := hb.at h0
    refine wpList_append_bears h hg ho u_bytes hi0 hz0 hz1 hz2 (by simp [Value.cells]) (by decide) hs (ad := ⟨b, ob, none⟩) (m := l.length) (c := c) (news := cellsV l) hx (by rw [length_cellsV, Nat.mul_one]) (addr_cells hr) (oneCell_cellsV _) (by unfold maxLen; omega) (by omega) ?_
    intro a' c' w' h'
    rw [Nat.zero_add] at h' ⊢
    exact hK a' c' w' h'

set_option maxRecDepth 100000 in
set_option maxHeartbeats 1000000 in
theorem inodeGaps_walk {R : Assn} {w : World} (h : Bears w R) {ad0 ad1 : Option Addr} {n0 cap0 n1 cap1 : Nat} {l0 l1 : List UInt8} (hl0 : R.Tells (fun w => BytesIn w (.slice ad0 n0 cap0) l0)) (hc0 : n0 ≤ cap0) (hl1 : R.Tells (fun w => BytesIn w (.slice ad1 n1 cap1) l1)) (hc1 : n1 ≤ cap1) (hm0 : cap0 ≤ 9223372036854775807) (hm1 : cap1 ≤ 9223372036854775807)
    (x0 x1 : Int) (h0 : -9223372036854775808 ≤ x0 ∧ x0 ≤ 9223372036854775807) (h1 : -9223372036854775808 ≤ x1 ∧ x1 ≤ 9223372036854775807) :
    Calls Try.prog 6 #[.slice ad0 n0 cap0, .slice ad1 n1 cap1, .agg #[.int .i64 x0, .int .i64 x1]] w fun e w' => e = .returned (.bool true) ∧ Bears w' R := by
  have k1 := fun w => kind5_any x1 4000 w h1 (by omega)
  obtain ⟨k, hk, ek⟩ := kindN_lt x1 4000 (by omega)
  rw [show ((4000 : Nat) : Int) = 4000 from rfl] at ek
  simp only [ek] at k1
  have k0 : ∀ n, n ≤ 3000 → ∃ c : Nat, c ≤ n ∧ ∀ w, Calls Try.prog 10 #[.int .i64 x0, .int .i64 ((n : Int) + 1)] w fun e w' => e = .returned (.int .i64 (c : Int)) ∧ w = w' := by
    intro n hn
    obtain ⟨c, hc, ec⟩ := kindN_lt x0 (n + 1) (by omega)
    rw [show ((n + 1 : Nat) : Int) = (n : Int) + 1 by omega] at ec
    have := fun w => kind5_any x0 ((n : Int) + 1) w h0 (by omega)
    simp only [ec] at this
    exact ⟨c, by omega, this⟩
  have hmk : (fresh0 1400).make 1 = (0, 0, (fresh0 1400).set 0 ⟨1, 1, []⟩ 0) := FvM.make_ok (C := fresh0 1400) (n := 0) (by decide) rfl (fun m hm => by omega) (kd := 1) (.inl rfl)
  have hgo : ∀ (c : Nat) (b more : List UInt8), b.length ≤ 3000 → more.length ≤ 300 → c ≤ b.length → _ := fun c b more h1 h2 h3 => gaps_go (k := k) h1 h2 h3 hk
  generalize hC0 : fresh0 1400 = C0 at hmk hgo
  have HC0 := Lib.hid hC0
  have K0 := Lib.hid k0
  have K1 := Lib.hid k1
  have Hmk := Lib.hid hmk
  have Hgo := Lib.hid hgo
  have hb := h.alloc (.cells #[.int .i64 x0, .int .i64 x1] 53)
  have hz8 : ∀ w, (Go.sizeOf 5).run Try.prog w = .ok 1 w := fun w => by kernel_rfl
  clear k0 k1 ek hmk hgo h0 h1 hC0
  go_enter Try.func6, Try.ntmps6
  go_wp2_with fail
  refine (shown5_any hb).mono ?_
  rintro e w1 ⟨rfl, h1⟩
  generalize w.heap.size = xb at h1 ⊢
  go_wp2_with fail
  refine (ground5_any (n := 1400) (by omega) (by omega) h1).mono ?_
  rintro e w2 ⟨pd, s, f, d, rfl, hfu, h2⟩
  rw [HC0.out] at h2
  go_upto_if 33 with (fail)
  go_cut [0] (fun v wr => ∃ (n2 cap2 : Nat) (l2 : List UInt8), v = .slice ad0 n2 cap2 ∧ n2 ≤ 3000 ∧ n2 ≤ cap2 ∧ R.Tells (fun w => BytesIn w (.slice ad0 n2 cap2) l2) ∧ Bears wr (fvA f s pd d 1400 0 true C0 C0 * (Assn.obj xb (.cells #[.int .i64 x0, .int .i64 x1] 53 (0, 0)) * R)))
  case first =>
    by_cases hlong : 3000 < n0
    · have hI : (3000 : Int) < (n0 : Int) := by omega
      go_wp2_with (refine wpList_op rfl (exec_to (hi := 3000) rfl Try.underlying33 (hz8 _) rfl rfl (by omega)) ?_)
      go_meet
      case rel => exact ⟨3000, cap0, l0.take 3000, rfl, by omega, by omega, hl0.mono (fun w' h => h.pre (by omega) cap0), h2⟩
    · have hI : (n0 : Int) ≤ 3000 := by omega
      go_wp2_with fail
      go_meet
      case rel => exact ⟨n0, cap0, l0, rfl, by omega, by omega, hl0, h2⟩
  case' rest =>
    obtain ⟨n2, cap2, l2, rfl, hn2, hnc2, hl2, h3⟩ := hcut
  clear h2 h1 hb hl0
  go_upto_if 38 with (fail)
  go_cut [1] (fun v wr => ∃ (n3 cap3 : Nat) (l3 : List UInt8), v = .slice ad1 n3 cap3 ∧ n3 ≤ 300 ∧ n3 ≤ cap3 ∧ R.Tells (fun w => BytesIn w (.slice ad1 n3 cap3) l3) ∧ Bears wr (fvA f s pd d 1400 0 true C0 C0 * (Assn.obj xb (.cells #[.int .i64 x0, .int .i64 x1] 53 (0, 0)) * R)))
  case first =>
    by_cases hlong : 300 < n1
    · have hI : (300 : Int) < (n1 : Int) := by omega
      go_wp2_with (refine wpList_op rfl (exec_to (hi := 300) rfl Try.underlying33 (hz8 _) rfl rfl (by omega)) ?_)
      go_meet
      case rel => exact ⟨300, cap1, l1.take 300, rfl, by omega, by omega, hl1.mono (fun w' h => h.pre (by omega) cap1), h3⟩
    · have hI : (n1 : Int) ≤ 300 := by omega
      go_wp2_with fail
      go_meet
      case rel => exact ⟨n1, cap1, l1, rfl, by omega, by omega, hl1, h3⟩
  case' rest =>
    obtain ⟨n3, cap3, l3, rfl, hn3, hnc3, hl3, h4⟩ := hcut
  have hb2 : n2 = l2.length := (hl2 _ h4.right.right).len
  have hb3 : n3 = l3.length := (hl3 _ h4.right.right).len
  obtain ⟨c, hc, kc⟩ := K0.out n2 hn2
  obtain ⟨C2, C3, C4, s1, s2, s3, s4⟩ := Hgo.out c l2 l3 (by omega) (by omega) (by omega)
  have HH := Lib.hid (And.intro s1 (And.intro s2 (And.intro s3 s4)))
  have Kc := Lib.hid kc
  have Hb2 := Lib.hid hb2
  have Hb3 := Lib.hid hb3
  clear s1 s2 s3 s4 kc hl1 h3 hb2 hb3
  go_wp2_with fail
  refine (fv_make h4 1).mono ?_
  rintro e w5 ⟨rfl, h5⟩
  rw [Hmk.out] at h5 ⊢
  go_wp2_with fail
  refine (fv_write h5 0 0 (b := l2) hl2.right hnc2 (by omega)).mono ?_
  rintro e w6 ⟨rfl, h6⟩
  rw [HH.out.1] at h6 ⊢
  have d0 := cell_of_obj h6.pull2.obj 0
  simp only [List.getElem?_toArray, List.getElem?_cons_zero, List.getElem?_cons_succ] at d0
  go_wp2_with fail
  refine (Kc.out _).mono ?_
  rintro e w' ⟨rfl, rfl⟩
  go_wp2_with fail
  refine (fv_cut h6 0 c).mono ?_
  rintro e w7 ⟨rfl, h7⟩
  rw [HH.out.2.1] at h7 ⊢
  have d1 := cell_of_obj h7.pull2.obj 1
  simp only [List.getElem?_toArray, List.getElem?_cons_zero, List.getElem?_cons_succ] at d1
  go_wp2_with fail
  refine (K1.out _).mono ?_
  rintro e w' ⟨rfl, rfl⟩
  go_wp2_with fail
  refine (fv_write h7 0 k (b := l3) hl3.right hnc3 (by omega)).mono ?_
  rintro e w8 ⟨rfl, h8⟩
  rw [HH.out.2.2.1] at h8 ⊢
  go_wp2_with fail
  refine (fv_read h8 0 0 16384 (by omega) (by omega)).mono ?_
  rintro e w9 ⟨ad9, ln9, cap9, rfl, h9⟩
  rw [HH.out.2.2.2] at h9 ⊢
  have h10 := h9.zeroRow (e := 5) (size := 1)
  have tb := (hl2 _ h10.right.right.right.right).pre (p := c) (by omega) cap2
  by_cases hz : n3 = 0
  · have he : l3 = [] := List.length_eq_zero_iff.1 (by rw [← Hb3.out]; exact hz)
    have hd : dataW (l2.take c) k l3 = l2.take c := by unfold dataW; rw [if_pos he]
    rw [hd] at h9 h10
    have hzI : (n3 : Int) = 0 := by omega
    have hsl : n3 ≤ 0 := by omega
    clear he hd hz hzI
    obtain rfl : n3 = 0 := by omega
    clear hsl
    generalize l2.take c = D at *
    go_wp2_with (first
      | (refine wpList_op rfl (exec_to (hi := c) rfl Try.underlying33 (hz8 _) rfl rfl (by omega)) ?_)
      | (at_builtin; refine wpList_append_row h10 rfl rfl rfl rfl tb (by rw [← tb.len]; omega) ?_; intro a11 c11 w11 h11; have r1 := run_convert_in (buf_tells _ h11.pull2); have r2 := run_convert_in (buf_tells _ h11.bufRow))
      | (refine wpList_conv rfl rfl rfl r1 ?_)
      | (refine wpList_conv rfl rfl rfl r2 ?_))
    go_ret
    exact ⟨rfl, h11.right.right.right.right⟩
  · have hne : l3 ≠ [] := by intro e; rw [e] at Hb3; exact hz Hb3.out
    have hn3I : (0 : Int) < (n3 : Int) := by omega
    have hlt2 : (l2.take c).length = c := by rw [List.length_take, ← Hb2.out]; omega
    have hpp := pad_put (l := l2.take c) (a := k) hne
    rw [hlt2, ← Hb3.out] at hpp
    have Hpp := Lib.hid hpp
    have Hne := Lib.hid hne
    have Hlt2 := Lib.hid hlt2
    clear hpp hne hlt2
    generalize dataW (l2.take c) k l3 = DW at *
    generalize l2.take c = D at *
    obtain ⟨i0, hi0, hz0, hz1, hz2⟩ := info_parts i_byte
    go_wp2_with (first
      | (refine wpList_op rfl (exec_to (hi := c) rfl Try.underlying33 (hz8 _) rfl rfl (by omega)) ?_)
      | (at_builtin; refine wpList_append_row h10 rfl rfl rfl rfl tb (by rw [← tb.len]; omega) ?_; intro a11 c11 w11 h11))
    clear h10 h9 h8 h7 h6 h5 h4 tb
    go_loopw [18] (fun v wr => ∃ (i : Nat) (a : Option Addr) (cc : Nat), i ≤ k + n3 - c ∧ v = .slice a (c + i) cc ∧ Bears wr (rowA 5 1 (.slice a (c + i) cc) (c + i) (cellsV (padB D i)) * (bufA (.slice ad9 ln9 cap9) DW * (fvA f s pd d 1400 0 true C0 C4 * (Assn.obj xb (.cells #[.int .i64 x0, .int .i64 x1] 53 (0, 0)) * R))))) (fun v _ => (k + n3) - slLen v)
    case atStart => exact ⟨0, a11, c11, by omega, rfl, by unfold padB; simpa using h11⟩
    case round =>
      obtain ⟨i, a, cc, hi, rfl, h12⟩ := hrel
      by_cases hlt : c + i < k + n3
      · have hltI : (c : Int) + (i : Int) < (k : Int) + (n3 : Int) := by omega
        have h13 := (h12.alloc (.cells #[.int .u8 0] 5)).pull2
        have hnews := World.news_of_block (cs := #[.int .u8 0]) h13.pull2.obj
        go_wp2_with (at_builtin; refine wpList_append_bears h13 rfl rfl u_bytes hi0 hz0 hz1 hz2 (by simp [Value.cells]) (by decide) rfl (m := 1) rfl rfl hnews (by intro u hu; simp at hu; rcases hu with rfl; rfl) (by unfold maxLen; omega) (by omega) ?_; intro a14 c14 w14 h14)
        go_roundw
        case rel =>
          refine ⟨i + 1, by omega, a14, c14, ⟨rfl, by omega, rfl⟩, ?_⟩
          rw [← padB_succ]
          have := h14.pull2.right
          simpa [cellsV, byteV, Nat.add_assoc] using this
        case measure => simp [slLen]; omega
      · have hle : (k : Int) + (n3 : Int) ≤ (c : Int) + (i : Int) := by omega
        obtain ⟨rg, rfl, _⟩ := h12.rowAt (k := 0) (by omega)
        obtain ⟨_, cap', e1, hcap, _⟩ := h12.rowForm
        simp only [Value.slice.injEq] at e1
        obtain ⟨-, -, rfl⟩ := e1
        have hi2 : i = k + n3 - c := by omega
        have hpl : (padB D i).length = c + i := by rw [padB_length, Hlt2.out]
        have hn3l : n3 ≤ l3.length := by rw [← Hb3.out]; exact Nat.le_refl _
        obtain ⟨w15, hcp, h15⟩ := copy_rowN (o := k) (dCap := cc - k) h12 hpl hl3.right.right.right Hne.out (by rw [← Hb3.out]; omega)
        rw [hi2] at h15
        rw [Hpp.out] at h15
        rw [← hi2] at h15
        have r1 := run_convert_in (buf_tells _ h15.pull2)
        have r2 := run_convert_in (buf_tells _ h15.bufRow)
        clear hi2 hpl hn3l
        go_wp2_with (first
          | (refine wpList_op rfl (exec_copy rfl rfl rfl hcp) ?_)
          | (refine wpList_conv rfl rfl rfl r1 ?_)
          | (refine wpList_conv rfl rfl rfl r2 ?_))
        go_ret
        exact ⟨rfl, h15.right.right.right.right⟩

end Go.Proofs.Ytggbnelbnbaoiaa

/- From the readings of a row to what a walk is told of its slices; no condition. -/
namespace Go.Proofs.Ytggbnelbnbaoiaa
open Go.RowKit

theorem old_tells {W : World} {p : World → Prop} (h : ∀ w, (∀ b, b < W.heap.size → w.heap[b]? = W.heap[b]?) → p w) : (Assn.old W.heap.size W).Tells p := by
  rintro w ⟨F, rfl, h0, _, _, _, h4⟩
  exact h w h4

/-- The form in which a slice of integers comes in. -/
abbrev RowIn (k : IntKind) (w : World) (a : Option Addr) (len cap : Nat) (zs : List Int) : Prop :=
  (a = none ∧ len = 0 ∧ cap = 0 ∧ zs = []) ∨
  ∃ x, a = some x ∧ len ≤ cap ∧ cap ≤ maxLen ∧ zs.length = cap ∧ (∀ i, i < zs.length → w.cell? (x.add i) = some (.int k (zs.getD i 0))) ∧ ∀ n ∈ zs, (Lit.int k n).wf = true

theorem addr_of_cell {w : World} {x : Addr} {v : Value} (h : w.cell? x = some v) : x = ⟨x.block, x.off, none⟩ := by
  unfold World.cell? at h
  split at h
  · cases hs : x.spot with
    | none => cases x; simp_all
    | some s => simp [hs] at h
  · cases h

theorem row_range {k : IntKind} {W : World} {a : Option Addr} {len cap : Nat} {zs : List Int} (h : RowIn k W a len cap zs) (hl : 0 < len) :
    ∃ b o, a = some ⟨b, o, none⟩ ∧ b < W.heap.size ∧ W.rangeAt b o ((zs.take len).map (Value.int k)) := by
  rcases h with ⟨_, h0, _⟩ | ⟨x, rfl, hlc, _, hz, hc, _⟩
  · omega
  · have h0 := hc 0 (by omega)
    have e0 : x.add 0 = x := by simp [Addr.add]
    rw [e0] at h0
    have ex := addr_of_cell h0
    refine ⟨x.block, x.off, by rw [← ex], World.block_lt_of_cell? W x h0, fun j v hv => ?_⟩
    rw [List.getElem?_map, List.getElem?_take] at hv
    split at hv
    · rename_i hj
      have hj' : j < zs.length := by omega
      have := hc j hj'
      rw [ex, Addr.add_mid] at this
      rw [this]
      rw [List.getElem?_eq_getElem hj'] at hv
      simp only [Option.map_some, Option.some.injEq] at hv
      rw [← hv, List.getD_eq_getElem?_getD, List.getElem?_eq_getElem hj']
      rfl
    · cases hv

theorem range_old {W w : World} {b o : Nat} {cs : List Value} (h : W.rangeAt b o cs) (hb : b < W.heap.size) (hw : ∀ b, b < W.heap.size → w.heap[b]? = W.heap[b]?) : w.rangeAt b o cs :=
  rangeAt_block h (hw b hb)

theorem row_bytes {W : World} {a : Option Addr} {len cap : Nat} {zs : List Int} (h : RowIn .u8 W a len cap zs) :
    ∃ l : List UInt8, l.length = len ∧ (Assn.old W.heap.size W).Tells (fun w => BytesIn w (.slice a len cap) l) ∧ len ≤ 9223372036854775807 := by
  have hlen : (zs.take len).length = len ∧ len ≤ 9223372036854775807 := by
    rcases h with ⟨_, rfl, _, rfl⟩ | ⟨x, _, hlc, hm, hz, _, _⟩
    · simp
    · unfold maxLen at hm
      simp; omega
  have hwf : ∀ n ∈ zs.take len, 0 ≤ n ∧ n ≤ 255 := by
    intro n hn
    rcases h with ⟨_, _, _, rfl⟩ | ⟨x, _, _, _, _, _, hw⟩
    · simp at hn
    · have := hw n (List.mem_of_mem_take hn)
      simp [Lit.wf, IntKind.min, IntKind.max, IntKind.signed, IntKind.bits] at this
      omega
  refine ⟨(zs.take len).map (fun n => UInt8.ofNat n.toNat), by simpa using hlen.1, old_tells (fun w hw => ?_), hlen.2⟩
  have hl2 : ((zs.take len).map (fun n => UInt8.ofNat n.toNat)).length = len := by simpa using hlen.1
  refine ⟨a, cap, by rw [hl2], fun hne => ?_⟩
  have hpos : 0 < len := by rw [← hl2]; exact List.length_pos_iff.2 hne
  obtain ⟨b, o, ha, hb, hr⟩ := row_range h hpos
  refine ⟨b, o, ha, ?_⟩
  have e : cellsV ((zs.take len).map (fun n => UInt8.ofNat n.toNat)) = (zs.take len).map (Value.int .u8) := by
    unfold cellsV
    rw [List.map_map]
    refine List.map_congr_left (fun n hn => ?_)
    have := hwf n hn
    simp only [Function.comp_apply, byteV]
    congr 1
    rw [UInt8.toNat_ofNat_of_lt' (by show n.toNat < 256; omega)]
    omega
  rw [e]
  exact range_old hr hb hw

theorem row_ints {W : World} {a : Option Addr} {len cap : Nat} {zs : List Int} (h : RowIn .i64 W a len cap zs) :
    ∃ l : List Int, l.length = len ∧ (Assn.old W.heap.size W).Tells (fun w => IntsIn w (.slice a len cap) l) ∧ len ≤ 9223372036854775807 ∧ ∀ x ∈ l, -9223372036854775808 ≤ x ∧ x ≤ 9223372036854775807 := by
  have hlen : (zs.take len).length = len ∧ len ≤ 9223372036854775807 := by
    rcases h with ⟨_, rfl, _, rfl⟩ | ⟨x, _, hlc, hm, hz, _, _⟩
    · simp
    · unfold maxLen at hm
      simp; omega
  refine ⟨zs.take len, hlen.1, old_tells (fun w hw => ?_), hlen.2, fun n hn => ?_⟩
  · refine ⟨a, cap, by rw [hlen.1], fun hne => ?_⟩
    have hpos : 0 < len := by rw [← hlen.1]; exact List.length_pos_iff.2 hne
    obtain ⟨b, o, ha, hb, hr⟩ := row_range h hpos
    exact ⟨b, o, ha, range_old hr hb hw⟩
  · rcases h with ⟨_, _, _, rfl⟩ | ⟨x, _, _, _, _, _, hw⟩
    · simp at hn
    · have := hw n (List.mem_of_mem_take hn)
      simp [Lit.wf, IntKind.min, IntKind.max, IntKind.signed, IntKind.bits] at this
      omega

theorem old_below {W w' : World} (h : Bears w' (Assn.old W.heap.size W)) : Below W.heap.size W w' := by
  obtain ⟨F, rfl, h0, h1, h2, h3, h4⟩ := h
  exact ⟨h1, h2, h3, h0, h4⟩

end Go.Proofs.Ytggbnelbnbaoiaa

/- A slice of calls (structs of five cells) that came in: its cells; no condition. -/
namespace Go.Proofs.Ytggbnelbnbaoiaa
open Go.RowKit Go.ChangeShapes Go.WideShapes Go.Deep

section
variable {H : Type} {enc : TypeId × Value → H} {P : Program} {W : World} {spare : Nat → Bool} {held : Bool}

/-- The cells of a slice of structs whose fields are of one cell each, row by row. -/
theorem trod_rows {t e : TypeId} {fs : Array Field} (ht : P.underlying t = some (.slice e)) (he : P.underlying e = some (.struct fs)) (hone : oneCellFields P fs = true) (hC : P.cellsOf e = fs.size) (hpos : 0 < fs.size)
    {a : Option Addr} {len cap fuel : Nat} {x : DataW H × List MemPlace} (h : DataW.trod enc P W 0 spare held fuel t [.slice a len cap] = some x) :
    len ≤ maxLen ∧ ∃ rows : Nat → List Value, (0 < len → ∃ b o, a = some ⟨b, o, none⟩ ∧ b < W.heap.size ∧ ∀ i j, i < len → j < fs.size → W.cell? ⟨b, o + i * fs.size + j, none⟩ = (rows i)[j]?) ∧
      ∀ i, i < len → (rows i).length = fs.size ∧ ∀ (j : Nat) (f : Field), fs[j]? = some f → ∃ v n y, (rows i)[j]? = some v ∧ DataW.trod enc P W 0 spare held n f.type [v] = some y := by
  rcases open_slice ht h with ⟨hcs, _⟩ | ⟨a', len', cap', m, n, D, Pl, hcs, hb, hl, hm, hmm, hx, hi⟩
  · simp only [List.cons.injEq, Value.slice.injEq, and_true] at hcs
    obtain ⟨_, rfl, _⟩ := hcs
    exact ⟨by omega, fun _ => [], fun h => absurd h (by omega), fun i h => absurd h (by omega)⟩
  · simp only [List.cons.injEq, Value.slice.injEq, and_true] at hcs
    obtain ⟨rfl, rfl, rfl⟩ := hcs
    have hlm : len ≤ m := by rw [hmm]; split <;> omega
    obtain ⟨rows, hr⟩ := choose_lt hi
    have hrow : ∀ i, i < len → (rows i).length = fs.size ∧ ∀ j, j < fs.size → W.cell? (a'.add (i * fs.size + j)) = (rows i)[j]? := by
      intro i hi
      obtain ⟨h1, _⟩ := hr i (by omega)
      rw [hC] at h1
      obtain ⟨_, h2, h3⟩ := World.cells?_some h1
      exact ⟨h2, fun j hj => by rw [← add_add]; exact h3 j hj⟩
    refine ⟨by omega, rows, fun h0 => ?_, fun i hi => ⟨(hrow i hi).1, fun j f hj => ?_⟩⟩
    · obtain ⟨h1, h2⟩ := hrow 0 h0
      have h3 := h2 0 hpos
      rw [List.getElem?_eq_getElem (by omega)] at h3
      have e0 : a'.add (0 * fs.size + 0) = a' := by simp [Addr.add]
      rw [e0] at h3
      have ex := addr_of_cell h3
      refine ⟨a'.block, a'.off, by rw [← ex], World.block_lt_of_cell? W a' h3, fun i j hi hj => ?_⟩
      have h4 := (hrow i hi).2 j hj
      rw [ex, Addr.add_mid] at h4
      rw [← h4, Nat.add_assoc]
    · obtain ⟨hcl, h2⟩ := hrow i hi
      obtain ⟨_, h1⟩ := hr i (by omega)
      obtain ⟨ys, n', hn', hy, hlen, hyl, hf⟩ := DataW.trod_struct he h1
      obtain ⟨ho, hk⟩ := hone_of hone j f hj
      have hjl : j < fs.size := (Array.getElem?_eq_some_iff.1 hj).1
      have h4 := hf j f hj
      rw [ho, hk] at h4
      have h5 : ((rows i).drop j).take 1 = [(rows i)[j]'(by omega)] := by
        rw [List.drop_eq_getElem_cons (by omega)]
        rfl
      rw [h5, List.getElem?_eq_getElem (by omega)] at h4
      exact ⟨_, _, _, List.getElem?_eq_getElem (by omega), h4⟩

theorem trod_i64 {t : TypeId} {v : Value} {n : Nat} {y : DataW H × List MemPlace} (ht : P.underlying t = some (.int .i64)) (h : DataW.trod enc P W 0 spare held n t [v] = some y) :
    ∃ z, v = .int .i64 z ∧ -9223372036854775808 ≤ z ∧ z ≤ 9223372036854775807 := by
  obtain ⟨z, h1, _, h2⟩ := DataW.trod_int ht h
  simp only [List.cons.injEq, and_true] at h1
  simp [Lit.wf, IntKind.min, IntKind.max, IntKind.signed, IntKind.bits] at h2
  exact ⟨z, h1, by omega, by omega⟩
theorem trod_u8 {t : TypeId} {v : Value} {n : Nat} {y : DataW H × List MemPlace} (ht : P.underlying t = some (.int .u8)) (h : DataW.trod enc P W 0 spare held n t [v] = some y) : ∃ c, v = byteV c := by
  obtain ⟨z, h1, _, h2⟩ := DataW.trod_int ht h
  simp only [List.cons.injEq, and_true] at h1
  simp [Lit.wf, IntKind.min, IntKind.max, IntKind.signed, IntKind.bits] at h2
  refine ⟨UInt8.ofNat z.toNat, ?_⟩
  rw [h1]
  unfold byteV
  congr 1
  rw [UInt8.toNat_ofNat_of_lt' (by show z.toNat < 256; omega)]
  omega
theorem trod_row {t e : TypeId} {k : IntKind} {v : Value} {n : Nat} {y : DataW H × List MemPlace} (ht : P.underlying t = some (.slice e)) (he : P.underlying e = some (.int k)) (hc : P.cellsOf e = 1)
    (h : DataW.trod enc P W 0 (fun _ => true) held n t [v] = some y) : ∃ a len cap zs, v = .slice a len cap ∧ RowIn k W a len cap zs := by
  rcases open_ints ht he hc h with ⟨hcs, _⟩ | ⟨x, l, c, zs, hcs, _, hl, hm, hz, _, hcell, hwz⟩
  · simp only [List.cons.injEq, and_true] at hcs
    exact ⟨none, 0, 0, [], hcs, .inl ⟨rfl, rfl, rfl, rfl⟩⟩
  · simp only [List.cons.injEq, and_true] at hcs
    exact ⟨_, _, _, zs, hcs, .inr ⟨_, rfl, hl, hm, by simpa using hz, hcell, hwz⟩⟩
end

/-- A call of the disk's laws. -/
structure OpM where
  kind : Int
  at' : Int
  n : Int
  byte : UInt8
  kad : Option Addr
  kcap : Nat
  keep : List Int
instance : Inhabited OpM := ⟨⟨0, 0, 0, 0, none, 0, []⟩⟩
def OpM.row (o : OpM) : List Value := [.int .i64 o.kind, .int .i64 o.at', .int .i64 o.n, byteV o.byte, .slice o.kad o.keep.length o.kcap]
structure OpM.Fine (o : OpM) : Prop where
  kind : -9223372036854775808 ≤ o.kind ∧ o.kind ≤ 9223372036854775807
  at' : -9223372036854775808 ≤ o.at' ∧ o.at' ≤ 9223372036854775807
  n : -9223372036854775808 ≤ o.n ∧ o.n ≤ 9223372036854775807
  keeps : o.keep.length ≤ 9223372036854775807
  keep : ∀ x ∈ o.keep, -9223372036854775808 ≤ x ∧ x ≤ 9223372036854775807

def OpsIn (w : World) (v : Value) (ops : List OpM) : Prop :=
  ∃ ad cap, v = .slice ad ops.length cap ∧ (ops ≠ [] → ∃ b o, ad = some ⟨b, o, none⟩ ∧ ∀ i j u, i < ops.length → (ops.getD i default).row[j]? = some u → w.cell? ⟨b, o + i * 5 + j, none⟩ = some u) ∧
    ∀ k, k < ops.length → IntsIn w (.slice (ops.getD k default).kad (ops.getD k default).keep.length (ops.getD k default).kcap) (ops.getD k default).keep

theorem OpsIn.cells {w : World} {ad : Option Addr} {n cap : Nat} {ops : List OpM} (h : OpsIn w (.slice ad n cap) ops) {k : Nat} (hk : k < ops.length) :
    ∃ b o, ad = some ⟨b, o, none⟩ ∧ w.cell? ⟨b, o + k * 5, none⟩ = some (.int .i64 (ops.getD k default).kind) ∧ w.cell? ⟨b, o + k * 5 + 1, none⟩ = some (.int .i64 (ops.getD k default).at') ∧
      w.cell? ⟨b, o + k * 5 + 2, none⟩ = some (.int .i64 (ops.getD k default).n) ∧ w.cell? ⟨b, o + k * 5 + 3, none⟩ = some (byteV (ops.getD k default).byte) ∧
      w.cell? ⟨b, o + k * 5 + 4, none⟩ = some (.slice (ops.getD k default).kad (ops.getD k default).keep.length (ops.getD k default).kcap) := by
  obtain ⟨ad', cap', hv, hr, _⟩ := h
  simp only [Value.slice.injEq] at hv
  obtain ⟨rfl, _, _⟩ := hv
  obtain ⟨b, o, e, hc⟩ := hr (by intro e; simp [e] at hk)
  exact ⟨b, o, e, hc k 0 _ hk rfl, hc k 1 _ hk rfl, hc k 2 _ hk rfl, hc k 3 _ hk rfl, hc k 4 _ hk rfl⟩
theorem OpsIn.keep {w : World} {v : Value} {ops : List OpM} (h : OpsIn w v ops) {k : Nat} (hk : k < ops.length) :
    IntsIn w (.slice (ops.getD k default).kad (ops.getD k default).keep.length (ops.getD k default).kcap) (ops.getD k default).keep := by
  obtain ⟨ad', cap', hv, hr, h⟩ := h
  exact h k hk

end Go.Proofs.Ytggbnelbnbaoiaa

/- Readings of arguments, with the bounds of their sizes; no condition. -/
namespace Go.Proofs.Ytggbnelbnbaoiaa
open Go.RowKit Go.ChangeShapes Go.WideShapes Go.Deep

section
variable {H : Type} {enc : TypeId × Value → H} {P : Program} {W : World}

/-- The value v reads as something of type t, and is no greater than memory. -/
def TrodZ (enc : TypeId × Value → H) (P : Program) (W : World) (t : TypeId) (v : Value) : Prop :=
  ∃ fuel x, DataW.trod enc P W 0 (fun _ => true) true fuel t [v] = some x ∧ ∀ n ∈ x.1.weights P t, n ≤ reachBytes

theorem TrodZ.i64 {t : TypeId} {v : Value} (ht : P.underlying t = some (.int .i64)) (h : TrodZ enc P W t v) : ∃ z, v = .int .i64 z ∧ -9223372036854775808 ≤ z ∧ z ≤ 9223372036854775807 := by
  obtain ⟨_, _, h, _⟩ := h
  exact trod_i64 ht h
theorem TrodZ.u8 {t : TypeId} {v : Value} (ht : P.underlying t = some (.int .u8)) (h : TrodZ enc P W t v) : ∃ c, v = byteV c := by
  obtain ⟨_, _, h, _⟩ := h
  exact trod_u8 ht h
theorem TrodZ.str {t : TypeId} {v : Value} (ht : P.underlying t = some .string) (h : TrodZ enc P W t v) : ∃ s : ByteArray, v = .string s ∧ s.size ≤ reachBytes := by
  obtain ⟨_, x, h, hz⟩ := h
  obtain ⟨s, h1, rfl, _⟩ := DataW.trod_string ht h
  simp only [List.cons.injEq, and_true] at h1
  refine ⟨s, h1, ?_⟩
  have := hz s.data.toList.length (by simp [DataW.weights])
  simpa using this

theorem weightsAll_mem {e : TypeId} {n : Nat} : ∀ {l : List (DataW H)} {d : DataW H}, d ∈ l → n ∈ d.weights P e → n ∈ DataW.weightsAll P e l
  | _ :: _, _, .head _, h => List.mem_append_left _ h
  | _ :: _, _, .tail _ hm, h => List.mem_append_right _ (weightsAll_mem hm h)

/-- A slice, element by element: its cells, and their readings. -/
theorem TrodZ.slice {t e : TypeId} (ht : P.underlying t = some (.slice e)) {a : Option Addr} {len cap : Nat} (h : TrodZ enc P W t (.slice a len cap)) :
    len ≤ cap ∧ cap * P.bytesOf e ≤ reachBytes ∧ (a = none → len = 0 ∧ cap = 0) ∧ ∀ a', a = some a' → ∀ i, i < cap → ∃ n cs x, W.cells? 0 (a'.add (i * P.cellsOf e)) (P.cellsOf e) = some cs ∧ DataW.trod enc P W 0 (fun _ => true) true n e cs = some x ∧ ∀ n ∈ x.1.weights P e, n ≤ reachBytes := by
  obtain ⟨fuel, x, h, hz⟩ := h
  rcases open_slice ht h with ⟨hcs, _⟩ | ⟨a', len', cap', m, n, D, Pl, hcs, hb, hl, hm, hmm, rfl, hi⟩
  · simp only [List.cons.injEq, Value.slice.injEq, and_true] at hcs
    obtain ⟨rfl, rfl, rfl⟩ := hcs
    exact ⟨Nat.le_refl _, by simp, fun _ => ⟨rfl, rfl⟩, fun a' h => by cases h⟩
  · simp only [List.cons.injEq, Value.slice.injEq, and_true] at hcs
    obtain ⟨rfl, rfl, rfl⟩ := hcs
    simp only [if_true] at hmm
    subst hmm
    simp only [DataW.weights, ht, List.length_map, List.length_range, List.mem_cons, List.mem_append] at hz
    have h1 := hz _ (.inl rfl)
    rw [show len + (m - len) = m by omega] at h1
    refine ⟨hl, h1, (fun h => by cases h), fun a2 e2 i him => ?_⟩
    cases e2
    obtain ⟨cs, h2, h3⟩ := hi i him
    refine ⟨n, cs, _, h2, h3, fun k hk => hz k (.inr ?_)⟩
    by_cases hil : i < len
    · exact .inl (weightsAll_mem (List.mem_map.2 ⟨i, by simpa using hil, rfl⟩) hk)
    · exact .inr (weightsAll_mem (List.mem_map.2 ⟨i - len, by simp; omega, by rw [show len + (i - len) = i by omega]⟩) hk)

/-- A slice of structs whose fields are of one cell each, row by row. -/
theorem TrodZ.rows {t e : TypeId} {fs : Array Field} (ht : P.underlying t = some (.slice e)) (he : P.underlying e = some (.struct fs)) (hone : oneCellFields P fs = true) (hC : P.cellsOf e = fs.size) (hpos : 0 < fs.size)
    {a : Option Addr} {len cap : Nat} (h : TrodZ enc P W t (.slice a len cap)) :
    len * P.bytesOf e ≤ reachBytes ∧ ∃ rows : Nat → List Value, (0 < len → ∃ b o, a = some ⟨b, o, none⟩ ∧ b < W.heap.size ∧ ∀ i j, i < len → j < fs.size → W.cell? ⟨b, o + i * fs.size + j, none⟩ = (rows i)[j]?) ∧
      ∀ i, i < len → (rows i).length = fs.size ∧ ∀ (j : Nat) (f : Field), fs[j]? = some f → ∃ v, (rows i)[j]? = some v ∧ TrodZ enc P W f.type v := by
  obtain ⟨h1, h2, h3, h4⟩ := h.slice ht
  have h5 : len * P.bytesOf e ≤ reachBytes := Nat.le_trans (Nat.mul_le_mul_right _ h1) h2
  cases a with
  | none =>
    obtain ⟨rfl, rfl⟩ := h3 rfl
    exact ⟨h5, fun _ => [], fun h => absurd h (by omega), fun i h => absurd h (by omega)⟩
  | some a' =>
    have hall : ∀ i, i < len → ∃ r : List Value, r.length = fs.size ∧ (∀ j, j < fs.size → W.cell? (a'.add (i * fs.size + j)) = r[j]?) ∧ ∀ (j : Nat) (f : Field), fs[j]? = some f → ∃ v, r[j]? = some v ∧ TrodZ enc P W f.type v := by
      intro i hi
      obtain ⟨n, cs, x, hcs, hx, hz⟩ := h4 a' rfl i (by omega)
      rw [hC] at hcs
      obtain ⟨_, g2, g3⟩ := World.cells?_some hcs
      refine ⟨cs, g2, fun j hj => by rw [← add_add]; exact g3 j hj, fun j f hj => ?_⟩
      obtain ⟨ys, n', hn', rfl, hlen, hyl, hf⟩ := DataW.trod_struct he hx
      obtain ⟨ho, hk⟩ := hone_of hone j f hj
      have hjl : j < fs.size := (Array.getElem?_eq_some_iff.1 hj).1
      have g4 := hf j f hj
      rw [ho, hk] at g4
      have g5 : (cs.drop j).take 1 = [cs[j]'(by omega)] := by
        rw [List.drop_eq_getElem_cons (by omega)]
        rfl
      rw [g5, List.getElem?_eq_getElem (by omega)] at g4
      refine ⟨_, List.getElem?_eq_getElem (by omega), n', _, g4, fun k hk => hz k ?_⟩
      simp only [DataW.weights, he]
      refine DataW.weights_mem_each (j := j) (t := f.type) ?_ ?_ k hk
      · rw [List.getElem?_map, Array.getElem?_toList, hj]; rfl
      · rw [List.getElem?_map, List.getElem?_eq_getElem (by omega)]; rfl
    obtain ⟨rows, hr⟩ := choose_lt hall
    refine ⟨h5, rows, fun h0 => ?_, fun i hi => ⟨(hr i hi).1, (hr i hi).2.2⟩⟩
    obtain ⟨g1, g2, _⟩ := hr 0 h0
    have g3 := g2 0 hpos
    rw [List.getElem?_eq_getElem (by omega)] at g3
    have e0 : a'.add (0 * fs.size + 0) = a' := by simp [Addr.add]
    rw [e0] at g3
    have ex := addr_of_cell g3
    refine ⟨a'.block, a'.off, by rw [← ex], World.block_lt_of_cell? W a' g3, fun i j hi hj => ?_⟩
    have g4 := (hr i hi).2.1 j hj
    rw [ex, Addr.add_mid] at g4
    rw [← g4, Nat.add_assoc]

/-- A slice of elements of one cell each. -/
theorem TrodZ.cells {t e : TypeId} (ht : P.underlying t = some (.slice e)) (hC : P.cellsOf e = 1) {a : Option Addr} {len cap : Nat} (h : TrodZ enc P W t (.slice a len cap)) :
    len * P.bytesOf e ≤ reachBytes ∧ ∃ vs : List Value, vs.length = len ∧ (0 < len → ∃ b o, a = some ⟨b, o, none⟩ ∧ b < W.heap.size ∧ W.rangeAt b o vs) ∧ ∀ v ∈ vs, TrodZ enc P W e v := by
  obtain ⟨h1, h2, h3, h4⟩ := h.slice ht
  have h5 : len * P.bytesOf e ≤ reachBytes := Nat.le_trans (Nat.mul_le_mul_right _ h1) h2
  cases a with
  | none =>
    obtain ⟨rfl, rfl⟩ := h3 rfl
    exact ⟨h5, [], rfl, fun h => absurd h (by omega), fun v h => by cases h⟩
  | some a' =>
    have hall : ∀ i, i < len → ∃ v : Value, W.cell? (a'.add i) = some v ∧ TrodZ enc P W e v := by
      intro i hi
      obtain ⟨n, cs, x, hcs, hx, hz⟩ := h4 a' rfl i (by omega)
      rw [hC, Nat.mul_one] at hcs
      obtain ⟨_, g2, g3⟩ := World.cells?_some hcs
      obtain ⟨v, rfl⟩ : ∃ v, cs = [v] := by
        match cs, g2 with
        | [v], _ => exact ⟨v, rfl⟩
      have g4 := g3 0 (by omega)
      have e0 : ∀ a : Addr, a.add 0 = a := fun a => by simp [Addr.add]
      rw [e0] at g4
      exact ⟨v, g4, n, x, hx, hz⟩
    obtain ⟨f, hf⟩ := choose_lt hall
    refine ⟨h5, (List.range len).map f, by simp, fun h0 => ?_, fun v hv => ?_⟩
    · obtain ⟨g1, _⟩ := hf 0 h0
      have e0 : a'.add 0 = a' := by simp [Addr.add]
      rw [e0] at g1
      have ex := addr_of_cell g1
      refine ⟨a'.block, a'.off, by rw [← ex], World.block_lt_of_cell? W a' g1, fun j v hv => ?_⟩
      have hj : j < len := by have := (List.getElem?_eq_some_iff.1 hv).1; simpa using this
      have g2 := (hf j hj).1
      rw [ex, Addr.add_mid] at g2
      rw [g2]
      simpa [hj] using hv
    · obtain ⟨i, hi, rfl⟩ := List.mem_map.1 hv
      exact (hf i (by simpa using hi)).2
end

section
variable {H : Type} {enc : TypeId × Value → H} {W : World}
/-- The value v is a slice of the bytes l in the old memory. -/
theorem TrodZ.bytes {v : Value} {ad : Option Addr} {len cap : Nat} (hv : v = .slice ad len cap) (h : TrodZ enc Try.prog W 33 v) :
    ∃ l : List UInt8, l.length = len ∧ (Assn.old W.heap.size W).Tells (fun w => BytesIn w (.slice ad len cap) l) ∧ len ≤ 140737488351232 := by
  subst hv
  obtain ⟨h1, vs, rfl, h2, h3⟩ := h.cells (e := 5) Try.underlying33 (by kernel_rfl)
  rw [show Try.prog.bytesOf 5 = 1 from by kernel_rfl, Nat.mul_one] at h1
  have hall : ∀ i, i < vs.length → ∃ c : UInt8, vs[i]? = some (byteV c) := by
    intro i hi
    obtain ⟨c, hc⟩ := (h3 _ (List.getElem_mem hi)).u8 (by kernel_rfl)
    exact ⟨c, by rw [List.getElem?_eq_getElem hi, hc]⟩
  obtain ⟨f, hf⟩ := choose_lt hall
  have he : cellsV ((List.range vs.length).map f) = vs := by
    apply List.ext_getElem?
    intro i
    unfold cellsV
    by_cases hi : i < vs.length
    · rw [hf i hi]; simp [hi]
    · rw [List.getElem?_eq_none (by simp; omega), List.getElem?_eq_none (by omega)]
  refine ⟨(List.range vs.length).map f, by simp, fun w hw => ⟨ad, cap, by simp, fun hne => ?_⟩, by unfold reachBytes at h1; omega⟩
  have hpos : 0 < vs.length := by
    rcases Nat.eq_zero_or_pos vs.length with e | e
    · rw [e] at hne; simp at hne
    · exact e
  obtain ⟨b, o, ha, hb, hr⟩ := h2 hpos
  rw [he]
  exact ⟨b, o, ha, old_tells (p := fun w => w.rangeAt b o vs) (fun w hw => range_old hr hb hw) w hw⟩
/-- The value v is a slice of the integers l in the old memory. -/
theorem TrodZ.ints {v : Value} {ad : Option Addr} {len cap : Nat} (hv : v = .slice ad len cap) (h : TrodZ enc Try.prog W 40 v) :
    ∃ l : List Int, l.length = len ∧ (Assn.old W.heap.size W).Tells (fun w => IntsIn w (.slice ad len cap) l) ∧ len ≤ 140737488351232 ∧ ∀ x ∈ l, -9223372036854775808 ≤ x ∧ x ≤ 9223372036854775807 := by
  subst hv
  obtain ⟨h1, vs, rfl, h2, h3⟩ := h.cells (e := 3) Try.underlying40 (by kernel_rfl)
  rw [show Try.prog.bytesOf 3 = 8 from by kernel_rfl] at h1
  have hall : ∀ i, i < vs.length → ∃ c : Int, vs[i]? = some (.int .i64 c) ∧ -9223372036854775808 ≤ c ∧ c ≤ 9223372036854775807 := by
    intro i hi
    obtain ⟨c, hc, hb⟩ := (h3 _ (List.getElem_mem hi)).i64 (by kernel_rfl)
    exact ⟨c, by rw [List.getElem?_eq_getElem hi, hc], hb⟩
  obtain ⟨f, hf⟩ := choose_lt hall
  have he : ((List.range vs.length).map f).map (Value.int .i64) = vs := by
    apply List.ext_getElem?
    intro i
    by_cases hi : i < vs.length
    · rw [(hf i hi).1]; simp [hi]
    · rw [List.getElem?_eq_none (by simp; omega), List.getElem?_eq_none (by omega)]
  refine ⟨(List.range vs.length).map f, by simp, fun w hw => ⟨ad, cap, by simp, fun hne => ?_⟩, by unfold reachBytes at h1; omega, fun x hx => ?_⟩
  · have hpos : 0 < vs.length := by
      rcases Nat.eq_zero_or_pos vs.length with e | e
      · rw [e] at hne; simp at hne
      · exact e
    obtain ⟨b, o, ha, hb, hr⟩ := h2 hpos
    rw [he]
    exact ⟨b, o, ha, old_tells (p := fun w => w.rangeAt b o vs) (fun w hw => range_old hr hb hw) w hw⟩
  · obtain ⟨i, hi, rfl⟩ := List.mem_map.1 hx
    exact (hf i (by simpa using hi)).2
end

end Go.Proofs.Ytggbnelbnbaoiaa

/- An argument that is an array of two integers: its reading; no condition. -/
namespace Go.Proofs.Ytggbnelbnbaoiaa
open Go.RowKit Go.ChangeShapes Go.WideShapes Go.Deep

theorem row_caps {k : IntKind} {W : World} {a : Option Addr} {len cap : Nat} {zs : List Int} (h : RowIn k W a len cap zs) : len ≤ cap ∧ cap ≤ 9223372036854775807 := by
  rcases h with ⟨_, rfl, rfl, _⟩ | ⟨_, _, h1, h2, _⟩
  · exact ⟨Nat.le_refl _, by omega⟩
  · unfold maxLen at h2; exact ⟨h1, by omega⟩

section
variable {H : Type} {enc : TypeId × Value → H} {P : Program} {W : World} {base : Nat} {spare : Nat → Bool} {held : Bool}
theorem trod_array2 {t e : TypeId} {fuel : Nat} {c0 c1 : Value} {x : DataW H × List MemPlace} (ht : P.underlying t = some (.array 2 e)) (hce : P.cellsOf e = 1)
    (h : DataW.trod enc P W base spare held fuel t [c0, c1] = some x) :
    ∃ y0 y1 n, DataW.trod enc P W base spare held n e [c0] = some y0 ∧ DataW.trod enc P W base spare held n e [c1] = some y1 := by
  cases fuel with
  | zero => simp [DataW.trod] at h
  | succ n =>
    unfold DataW.trod at h
    rw [ht] at h
    have r2 : List.range 2 = [0, 1] := rfl
    simp [r2, hce] at h
    obtain ⟨_, h⟩ := h
    cases h0 : DataW.trod enc P W base spare held n e [c0] with
    | none => simp [h0] at h
    | some y0 =>
      cases h1 : DataW.trod enc P W base spare held n e [c1] with
      | none => simp [h0, h1] at h
      | some y1 => exact ⟨y0, y1, n, h0, h1⟩
theorem open_ints2 {t e : TypeId} {b0 : Nat} {v : Value} {d : DataW H} {ps : List MemPlace} (ht : P.underlying t = some (.array 2 e)) (he : P.underlying e = some (.int .i64)) (hce : P.cellsOf e = 1) (hct : P.cellsOf t = 2)
    (hok : Value.okWide P W .any b0 t v) (h : DataW.Trod enc P W 0 spare held t v d ps) :
    ∃ x0 x1 : Int, v = .agg #[.int .i64 x0, .int .i64 x1] ∧ (-9223372036854775808 ≤ x0 ∧ x0 ≤ 9223372036854775807) ∧ (-9223372036854775808 ≤ x1 ∧ x1 ≤ 9223372036854775807) := by
  simp only [Value.okWide, ht] at hok
  obtain ⟨cs, rfl, hsz, _⟩ := hok
  rw [hct] at hsz
  obtain ⟨c0, c1, rfl⟩ : ∃ c0 c1, cs = #[c0, c1] := by
    obtain ⟨l⟩ := cs
    match l, hsz with
    | [a, b], _ => exact ⟨a, b, rfl⟩
  obtain ⟨fuel, hf⟩ := h
  simp only [Value.cells] at hf
  obtain ⟨y0, y1, n, h0, h1⟩ := trod_array2 ht hce hf
  obtain ⟨z0, rfl, b00, b01⟩ := trod_i64 he h0
  obtain ⟨z1, rfl, b10, b11⟩ := trod_i64 he h1
  exact ⟨z0, z1, rfl, ⟨b00, b01⟩, ⟨b10, b11⟩⟩
end

end Go.Proofs.Ytggbnelbnbaoiaa
