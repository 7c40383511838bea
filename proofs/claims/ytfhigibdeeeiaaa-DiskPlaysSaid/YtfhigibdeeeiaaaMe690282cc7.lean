/- Texts of this claim, put together: RefW3, RefW4, RefW5, RefW6, LawA, LawC, RowB; no condition. -/
import Derived.Test.YtfhigibdeeeiaaaM8b2d80803e
import Derived.Deep.DeepCutAuto
import Derived.Deep.CutBlock

set_option linter.unusedSimpArgs false
set_option linter.unusedVariables false

/- Walks of the document's disk, part 3: rows copied; settle; Barrier; no condition. -/
namespace Go.Proofs.Ytfhigibdeeeiaaa
open Go.RowKit Go.MapKept

theorem i_put : (Try.prog.info? 64).map (fun i => (i.zero, i.size, i.bytes)) = some (some (.agg #[.int .i64 0, .slice none 0 0]), 2, 32) := by kernel_rfl
theorem u_puts : Try.prog.underlying 53 = some (.slice 64) := by kernel_rfl
/-- 'append([]T{}, s...)'. -/
theorem wpList_append_vals {w : World} {ops : Array Oper} {rest : List Oper} {o : Oper} {a : Act} {Q : Exit → Act → World → Prop} {s x : Operand} {e t : TypeId} {i0 : TypeInfo} {z : Value} {size bytes : Nat} {R : Assn} {b0 : Addr}
    (h : Bears w (rowA e size (.slice (some b0) 0 0) 0 [] * R)) (hg : o.guard = none) (ho : o.op = .call { callee := .builtin .append, args := #[s, x], argTypes := #[t, t] }) (ht : Try.prog.underlying t = some (.slice e))
    (hi : Try.prog.info? e = some i0) (hz0 : i0.zero = some z) (hz1 : i0.size = size) (hz2 : i0.bytes = bytes) (hzc : z.cells.size = size) (hpos : 0 < size) (hs : a.eval s = .slice (some b0) 0 0) {ad : Option Addr} {n c : Nat} {xs : List Value} (hx : a.eval x = .slice ad n c)
    (hb : ValsIn size w (.slice ad n c) xs) (h1 : ∀ u ∈ xs, u.oneCell' = true) (hl : n * bytes ≤ 140737488355328)
    (hK : ∀ a' c' w', Bears w' (rowA e size (.slice a' n c') n xs * R) → wpList Try.prog ops Q rest (a.put o.dst (.slice a' n c')) w') : wpList Try.prog ops Q (o :: rest) a w := by
  obtain ⟨_, n', _, hv, hxl, hmax, hr⟩ := hb
  simp only [Value.slice.injEq] at hv
  obtain ⟨rfl, rfl, -⟩ := hv
  by_cases h0 : xs = []
  · subst h0
    obtain rfl : n = 0 := by
      rcases Nat.eq_zero_or_pos n with h | h
      · exact h
      · have := Nat.mul_pos h hpos
        simp at hxl
        omega
    refine wpList_plain hg fun K hK' => ?_
    have hr : (Builtin.append_ #[t, t] o.type #[.slice (some b0) 0 0, .slice ad 0 c]).run Try.prog w = .ok (.slice (some b0) 0 0) w := by
      cases ad <;> simp [Builtin.append_, run_underlying ht, sizeOf, typeInfo, hi, storeCells, Builtin.lenOf, Builtin.firstCells, loadCells, loadCellsFrom]
    unfold Oper.wp execOp
    simp only [ho, resolve, invoke, builtin, Sem.run_bind, Sem.run_pure, Result.andThen_ok, List.map_toArray, List.map_cons, List.map_nil, hs, hx, hr]
    exact hK' _ _ (hK _ _ _ h)
  · obtain ⟨b, ob, rfl, hr2⟩ := hr h0
    refine wpList_append_bears h hg ho ht hi hz0 hz1 hz2 hzc hpos hs (ad := ⟨b, ob, none⟩) (m := n) (c := c) (news := xs) hx hxl (addr_cells hr2) h1 (by omega) (by rw [Nat.zero_add]; exact hl) ?_
    intro a' c' w' h'
    rw [Nat.zero_add] at h' ⊢
    exact hK a' c' w' h'

theorem RowsOk.one {Y : Assn} {rs : List (Value × Sec)} {bv : Value} {w : World} (h : RowsOk Y rs bv) (hw : Bears w Y) : ∀ u ∈ rs.map Prod.fst, u.oneCell' = true := by
  intro u hu
  obtain ⟨r, hr, rfl⟩ := List.mem_map.1 hu
  obtain ⟨ad, n, cap, e, _⟩ := (h.rows r hr).form hw
  rw [e]
  rfl
theorem PutsOk.one {Y : Assn} {ls : List (Nat × Value × Sec)} {lv : Value} {w : World} (h : PutsOk Y ls lv) (hw : Bears w Y) : ∀ u ∈ putCells ls, u.oneCell' = true := by
  intro u hu
  obtain ⟨x, hx, hu⟩ := List.mem_flatMap.1 hu
  obtain ⟨ad, n, cap, e, _⟩ := (h.rows x hx).form hw
  simp only [List.mem_cons, List.not_mem_nil, or_false] at hu
  rcases hu with rfl | rfl
  · rfl
  · rw [e]; rfl

set_option maxRecDepth 100000 in
set_option maxHeartbeats 800000 in
theorem rsettle_any {y : Nat} {Y : Assn} {R : Assn} {w : World} {bv lv : Value} {off bu : Bool} {lf n : Int} {la : Option Addr} {lc : Nat} {rs : List (Value × Sec)} {ls : List (Nat × Value × Sec)} (h : Bears w (refObj y bv lv off bu lf n * (Y * R)))
    (hrs : RowsOk Y rs bv) (hlen : rs.length ≤ 8192) (hls : PutsOk Y ls (.slice la ls.length lc)) (hput : ∀ x ∈ ls, x.1 < rs.length) (hroom : ls.length < 1099511627776) :
    Calls Try.prog 28 #[.pointer (some ⟨y, 0, none⟩), .slice la ls.length lc] w fun e w' => ∃ Z bv', e = .returned (.tuple #[]) ∧ RowsOk (Z * Y) (setAll rs ls) bv' ∧
      Bears w' (refObj y bv' (.slice none 0 0) off bu lf n * ((Z * Y) * R)) := by
  obtain ⟨ba, bc, rfl⟩ := hrs.form
  have h1 := h.zeroRow (e := 37) (size := 1)
  obtain ⟨c0, _⟩ := h1.pull2.refCells
  have hvals := hrs.tells _ h1.pull3.left
  have hone := hrs.one h1.pull3.left
  obtain ⟨i0, hi0, hz0, hz1, hz2⟩ := info_parts i_row
  have Hrs := Lib.hid hrs
  have Hls := Lib.hid hls
  have Hput := Lib.hid hput
  clear hrs hls hput
  go_enter Try.func28, Try.ntmps28
  go_wp2_with (at_builtin; refine wpList_append_vals h1 rfl rfl u_rows hi0 hz0 hz1 hz2 (by simp [Value.cells]) (by decide) rfl rfl hvals hone (by omega) ?_; intro ga gc w2 h2)
  clear h1 hvals hone c0 h
  go_loopw [5] (fun v wr => ∃ k : Nat, k ≤ ls.length ∧ v = .int .i64 k ∧ Bears wr (rowA 37 1 (.slice ga rs.length gc) rs.length ((setAll rs (ls.take k)).map Prod.fst) *
    (refObj y (.slice ba rs.length bc) lv off bu lf n * (Y * R)))) (fun v _ => ls.length - (intOf v).toNat)
  case atStart => exact ⟨0, by omega, rfl, h2⟩
  case round =>
    clear h2
    obtain ⟨k, hk, rfl, h4⟩ := hrel
    by_cases hlt : k < ls.length
    · have hltI : (k : Int) < (ls.length : Int) := by omega
      obtain ⟨q0, q1⟩ := putCells_at hlt
      have htk : ls.take (k + 1) = ls.take k ++ [ls.getD k default] := by
        rw [List.take_succ_eq_append_getElem hlt, List.getD_eq_getElem?_getD, List.getElem?_eq_getElem hlt]; rfl
      have hp := Hput.out (ls.getD k default) (by rw [List.getD_eq_getElem?_getD, List.getElem?_eq_getElem hlt]; exact List.getElem_mem hlt)
      have hro := Hls.out.rows (ls.getD k default) (by rw [List.getD_eq_getElem?_getD, List.getElem?_eq_getElem hlt]; exact List.getElem_mem hlt)
      have hst := setAll_snoc rs (ls.take k) (ls.getD k default)
      rw [← htk] at hst
      generalize ls.getD k default = x at q0 q1 hp hst hro
      obtain ⟨pi, pv, pb⟩ := x
      simp only at q0 q1 hp hst
      obtain ⟨xa, xn, xc, ex, exn⟩ := hro.form h4.pull3.left
      simp only at ex exn
      subst ex
      obtain ⟨lb, lo, hla, m0⟩ := (Hls.out.tells _ h4.pull3.left).cell q0
      subst hla
      obtain ⟨_, _, e9, m1⟩ := (Hls.out.tells _ h4.pull3.left).cell q1
      cases e9
      have m0' : wr.cell? ⟨lb, lo + k * 2, none⟩ = some (.int .i64 (pi : Int)) := m0
      have m1' : wr.cell? ⟨lb, lo + k * 2 + 1, none⟩ = some (.slice xa xn xc) := m1
      obtain ⟨gb, rfl, _⟩ := h4.rowAt (k := pi) hp
      have hsl := setAll_length (ls.take k) rs
      have hcell := h4.rowCell (i := pi) hp (v := ((setAll rs (ls.take k)).map Prod.fst)[pi]'(by rw [List.length_map, hsl]; exact hp)) (List.getElem?_eq_getElem _)
      have hfr := h4.rowFrozen pi
      have h5 := h4.drew.rowSet hp (.slice xa xn xc)
      have e5 : ((setAll rs (ls.take k)).map Prod.fst).set pi (.slice xa xn xc) = (setAll rs (ls.take (k + 1))).map Prod.fst := by rw [hst, List.map_set]
      rw [e5] at h5
      have H5 := Lib.hid h5
      generalize ((setAll rs (ls.take k)).map Prod.fst)[pi]'(by rw [List.length_map, hsl]; exact hp) = old at hcell
      clear q0 q1 m0 m1 hro exn htk hst e5 hsl h4 h5
      go_wp2_with fail
      refine wp_region_tail 12 (by kernel_rfl) (by kernel_rfl) ?_
      simp only [List.take_succ_cons, List.take_zero, List.drop_succ_cons, List.drop_zero]
      iterate 12 still_step
      refine wpStill_nil ?_
      go_wp2_with fail
      go_roundw
      case rel => exact ⟨k + 1, hlt, by go_num, H5.out⟩
      case measure => simp [intOf]; omega
    · obtain rfl : k = ls.length := by omega
      rw [List.take_length] at h4
      obtain ⟨_, _, _, _, _, _, hf⟩ := h4.pull2.refCells
      have f0 := hf 0
      have f1 := hf 1
      obtain ⟨c0, c1, _⟩ := h4.pull2.refCells
      have h6 := ((h4.pull2.setCell (i := 0) (.slice ga rs.length gc)).setCell (i := 1) (.slice none 0 0)).pull2
      clear hf
      have Hsl := Lib.hid (setAll_length ls rs)
      go_wp2_with fail
      go_end0
      refine ⟨rowA 37 1 (.slice ga rs.length gc) rs.length ((setAll rs ls).map Prod.fst), .slice ga rs.length gc, rfl, ⟨fun r hr => ?_, rowA_vals, ga, gc, by rw [Hsl.out]⟩, ?_⟩
      · rcases setAll_mem hr with hr | ⟨x, hx, rfl⟩
        · exact (Hrs.out.rows r hr).right
        · exact (Hls.out.rows x hx).right
      · rw [Assn.mul_assoc']
        exact h6.pull2.cast (by simp)

theorem RefOk.far {Y : Assn} {d : DiskM} {rs : List (Value × Sec)} {ls : List (Nat × Value × Sec)} {bv lv : Value} {bu : Bool} {lf : Int} (h : RefOk Y d rs ls bv lv bu lf) : ∀ x ∈ ls, x.1 < rs.length ∧ x.2.2.length = 64 := by
  intro x hx
  have := h.wf.waits (x.1, x.2.2) (by rw [← h.waits]; exact List.mem_map.2 ⟨_, hx, rfl⟩)
  rw [h.len]
  exact this
theorem RefOk.many {Y : Assn} {d : DiskM} {rs : List (Value × Sec)} {ls : List (Nat × Value × Sec)} {bv lv : Value} {bu : Bool} {lf : Int} (h : RefOk Y d rs ls bv lv bu lf) : ls.length = d.waits.length := by rw [← h.waits]; simp [putsOf]

theorem DiskM.step_two {d : DiskM} (h : d.step.1 ≠ 0) : d.step.1 = 2 := by
  unfold DiskM.step at h ⊢
  split
  · rfl
  · rename_i hne; rw [if_neg hne] at h; exact absurd rfl h
theorem DiskM.step_go {d : DiskM} (h : d.step.1 = 0) : d.step.2 = { d with fuse := if 0 < d.fuse then d.fuse - 1 else d.fuse, steps := wrap64 (d.steps + 1) } := by
  unfold DiskM.step at h ⊢
  split at h
  · simp at h
  · rename_i hne; rw [if_neg hne]

set_option maxRecDepth 100000 in
set_option maxHeartbeats 800000 in
theorem rbarrier_any {y : Nat} {Y : Assn} {d d' : DiskM} {r : Int} {R : Assn} {w : World} (h : Bears w (refA y Y d * (Y * R))) (hroom : d.waits.length < 1099511627776) (hb : d.barrier = (r, d')) :
    Calls Try.prog 14 #[.pointer (some ⟨y, 0, none⟩)] w fun e w' => e = .returned (.int .i64 r) ∧ ∃ Z, Bears w' (refA y (Z * Y) d' * ((Z * Y) * R)) := by
  obtain ⟨rs, ls, bv, lv, bu, lf, hok, h1⟩ := Bears.ref.1 h
  obtain ⟨_, _, c2, _⟩ := h1.refCells
  clear hok h1
  by_cases ho : d.off = true
  · have hb2 : d.barrier = (2, d) := by simp [DiskM.barrier, ho]
    obtain ⟨rfl, rfl⟩ := Prod.mk.inj (hb.symm.trans hb2)
    rw [ho] at c2
    clear hb hb2 ho
    go_enter Try.func14, Try.ntmps14
    go_wp2_with fail
    go_ret
    exact ⟨rfl, Assn.emp, by rw [Assn.emp_mul]; exact h⟩
  · have ho : d.off = false := by simpa using ho
    rw [ho] at c2
    by_cases hs : d.step.1 = 0
    · have hb2 : d.barrier = (0, { d.step.2 with sure := d.now, waits := [] }) := by unfold DiskM.barrier; rw [ho, if_neg (by simp), if_neg (by simpa using hs)]
      obtain ⟨rfl, rfl⟩ := Prod.mk.inj (hb.symm.trans hb2)
      have hst := DiskM.step_go hs
      have hr := rstep_any h
      have hs' : (d.step.1 == 0) = true := by simp [hs]
      rw [hs'] at hr
      have Hr := Lib.hid hr
      have Hst := Lib.hid hst
      clear hb hb2 ho hs hs' hst hr h
      go_enter Try.func14, Try.ntmps14
      go_wp2_with fail
      refine Hr.out.mono ?_
      rintro e w1 ⟨rfl, h2⟩
      obtain ⟨rs, ls, bv, lv, bu, lf, hok, h3⟩ := Bears.ref.1 h2
      have hw : d.step.2.waits = d.waits := by rw [Hst.out]
      obtain ⟨la, lc, rfl⟩ := hok.puts.form
      have hmany := hok.many
      rw [hw] at hmany
      have hwl := hok.wf.len
      have hrl := hok.len
      obtain ⟨_, e1, _⟩ := h3.refCells
      have Hok := Lib.hid hok
      have Hmany := Lib.hid hmany
      clear hok hw hmany c2
      go_wp2_with fail
      refine (rsettle_any h3 Hok.out.rows (by omega) Hok.out.puts (fun x hx => (Hok.out.far x hx).1) (by rw [Hmany.out]; exact hroom)).mono ?_
      rintro e w4 ⟨Z, bv', rfl, hrs, h4⟩
      go_wp2_with fail
      go_ret
      have hok := Hok.out
      have hsu : d.step.2.now = d.now := by rw [Hst.out]; rfl
      refine ⟨rfl, Z, Bears.ref.2 ⟨setAll rs ls, [], bv', .slice none 0 0, bu, lf, ⟨⟨hok.wf.len, fun i => ?_, by simp, hok.wf.fuse, hok.wf.steps⟩, ?_, hrs, ?_, PutsOk.nil _, rfl, hok.burn, hok.left, hok.lfb⟩, h4⟩⟩
      · simp only
        rw [← hsu]
        exact hok.wf.now i
      · rw [setAll_length]; exact hok.len
      · have h5 := hok.sure.settle (fun x hx => (hok.far x hx).2)
        rw [hok.waits] at h5
        simp only
        rw [← hsu]
        exact h5
    · have hb2 : d.barrier = d.step := by unfold DiskM.barrier; rw [ho, if_neg (by simp), if_pos hs]
      have hr := rstep_any h
      have hs' : (d.step.1 == 0) = false := by simp [hs]
      rw [hs'] at hr
      have hs2 := DiskM.step_two hs
      have hb3 : d.step = (r, d') := hb2.symm.trans hb
      obtain rfl : r = 2 := by rw [hb3] at hs2; exact hs2
      obtain rfl : d.step.2 = d' := by rw [hb3]
      have Hr := Lib.hid hr
      clear hb hb2 hb3 ho hs hs' hs2 hr h
      go_enter Try.func14, Try.ntmps14
      go_wp2_with fail
      refine Hr.out.mono ?_
      rintro e w1 ⟨rfl, h2⟩
      go_wp2_with fail
      go_ret
      exact ⟨rfl, Assn.emp, by rw [Assn.emp_mul]; exact h2⟩

end Go.Proofs.Ytfhigibdeeeiaaa

/- Walks of the document's disk, part 4: Write; no condition. -/
namespace Go.Proofs.Ytfhigibdeeeiaaa
open Go.RowKit Go.MapKept

theorem DiskM.step_wf {d : DiskM} (h : d.WF) : d.step.2.WF := by
  have hfu := h.fuse
  have hst := h.steps
  unfold DiskM.step
  split
  · exact ⟨h.len, h.sure, h.waits, by simp, hst⟩
  · refine ⟨h.len, h.sure, h.waits, ?_, by simp only; unfold wrap64; omega⟩
    simp only
    split <;> omega
theorem RefOk.snoc {Z Y : Assn} {d : DiskM} {rs : List (Value × Sec)} {ls : List (Nat × Value × Sec)} {bv lv lv' : Value} {bu : Bool} {lf : Int} (h : RefOk Y d rs ls bv lv bu lf) {i : Nat} {pv : Value} {pb : Sec} (hi : i < d.len) (hp : RowOk (Z * Y) (pv, pb)) (h64 : pb.length = 64)
    (hl : PutsOk (Z * Y) (ls ++ [(i, pv, pb)]) lv') : RefOk (Z * Y) { d with waits := d.waits ++ [(i, pb)] } rs (ls ++ [(i, pv, pb)]) bv lv' bu lf := by
  refine ⟨⟨h.wf.len, h.wf.sure, fun q hq => ?_, h.wf.fuse, h.wf.steps⟩, h.len, h.rows.right, h.sure, hl, ?_, h.burn, h.left, h.lfb⟩
  · rcases List.mem_append.1 hq with hq | hq
    · exact h.wf.waits q hq
    · rw [List.mem_singleton] at hq; subst hq; exact ⟨hi, h64⟩
  · show putsOf (ls ++ [(i, pv, pb)]) = _
    unfold putsOf
    rw [List.map_append]
    have := h.waits
    unfold putsOf at this
    rw [this]
    rfl

set_option maxRecDepth 100000 in
set_option maxHeartbeats 800000 in
theorem rwrite_any {y : Nat} {Y : Assn} {d d' : DiskM} {r : Int} {R : Assn} {w : World} (h : Bears w (refA y Y d * (Y * R))) (i : Int) {l : List UInt8} {ad : Option Addr} {n cap : Nat} (hb : R.Tells (fun w => BytesIn w (.slice ad n cap) l)) (hroom : d.waits.length < 1099511627776) (hw : d.write i l = (r, d')) (hl0 : l.length ≤ 140737488355328) :
    Calls Try.prog 12 #[.pointer (some ⟨y, 0, none⟩), .int .i64 i, .slice ad n cap] w fun e w' => e = .returned (.int .i64 r) ∧ ∃ Z, Bears w' (refA y (Z * Y) d' * ((Z * Y) * R)) := by
  obtain rfl : n = l.length := (hb _ h.right.right).len
  obtain ⟨rs, ls, bv, lv, bu, lf, hok, h1⟩ := Bears.ref.1 h
  obtain ⟨ba, bc, rfl⟩ := hok.rows.form
  obtain ⟨c0, _, c2, _⟩ := h1.refCells
  rw [hok.len] at c0
  have hdl := hok.wf.len
  clear hok h1
  by_cases ho : d.off = true
  · have hb2 : d.write i l = (2, d) := by simp [DiskM.write, DiskM.check, ho]
    obtain ⟨rfl, rfl⟩ := Prod.mk.inj (hw.symm.trans hb2)
    rw [ho] at c2
    clear hw hb2 ho
    go_enter Try.func12, Try.ntmps12
    go_wp2_with fail
    go_ret
    exact ⟨rfl, Assn.emp, by rw [Assn.emp_mul]; exact h⟩
  have ho : d.off = false := by simpa using ho
  rw [ho] at c2
  by_cases hi : i < 0 ∨ (d.len : Int) ≤ i
  · have hb2 : d.write i l = (10, d) := by simp [DiskM.write, DiskM.check, ho, hi]
    obtain ⟨rfl, rfl⟩ := Prod.mk.inj (hw.symm.trans hb2)
    clear hw hb2 ho
    rcases hi with hi | hi
    · go_enter Try.func12, Try.ntmps12
      go_wp2_with fail
      go_ret
      exact ⟨rfl, Assn.emp, by rw [Assn.emp_mul]; exact h⟩
    · have hi0 : ¬ i < 0 := by omega
      go_enter Try.func12, Try.ntmps12
      go_wp2_with fail
      go_ret
      exact ⟨rfl, Assn.emp, by rw [Assn.emp_mul]; exact h⟩
  have hi1 : 0 ≤ i := by omega
  have hi2 : i < (d.len : Int) := by omega
  have hck : d.check i = 0 := by simp [DiskM.check, ho, hi]
  by_cases hl : ¬ l.length = 64
  · have hb2 : d.write i l = (11, d) := by simp [DiskM.write, hck, hl]
    obtain ⟨rfl, rfl⟩ := Prod.mk.inj (hw.symm.trans hb2)
    have hne : ((l.length : Int) != 64) = true := by rw [bne_iff_ne]; omega
    clear hw hb2 ho hl hi hck
    go_enter Try.func12, Try.ntmps12
    go_wp2_with fail
    go_ret
    exact ⟨rfl, Assn.emp, by rw [Assn.emp_mul]; exact h⟩
  have hl : l.length = 64 := Decidable.not_not.1 hl
  have heq : ((l.length : Int) != 64) = false := by rw [hl]; rfl
  by_cases hs : ¬ d.step.1 = 0
  · have hb2 : d.write i l = d.step := by simp [DiskM.write, hck, hl, hs]
    have hr := rstep_any h
    have hs' : (d.step.1 == 0) = false := by simp [hs]
    rw [hs'] at hr
    have hs2 := DiskM.step_two hs
    have hb3 : d.step = (r, d') := hb2.symm.trans hw
    obtain rfl : r = 2 := by rw [hb3] at hs2; exact hs2
    obtain rfl : d.step.2 = d' := by rw [hb3]
    have Hr := Lib.hid hr
    have Hl := Lib.hid hl
    clear hw hb2 hb3 ho hs hs' hs2 hr h hl hi hck
    go_enter Try.func12, Try.ntmps12
    go_wp2_with fail
    refine Hr.out.mono ?_
    rintro e w1 ⟨rfl, h2⟩
    go_wp2_with fail
    go_ret
    exact ⟨rfl, Assn.emp, by rw [Assn.emp_mul]; exact h2⟩
  have hs : d.step.1 = 0 := Decidable.not_not.1 hs
  obtain ⟨k, rfl⟩ := Int.eq_ofNat_of_zero_le hi1
  have hb2 : d.write (k : Int) l = (0, { d.step.2 with waits := d.step.2.waits ++ [(k, l)] }) := by simp [DiskM.write, hck, hl, hs, step_waits]
  obtain ⟨rfl, rfl⟩ := Prod.mk.inj (hw.symm.trans hb2)
  have hr := rstep_any h
  have hs' : (d.step.1 == 0) = true := by simp [hs]
  rw [hs'] at hr
  have Hr := Lib.hid hr
  have Hl := Lib.hid hl
  have hkl : k < d.step.2.len := by rw [step_len]; omega
  have Hkl := Lib.hid hkl
  have Hw : Hid (d.step.2.waits = d.waits) := step_waits d
  obtain ⟨i0, hi0, hz0, hz1, hz2⟩ := info_parts i_put
  clear hw hb2 ho hs hs' hr h hl hi hck hkl
  go_enter Try.func12, Try.ntmps12
  go_wp2_with fail
  refine Hr.out.mono ?_
  rintro e w1 ⟨rfl, h2⟩
  obtain ⟨rs, ls, bv, lv, bu, lf, hok, h3⟩ := Bears.ref.1 h2
  obtain ⟨la, lc, rfl⟩ := hok.puts.form
  have h4 := h3.zeroRow (e := 64) (size := 2)
  obtain ⟨_, e1, _⟩ := h4.pull2.refCells
  have hvals := hok.puts.tells _ h4.pull3.left
  have hone := hok.puts.one h4.pull3.left
  have hmany := hok.many
  rw [Hw.out] at hmany
  have hmn : ls.length < 1099511627776 := by rw [hmany]; exact hroom
  have Hok := Lib.hid hok
  clear hok hmany c0 c2
  have hz64 : l.length ≤ 140737488355328 := hl0
  go_wp2_with (first
    | (at_builtin; refine wpList_append_vals h4 rfl rfl u_puts hi0 hz0 hz1 hz2 (by simp [Value.cells]) (by decide) rfl rfl hvals hone (by omega) ?_; intro ga gc w5 h5)
    | (at_builtin; refine wpList_append_fresh (h5.alloc (.cells #[] 5)).right rfl rfl rfl rfl (hb _ (h5.alloc (.cells #[] 5)).right.right.right.right) hl0 ?_; intro xa xc w6 h6)
    | (at_builtin; refine wpList_append_bears (h6.alloc (.cells #[.int .i64 (k : Int), .slice xa l.length xc] 64)).pull3 rfl rfl u_puts hi0 hz0 hz1 hz2 (by simp [Value.cells]) (by decide) rfl (m := 1) rfl rfl (World.news_of_block (cs := #[.int .i64 (k : Int), .slice xa l.length xc]) (h6.alloc _).obj) (by intro u hu; simp at hu; rcases hu with rfl | rfl <;> rfl) (by unfold maxLen; omega) (by omega) ?_; intro pa pc w8 h8; obtain ⟨g0, g1, g2, g3, g4, g5, g6⟩ := h8.pull4.refCells; have f1 := g6 1; clear g6))
  go_ret
  have hok := Hok.out
  have h9 := h8.pull4.setCell (i := 1) (.slice pa (ls.length + 1) pc)
  refine ⟨rfl, rowA 64 2 (.slice pa (ls.length + 1) pc) (ls.length + 1) (putCells ls ++ [.int .i64 (k : Int), .slice xa l.length xc]) * bufA (.slice xa l.length xc) l, Bears.ref.2 ⟨rs, ls ++ [(k, .slice xa l.length xc, l)], _, .slice pa (ls.length + 1) pc, bu, lf, hok.snoc Hkl.out ?_ Hl.out ?_, ?_⟩⟩
  · refine ⟨?_, .inr Hl.out⟩
    rw [Assn.mul_assoc']
    exact (buf_tells (R := Y)).right
  · refine ⟨fun x hx => ?_, ?_, pa, pc, by simp⟩
    · rcases List.mem_append.1 hx with hx | hx
      · exact (hok.puts.rows x hx).right
      · rw [List.mem_singleton] at hx
        subst hx
        refine ⟨?_, .inr Hl.out⟩
        rw [Assn.mul_assoc']
        exact (buf_tells (R := Y)).right
    · rw [putCells_append, Assn.mul_assoc']
      exact rowA_vals
  · have h10 : Bears _ (refObj y bv (.slice pa (ls.length + 1) pc) d.step.2.off bu lf d.step.2.steps * (rowA 64 2 (.slice pa (ls.length + 1) pc) (ls.length + 1) (putCells ls ++ [.int .i64 (k : Int), .slice xa l.length xc]) * (Assn.obj w6.heap.size (.cells #[.int .i64 (k : Int), .slice xa l.length xc] 64 (0, 0)) * (bufA (.slice xa l.length xc) l * (Y * R))))) := h9.cast (by simp)
    have h11 := h10.pull3.right
    simp only [Assn.mul_assoc']
    exact h11

end Go.Proofs.Ytfhigibdeeeiaaa

/- Walks of the document's disk, part 5: Boot; no condition. -/
namespace Go.Proofs.Ytfhigibdeeeiaaa
open Go.RowKit Go.MapKept

/-- Which of the writes that wait are kept. -/
def keptL (keep : List Int) : Nat → List (Nat × Value × Sec) → List (Nat × Value × Sec)
  | _, [] => []
  | k, p :: r => if keeps keep k = true then p :: keptL keep (k + 1) r else keptL keep (k + 1) r
theorem keptL_append (keep : List Int) (p : Nat × Value × Sec) : ∀ (l : List (Nat × Value × Sec)) (j : Nat), keptL keep j (l ++ [p]) = keptL keep j l ++ if keeps keep (j + l.length) = true then [p] else []
  | [], j => by simp [keptL]
  | q :: l, j => by
    have e : j + (l.length + 1) = j + 1 + l.length := by omega
    simp only [List.cons_append, keptL, List.length_cons, e]
    rw [keptL_append keep p l (j + 1)]
    split <;> rfl
theorem keptL_sub (keep : List Int) : ∀ (l : List (Nat × Value × Sec)) (j : Nat) (p : Nat × Value × Sec), p ∈ keptL keep j l → p ∈ l
  | [], _, _, h => by simp [keptL] at h
  | q :: l, j, p, h => by
    simp only [keptL] at h
    split at h
    · rcases List.mem_cons.1 h with rfl | h
      · simp
      · exact List.mem_cons_of_mem _ (keptL_sub keep l _ p h)
    · exact List.mem_cons_of_mem _ (keptL_sub keep l _ p h)
theorem keptL_puts (keep : List Int) : ∀ (l : List (Nat × Value × Sec)) (j : Nat), putsOf (keptL keep j l) = kept keep j (putsOf l)
  | [], _ => rfl
  | q :: l, j => by
    show putsOf (keptL keep j (q :: l)) = kept keep j ((q.1, q.2.2) :: putsOf l)
    simp only [keptL, kept]
    split
    · show (q.1, q.2.2) :: putsOf (keptL keep (j + 1) l) = _
      rw [keptL_puts keep l (j + 1)]
    · exact keptL_puts keep l (j + 1)
theorem keptL_len (keep : List Int) : ∀ (l : List (Nat × Value × Sec)) (j : Nat), (keptL keep j l).length ≤ l.length
  | [], _ => Nat.le_refl _
  | q :: l, j => by
    simp only [keptL]
    have := keptL_len keep l (j + 1)
    split <;> simp <;> omega
theorem keptL_none : ∀ (l : List (Nat × Value × Sec)) (j : Nat), keptL [] j l = []
  | [], _ => rfl
  | q :: l, j => by simp only [keptL, keeps]; exact keptL_none l (j + 1)

set_option maxRecDepth 100000 in
set_option maxHeartbeats 1000000 in
theorem rboot_any {y : Nat} {Y : Assn} {d d' : DiskM} {R : Assn} {w : World} (h : Bears w (refA y Y d * (Y * R))) {ks : List Int} {ad : Option Addr} {n cap : Nat} (hk : R.Tells (fun w => IntsIn w (.slice ad n cap) ks)) (hn : n = ks.length)
    (hb : ∀ x ∈ ks, -9223372036854775808 ≤ x ∧ x ≤ 9223372036854775807) (hlen : n ≤ 9223372036854775807) (hroom : d.waits.length < 1099511627776) (hd : d.boot ks = d') :
    Calls Try.prog 19 #[.pointer (some ⟨y, 0, none⟩), .slice ad n cap] w fun e w' => e = .returned (.tuple #[]) ∧ ∃ Z, Bears w' (refA y (Z * Y) d' * ((Z * Y) * R)) := by
  subst hn
  obtain ⟨rs, ls, bv, lv, bu, lf, hok, h1⟩ := Bears.ref.1 h
  obtain ⟨la, lc, rfl⟩ := hok.puts.form
  have hmany := hok.many
  have hmn : ls.length < 1099511627776 := by rw [hmany]; exact hroom
  have h2 : Bears w (rowA 64 2 (.slice none 0 0) 0 (putCells (keptL ks 0 (ls.take 0))) * (refObj y bv (.slice la ls.length lc) d.off bu lf d.steps * (Y * R))) := Bears.nilRow.2 h1
  obtain ⟨i0, hi0, hz0, hz1, hz2⟩ := info_parts i_put
  have Hok := Lib.hid hok
  have Hhb := Lib.hid hb
  have Hk := Lib.hid hk
  clear hok hb hk hmany h1 h
  go_enter Try.func19, Try.ntmps19
  go_upto_block 0 with (fail)
  go_cut [4] (fun v wr => ∃ a c, v = .slice a (keptL ks 0 ls).length c ∧ Bears wr (rowA 64 2 (.slice a (keptL ks 0 ls).length c) (keptL ks 0 ls).length (putCells (keptL ks 0 ls)) * (refObj y bv (.slice la ls.length lc) d.off bu lf d.steps * (Y * R))))
  case first =>
    go_wp2_with fail
    go_loopw [4, 5] (fun v iv wr => ∃ (k m : Nat) (a : Option Addr) (c : Nat), k ≤ ls.length ∧ iv = .int .i64 k ∧ m = (keptL ks 0 (ls.take k)).length ∧ v = .slice a m c ∧ Bears wr (rowA 64 2 (.slice a m c) m (putCells (keptL ks 0 (ls.take k))) *
      (refObj y bv (.slice la ls.length lc) d.off bu lf d.steps * (Y * R)))) (fun _ iv _ => ls.length - (intOf iv).toNat)
    case atStart => exact ⟨0, 0, none, 0, by omega, rfl, rfl, rfl, h2⟩
    case round =>
      clear h2
      obtain ⟨k, m, a, c, hk, rfl, hm, rfl, h4⟩ := hrel
      obtain ⟨_, c1, _⟩ := h4.pull2.refCells
      by_cases hlt : k < ls.length ∧ 0 < ks.length
      · obtain ⟨hlt, hpos⟩ := hlt
        have hltI : (k : Int) < (ls.length : Int) := by omega
        have hks0 : (0 : Int) < (ks.length : Int) := by omega
        obtain ⟨q0, q1⟩ := putCells_at hlt
        have htk : ls.take (k + 1) = ls.take k ++ [ls.getD k default] := by
          rw [List.take_succ_eq_append_getElem hlt, List.getD_eq_getElem?_getD, List.getElem?_eq_getElem hlt]; rfl
        have hka := keptL_append ks (ls.getD k default) (ls.take k) 0
        rw [← htk, Nat.zero_add, List.length_take, Nat.min_eq_left hk] at hka
        have hro := Hok.out.puts.rows (ls.getD k default) (by rw [List.getD_eq_getElem?_getD, List.getElem?_eq_getElem hlt]; exact List.getElem_mem hlt)
        generalize ls.getD k default = x at q0 q1 hro hka
        obtain ⟨pi, pv, pb⟩ := x
        simp only at q0 q1
        obtain ⟨xa, xn, xc, ex, exn⟩ := hro.form h4.pull3.left
        simp only at ex exn
        subst ex
        obtain ⟨lb, lo, hla, m0⟩ := (Hok.out.puts.tells _ h4.pull3.left).cell q0
        subst hla
        obtain ⟨_, _, e9, m1⟩ := (Hok.out.puts.tells _ h4.pull3.left).cell q1
        cases e9
        have m0' : wr.cell? ⟨lb, lo + k * 2, none⟩ = some (.int .i64 (pi : Int)) := m0
        have m1' : wr.cell? ⟨lb, lo + k * 2 + 1, none⟩ = some (.slice xa xn xc) := m1
        obtain ⟨kb, ko, rfl, _⟩ := (Hk.out _ h4.right.right.right).at (by intro e; rw [e] at hpos; simp at hpos)
        have hm0 : (0 : Int) ≤ (k : Int) % (ks.length : Int) := Int.emod_nonneg _ (by omega)
        have hm1 : (k : Int) % (ks.length : Int) < (ks.length : Int) := Int.emod_lt_of_pos _ (by omega)
        have hkm : k % ks.length < ks.length := Nat.mod_lt _ hpos
        have hin : ks.getD (k % ks.length) 0 ∈ ks := by rw [List.getD_eq_getElem?_getD, List.getElem?_eq_getElem hkm]; exact List.getElem_mem hkm
        have hx0 := (Hhb.out _ hin).1
        have hx1 := (Hhb.out _ hin).2
        have hkc := (Hk.out _ h4.right.right.right).cell hkm
        have hkeep : keeps ks k = ((ks.getD (k % ks.length) 0).tmod 2 != 0) := by
          unfold keeps
          rw [tmod_two]
          have : ks.isEmpty = false := by cases ks with | nil => simp at hpos | cons _ _ => rfl
          rw [this]; rfl
        generalize ks.getD (k % ks.length) 0 = kx at hx0 hx1 hkc hkeep
        have Hkeep := Lib.hid hkeep
        have Hka := Lib.hid hka
        have Hm := Lib.hid hm
        have hml : m ≤ ls.length := by
          rw [hm]
          have := keptL_len ks (ls.take k) 0
          rw [List.length_take] at this
          omega
        clear q0 q1 m0 m1 hro exn htk hka hin hkm hkeep hm
        go_wp2_with (at_builtin; refine wpList_append_bears (h4.alloc (.cells #[.int .i64 (pi : Int), .slice xa xn xc] 64)).pull2 rfl rfl u_puts hi0 hz0 hz1 hz2 (by simp [Value.cells]) (by decide) rfl (m := 1) rfl rfl (World.news_of_block (cs := #[.int .i64 (pi : Int), .slice xa xn xc]) (h4.alloc _).obj) (by intro u hu; simp at hu; rcases hu with rfl | rfl <;> rfl) (by unfold maxLen; omega) (by omega) ?_; intro pa pc w8 h8)
        · have hodd : (kx.tmod 2 != 0) = true := by assumption
          go_roundw
          case rel =>
            have hka := Hka.out
            rw [Hkeep.out, hodd, if_pos rfl] at hka
            refine ⟨k + 1, m + 1, pa, pc, hlt, by go_num, ?_, rfl, ?_⟩
            · rw [hka, List.length_append, ← Hm.out]; rfl
            · rw [hka, putCells_append]
              exact h8.pull2.right
          case measure => simp [intOf]; omega
        · have hodd : (kx.tmod 2 != 0) = false := by assumption
          go_roundw
          case rel =>
            have hka := Hka.out
            rw [Hkeep.out, hodd, if_neg (by decide), List.append_nil] at hka
            refine ⟨k + 1, m, a, c, hlt, by go_num, ?_, rfl, ?_⟩
            · rw [hka]; exact Hm.out
            · rw [hka]; exact h4
          case measure => simp [intOf]; omega
      · have hfin : keptL ks 0 (ls.take k) = keptL ks 0 ls := by
          by_cases h0 : ks.length = 0
          · obtain rfl : ks = [] := List.length_eq_zero_iff.1 h0
            rw [keptL_none, keptL_none]
          · obtain rfl : k = ls.length := by omega
            rw [List.take_length]
        rw [hfin] at h4 hm
        subst hm
        clear hfin
        have hlt' : ¬ k < ls.length ∨ ks.length = 0 := by omega
        clear hlt
        rcases hlt' with hlt | h0
        · go_wp2_with fail
          go_meet
          case rel => exact ⟨a, c, rfl, h4⟩
        · by_cases hlt : k < ls.length
          · go_wp2_with fail
            go_meet
            case rel => exact ⟨a, c, rfl, h4⟩
          · go_wp2_with fail
            go_meet
            case rel => exact ⟨a, c, rfl, h4⟩
  case rest =>
    clear h2
    obtain ⟨a, c, rfl, h4⟩ := hcut
    obtain ⟨Z0, hZ0⟩ : ∃ Z0, rowA 64 2 (.slice a (keptL ks 0 ls).length c) (keptL ks 0 ls).length (putCells (keptL ks 0 ls)) = Z0 := ⟨_, rfl⟩
    have hput : PutsOk (Z0 * Y) (keptL ks 0 ls) (.slice a (keptL ks 0 ls).length c) := ⟨fun x hx => (Hok.out.puts.rows x (keptL_sub ks ls 0 x hx)).right, by rw [← hZ0]; exact rowA_vals, a, c, rfl⟩
    have h5 : Bears wc (refObj y bv (.slice la ls.length lc) d.off bu lf d.steps * ((Z0 * Y) * R)) := by
      rw [hZ0] at h4
      rw [Assn.mul_assoc']
      exact h4.pull2
    have hfar : ∀ x ∈ keptL ks 0 ls, x.1 < rs.length ∧ x.2.2.length = 64 := fun x hx => Hok.out.far x (keptL_sub ks ls 0 x hx)
    have hset := rsettle_any h5 Hok.out.rows.right (by rw [Hok.out.len]; exact Hok.out.wf.len) hput (fun x hx => (hfar x hx).1) (by have := keptL_len ks ls 0; omega)
    have Hset := Lib.hid hset
    have Hfar := Lib.hid hfar
    clear h4 h5 hput hZ0 hset hfar
    go_wp2_with fail
    refine Hset.out.mono ?_
    rintro e w6 ⟨Z, bv', rfl, hrs, h6⟩
    obtain ⟨_, _, c2, c3, _, _, hf⟩ := h6.refCells
    have f2 := hf 2
    have f3 := hf 3
    clear hf
    go_wp2_with fail
    go_end0
    have hok := Hok.out
    have h7 := (h6.setCell (i := 2) (.bool false)).setCell (i := 3) (.bool false)
    have h8 : Bears _ (refObj y bv' (.slice none 0 0) false false lf d.steps * ((Z * (Z0 * Y)) * R)) := h7.cast (by simp)
    have hst := hok.sure.settle (ls := keptL ks 0 ls) (fun x hx => (Hfar.out x hx).2)
    rw [keptL_puts, hok.waits] at hst
    subst hd
    refine ⟨rfl, Z * Z0, ?_⟩
    rw [Assn.mul_assoc' Z Z0 Y]
    refine Bears.ref.2 ⟨setAll rs (keptL ks 0 ls), [], bv', .slice none 0 0, false, lf, ⟨⟨hok.wf.len, fun i => ?_, by simp [DiskM.boot], by simp [DiskM.boot], hok.wf.steps⟩, ?_, hrs, hst, PutsOk.nil _, rfl, rfl, fun h => absurd (show (0 : Int) ≤ -1 from h) (by decide), hok.lfb⟩, h8⟩
    · exact settle_length hok.wf.sure (fun q hq => (hok.wf.waits q (kept_sub ks d.waits 0 q hq)).2) i
    · rw [setAll_length]; exact hok.len

end Go.Proofs.Ytfhigibdeeeiaaa

/- The disk's statements: two disks are alike; no condition. -/
namespace Go.Proofs.Ytfhigibdeeeiaaa
open Go.RowKit Go.MapKept

set_option maxRecDepth 100000 in
set_option maxHeartbeats 1000000 in
theorem alike_any {p y : Nat} {Y : Assn} {d : DiskM} {R : Assn} {w : World} (h : Bears w (diskA p d * (refA y Y d * (Y * R)))) (i : Int) (hroom : d.waits.length < 1099511627776) :
    Calls Try.prog 20 #[.pointer (some ⟨p, 0, none⟩), .pointer (some ⟨y, 0, none⟩), .int .i64 i] w fun e w' => e = .returned (.bool true) ∧ Bears w' (diskA p d * (refA y Y d * (Y * R))) := by
  have hd1 : ∀ w', Bears w' (diskA p d * (refA y Y d * (Y * R))) → d.check i ≠ 0 → _ := fun w' h hc => read_no h i hc
  have hd2 : ∀ w' Q, Bears w' (refA y Y d * Q) → d.check i ≠ 0 → _ := fun w' Q h hc => rread_no (R := Q) h i hc
  have hw64 : ∀ k, (d.now k).length = 64 := fun k => by
    obtain ⟨_, _, _, _, _, hwf, _⟩ := Bears.disk.1 h
    exact hwf.now k
  have H64 := Lib.hid hw64
  clear hw64
  go_enter Try.func20, Try.ntmps20
  by_cases hc : d.check i = 0
  · obtain ⟨ho, hi0, hi1⟩ := check_range hc
    obtain ⟨k, rfl⟩ := Int.eq_ofNat_of_zero_le hi0
    have r1 := fun w' (h' : Bears w' (diskA p d * (refA y Y d * (Y * R)))) => read_to (w := w') (R := refA y Y d * (Y * R)) (k : Int) (s := d.now k) h' hc rfl
    have r2 := fun w' Q (h' : Bears w' (refA y Y d * (Y * Q))) => rread_ok (w := w') (R := Q) (y := y) (Y := Y) h' k hc hroom
    have hk64 := H64.out k
    have R1 := Lib.hid r1
    have R2 := Lib.hid r2
    have K64 := Lib.hid hk64
    clear r1 r2 hd1 hd2 hc hi0 hi1 ho hk64
    generalize d.now k = s at *
    go_wp2_with fail
    refine (R1.out _ h).mono ?_
    rintro e w1 ⟨g1, rfl, h1⟩
    go_wp2_with fail
    refine (R2.out _ (Assn.obj g1 (.cells (cellsV s).toArray 58 (0, 0)) * (diskA p d * R)) (h1.cast (by ac_rfl))).mono ?_
    rintro e w2 ⟨g2, rfl, h2⟩
    go_wp2_with fail
    obtain ⟨T, hT⟩ : ∃ T, Assn.obj g2 (.cells (cellsV s).toArray 5 (0, 0)) * Assn.obj g1 (.cells (cellsV s).toArray 58 (0, 0)) = T := ⟨_, rfl⟩
    have h3 : Bears w2 (T * (diskA p d * (refA y Y d * (Y * R)))) := by rw [← hT]; exact h2.cast (by ac_rfl)
    have b1 := BytesIn.tells (g := g1) (l := s) 64 64 K64.out.symm _ (h2.cast (by ac_rfl) : Bears w2 (Assn.obj g1 (.cells (cellsV s).toArray 58 (0, 0)) * (Assn.obj g2 (.cells (cellsV s).toArray 5 (0, 0)) * (diskA p d * (refA y Y d * (Y * R)))))).drew
    have b2 := BytesIn.tells (g := g2) (l := s) 64 64 K64.out.symm _ h2.drew
    clear hT h2 h1 h
    obtain ⟨rs, ls, bv, lv, bu, lf, hok, h2'⟩ := Bears.ref.1 h3.pull3
    obtain ⟨ba, bc, rfl⟩ := hok.rows.form
    obtain ⟨la, lc, rfl⟩ := hok.puts.form
    obtain ⟨q0, q1, q2, _, _, q5, _⟩ := h2'.drew.refCells
    rw [hok.len] at q0
    rw [hok.many] at q1
    have HS := Lib.hid (And.intro q0 (And.intro q1 (And.intro q2 (And.intro q5 (And.intro b1 b2)))))
    clear q0 q1 q2 q5 b1 b2 hok h2'
    refine wp_region_L (fun w' => w'.cell? ⟨y, 0, none⟩ = some (.slice ba d.len bc) ∧ w'.cell? ⟨y, 1, none⟩ = some (.slice la d.waits.length lc) ∧ w'.cell? ⟨y, 2, none⟩ = some (.bool d.off) ∧ w'.cell? ⟨y, 5, none⟩ = some (.int .i64 d.steps) ∧ BytesIn w' (.slice (some ⟨g1, 0, none⟩) 64 64) s ∧ BytesIn w' (.slice (some ⟨g2, 0, none⟩) 64 64) s) 49 [(true, 0), (true, 1), (true, 2), (false, 3), (true, 4), (true, 5), (true, 6), (true, 7), (true, 8), (true, 9), (true, 10), (true, 11), (true, 13), (true, 14), (true, 15), (true, 16), (true, 17), (false, 12), (true, 18), (true, 19), (true, 20), (true, 21), (true, 23), (true, 24), (true, 25), (true, 26), (false, 22), (true, 27), (true, 28), (true, 29), (true, 30), (true, 32), (true, 33), (true, 34), (true, 35), (true, 36), (false, 31), (true, 37), (true, 38), (true, 39), (true, 40), (true, 42), (true, 43), (true, 44), (true, 45), (true, 46), (false, 41), (true, 47), (true, 48)] [(true, 49)] (by kernel_rfl) (by kernel_rfl) HS.out ?_
    simp only [pick, List.getElem?_cons_zero, List.getElem?_cons_succ]
    refine wpL_yield (v := ?_) rfl (fun w' hS => ?_) ?_
    rotate_left
    · (go_simp; try with_reducible rfl)
    simp only [Act.put, List.setIfInBounds_toArray, List.set_cons_zero, List.set_cons_succ]
    refine wpL_yield rfl (fun w' hS => exec_convert rfl rfl (run_convert_in hS.2.2.2.2.1)) ?_
    simp only [Act.put, List.setIfInBounds_toArray, List.set_cons_zero, List.set_cons_succ]
    refine wpL_yield (v := ?_) rfl (fun w' hS => ?_) ?_
    rotate_left
    · (go_simp; try with_reducible rfl)
    simp only [Act.put, List.setIfInBounds_toArray, List.set_cons_zero, List.set_cons_succ]
    refine wpL_eff rfl (wp_of_run (exec_convert rfl rfl (run_convert_in HS.out.2.2.2.2.2)) ⟨HS.out, ?_⟩)
    simp only [Act.put, List.setIfInBounds_toArray, List.set_cons_zero, List.set_cons_succ]
    refine wpL_yield (v := ?_) rfl (fun w' hS => ?_) ?_
    rotate_left
    · (go_simp; try with_reducible rfl)
    simp only [Act.put, List.setIfInBounds_toArray, List.set_cons_zero, List.set_cons_succ]
    refine wpL_yield (v := ?_) rfl (fun w' hS => ?_) ?_
    rotate_left
    · (go_simp; try with_reducible rfl)
    simp only [Act.put, List.setIfInBounds_toArray, List.set_cons_zero, List.set_cons_succ]
    refine wpL_guarded (v := ?_) rfl (fun w' hS => ?_) ?_
    rotate_left
    · (go_simp; try with_reducible rfl)
    simp only [Act.put, List.setIfInBounds_toArray, List.set_cons_zero, List.set_cons_succ]
    refine wpL_guarded (v := ?_) rfl (fun w' hS => ?_) ?_
    rotate_left
    · (go_simp; try with_reducible rfl)
    simp only [Act.put, List.setIfInBounds_toArray, List.set_cons_zero, List.set_cons_succ]
    refine wpL_guarded (v := ?_) rfl (fun w' hS => ?_) ?_
    rotate_left
    · (go_simp; try with_reducible rfl)
    simp only [Act.put, List.setIfInBounds_toArray, List.set_cons_zero, List.set_cons_succ]
    refine wpL_yield (v := ?_) rfl (fun w' hS => ?_) ?_
    rotate_left
    · (go_simp; try with_reducible rfl)
    simp only [Act.put, List.setIfInBounds_toArray, List.set_cons_zero, List.set_cons_succ]
    refine wpL_yield (v := ?_) rfl (fun w' hS => ?_) ?_
    rotate_left
    · (go_simp; try with_reducible rfl)
    simp only [Act.put, List.setIfInBounds_toArray, List.set_cons_zero, List.set_cons_succ]
    refine wpL_guarded (v := ?_) rfl (fun w' hS => ?_) ?_
    rotate_left
    · (obtain ⟨s0, s1, s2, s5, -, -⟩ := hS; go_simp; try with_reducible rfl)
    simp only [Act.put, List.setIfInBounds_toArray, List.set_cons_zero, List.set_cons_succ]
    refine wpL_guarded (v := ?_) rfl (fun w' hS => ?_) ?_
    rotate_left
    · (obtain ⟨s0, s1, s2, s5, -, -⟩ := hS; go_simp; try with_reducible rfl)
    simp only [Act.put, List.setIfInBounds_toArray, List.set_cons_zero, List.set_cons_succ]
    refine wpL_guarded (v := ?_) rfl (fun w' hS => ?_) ?_
    rotate_left
    · (obtain ⟨s0, s1, s2, s5, -, -⟩ := hS; go_simp; try with_reducible rfl)
    simp only [Act.put, List.setIfInBounds_toArray, List.set_cons_zero, List.set_cons_succ]
    refine wpL_guarded (v := ?_) rfl (fun w' hS => ?_) ?_
    rotate_left
    · (obtain ⟨s0, s1, s2, s5, -, -⟩ := hS; go_simp; try with_reducible rfl)
    simp only [Act.put, List.setIfInBounds_toArray, List.set_cons_zero, List.set_cons_succ]
    refine wpL_guarded (v := ?_) rfl (fun w' hS => ?_) ?_
    rotate_left
    · (obtain ⟨s0, s1, s2, s5, -, -⟩ := hS; go_simp; try with_reducible rfl)
    simp only [Act.put, List.setIfInBounds_toArray, List.set_cons_zero, List.set_cons_succ]
    refine wpL_guarded (v := ?_) rfl (fun w' hS => ?_) ?_
    rotate_left
    · (obtain ⟨s0, s1, s2, s5, -, -⟩ := hS; go_simp; try with_reducible rfl)
    simp only [Act.put, List.setIfInBounds_toArray, List.set_cons_zero, List.set_cons_succ]
    refine wpL_effG rfl ?_
    go_simp
    refine (on_any h3.drew.pull2).mono ?_
    rintro e w' ⟨rfl, rfl⟩
    refine ⟨HS.out, ?_⟩
    refine wpL_guarded (v := ?_) rfl (fun w' hS => ?_) ?_
    rotate_left
    · (go_simp; try with_reducible rfl)
    simp only [Act.put, List.setIfInBounds_toArray, List.set_cons_zero, List.set_cons_succ]
    refine wpL_yield (v := ?_) rfl (fun w' hS => ?_) ?_
    rotate_left
    · (go_simp; try with_reducible rfl)
    simp only [Act.put, List.setIfInBounds_toArray, List.set_cons_zero, List.set_cons_succ]
    refine wpL_yield (v := ?_) rfl (fun w' hS => ?_) ?_
    rotate_left
    · (go_simp; try with_reducible rfl)
    simp only [Act.put, List.setIfInBounds_toArray, List.set_cons_zero, List.set_cons_succ]
    refine wpL_guarded (v := ?_) rfl (fun w' hS => ?_) ?_
    rotate_left
    · (obtain ⟨s0, s1, s2, s5, -, -⟩ := hS; go_simp; try with_reducible rfl)
    simp only [Act.put, List.setIfInBounds_toArray, List.set_cons_zero, List.set_cons_succ]
    refine wpL_guarded (v := ?_) rfl (fun w' hS => ?_) ?_
    rotate_left
    · (obtain ⟨s0, s1, s2, s5, -, -⟩ := hS; go_simp; try with_reducible rfl)
    simp only [Act.put, List.setIfInBounds_toArray, List.set_cons_zero, List.set_cons_succ]
    refine wpL_guarded (v := ?_) rfl (fun w' hS => ?_) ?_
    rotate_left
    · (obtain ⟨s0, s1, s2, s5, -, -⟩ := hS; go_simp; try with_reducible rfl)
    simp only [Act.put, List.setIfInBounds_toArray, List.set_cons_zero, List.set_cons_succ]
    refine wpL_guarded (v := ?_) rfl (fun w' hS => ?_) ?_
    rotate_left
    · (obtain ⟨s0, s1, s2, s5, -, -⟩ := hS; go_simp; try with_reducible rfl)
    simp only [Act.put, List.setIfInBounds_toArray, List.set_cons_zero, List.set_cons_succ]
    refine wpL_guarded (v := ?_) rfl (fun w' hS => ?_) ?_
    rotate_left
    · (obtain ⟨s0, s1, s2, s5, -, -⟩ := hS; go_simp; try with_reducible rfl)
    simp only [Act.put, List.setIfInBounds_toArray, List.set_cons_zero, List.set_cons_succ]
    refine wpL_effG rfl ?_
    go_simp
    refine (steps_any h3.drew.pull2).mono ?_
    rintro e w' ⟨rfl, rfl⟩
    refine ⟨HS.out, ?_⟩
    refine wpL_guarded (v := ?_) rfl (fun w' hS => ?_) ?_
    rotate_left
    · (go_simp; try with_reducible rfl)
    simp only [Act.put, List.setIfInBounds_toArray, List.set_cons_zero, List.set_cons_succ]
    refine wpL_yield (v := ?_) rfl (fun w' hS => ?_) ?_
    rotate_left
    · (go_simp; try with_reducible rfl)
    simp only [Act.put, List.setIfInBounds_toArray, List.set_cons_zero, List.set_cons_succ]
    refine wpL_yield (v := ?_) rfl (fun w' hS => ?_) ?_
    rotate_left
    · (go_simp; try with_reducible rfl)
    simp only [Act.put, List.setIfInBounds_toArray, List.set_cons_zero, List.set_cons_succ]
    refine wpL_guarded (v := ?_) rfl (fun w' hS => ?_) ?_
    rotate_left
    · (obtain ⟨s0, s1, s2, s5, -, -⟩ := hS; go_simp; try with_reducible rfl)
    simp only [Act.put, List.setIfInBounds_toArray, List.set_cons_zero, List.set_cons_succ]
    refine wpL_guarded (v := ?_) rfl (fun w' hS => ?_) ?_
    rotate_left
    · (obtain ⟨s0, s1, s2, s5, -, -⟩ := hS; go_simp; try with_reducible rfl)
    simp only [Act.put, List.setIfInBounds_toArray, List.set_cons_zero, List.set_cons_succ]
    refine wpL_guarded (v := ?_) rfl (fun w' hS => ?_) ?_
    rotate_left
    · (obtain ⟨s0, s1, s2, s5, -, -⟩ := hS; go_simp; try with_reducible rfl)
    simp only [Act.put, List.setIfInBounds_toArray, List.set_cons_zero, List.set_cons_succ]
    refine wpL_guarded (v := ?_) rfl (fun w' hS => ?_) ?_
    rotate_left
    · (obtain ⟨s0, s1, s2, s5, -, -⟩ := hS; go_simp; try with_reducible rfl)
    simp only [Act.put, List.setIfInBounds_toArray, List.set_cons_zero, List.set_cons_succ]
    refine wpL_guarded (v := ?_) rfl (fun w' hS => ?_) ?_
    rotate_left
    · (obtain ⟨s0, s1, s2, s5, -, -⟩ := hS; go_simp; try with_reducible rfl)
    simp only [Act.put, List.setIfInBounds_toArray, List.set_cons_zero, List.set_cons_succ]
    refine wpL_guarded (v := ?_) rfl (fun w' hS => ?_) ?_
    rotate_left
    · (obtain ⟨s0, s1, s2, s5, -, -⟩ := hS; go_simp; try with_reducible rfl)
    simp only [Act.put, List.setIfInBounds_toArray, List.set_cons_zero, List.set_cons_succ]
    refine wpL_effG rfl ?_
    go_simp
    refine (len_any h3.drew.pull2).mono ?_
    rintro e w' ⟨rfl, rfl⟩
    refine ⟨HS.out, ?_⟩
    refine wpL_guarded (v := ?_) rfl (fun w' hS => ?_) ?_
    rotate_left
    · (go_simp; try with_reducible rfl)
    simp only [Act.put, List.setIfInBounds_toArray, List.set_cons_zero, List.set_cons_succ]
    refine wpL_yield (v := ?_) rfl (fun w' hS => ?_) ?_
    rotate_left
    · (go_simp; try with_reducible rfl)
    simp only [Act.put, List.setIfInBounds_toArray, List.set_cons_zero, List.set_cons_succ]
    refine wpL_yield (v := ?_) rfl (fun w' hS => ?_) ?_
    rotate_left
    · (go_simp; try with_reducible rfl)
    simp only [Act.put, List.setIfInBounds_toArray, List.set_cons_zero, List.set_cons_succ]
    refine wpL_guarded (v := ?_) rfl (fun w' hS => ?_) ?_
    rotate_left
    · (obtain ⟨s0, s1, s2, s5, -, -⟩ := hS; go_simp; try with_reducible rfl)
    simp only [Act.put, List.setIfInBounds_toArray, List.set_cons_zero, List.set_cons_succ]
    refine wpL_guarded (v := ?_) rfl (fun w' hS => ?_) ?_
    rotate_left
    · (obtain ⟨s0, s1, s2, s5, -, -⟩ := hS; go_simp; try with_reducible rfl)
    simp only [Act.put, List.setIfInBounds_toArray, List.set_cons_zero, List.set_cons_succ]
    refine wpL_guarded (v := ?_) rfl (fun w' hS => ?_) ?_
    rotate_left
    · (obtain ⟨s0, s1, s2, s5, -, -⟩ := hS; go_simp; try with_reducible rfl)
    simp only [Act.put, List.setIfInBounds_toArray, List.set_cons_zero, List.set_cons_succ]
    refine wpL_guarded (v := ?_) rfl (fun w' hS => ?_) ?_
    rotate_left
    · (obtain ⟨s0, s1, s2, s5, -, -⟩ := hS; go_simp; try with_reducible rfl)
    simp only [Act.put, List.setIfInBounds_toArray, List.set_cons_zero, List.set_cons_succ]
    refine wpL_guarded (v := ?_) rfl (fun w' hS => ?_) ?_
    rotate_left
    · (obtain ⟨s0, s1, s2, s5, -, -⟩ := hS; go_simp; try with_reducible rfl)
    simp only [Act.put, List.setIfInBounds_toArray, List.set_cons_zero, List.set_cons_succ]
    refine wpL_guarded (v := ?_) rfl (fun w' hS => ?_) ?_
    rotate_left
    · (obtain ⟨s0, s1, s2, s5, -, -⟩ := hS; go_simp; try with_reducible rfl)
    simp only [Act.put, List.setIfInBounds_toArray, List.set_cons_zero, List.set_cons_succ]
    refine wpL_effG rfl ?_
    go_simp
    refine (waiting_any h3.drew.pull2).mono ?_
    rintro e w' ⟨rfl, rfl⟩
    refine ⟨HS.out, ?_⟩
    refine wpL_guarded (v := ?_) rfl (fun w' hS => ?_) ?_
    rotate_left
    · (go_simp; try with_reducible rfl)
    simp only [Act.put, List.setIfInBounds_toArray, List.set_cons_zero, List.set_cons_succ]
    refine wpL_yield (v := ?_) rfl (fun w' hS => ?_) ?_
    rotate_left
    · (go_simp; try with_reducible rfl)
    simp only [Act.put, List.setIfInBounds_toArray, List.set_cons_zero, List.set_cons_succ]
    refine wpL_nil ?_
    refine wpL_yield (v := ?_) rfl (fun w' hS => ?_) ?_
    rotate_left
    · (go_simp; try with_reducible rfl)
    simp only [Act.put, List.setIfInBounds_toArray, List.set_cons_zero, List.set_cons_succ]
    refine wpL_nil ?_
    go_wp2_with fail
    go_ret
    exact ⟨rfl, h3.drew.right⟩
  · have r1 := fun w' h' => hd1 w' h' hc
    have r2 := fun w' Q h' => hd2 w' Q h' hc
    have R1 := Lib.hid r1
    have R2 := Lib.hid r2
    clear r1 r2 hd1 hd2
    generalize d.check i = c at *
    clear hc
    go_wp2_with fail
    refine (R1.out _ h).mono ?_
    rintro e w1 ⟨rfl, rfl⟩
    go_wp2_with fail
    refine (R2.out _ (diskA p d * (Y * R)) (h.cast (by ac_rfl))).mono ?_
    rintro e w2 ⟨rfl, rfl⟩
    go_wp2_with fail
    have b1 : BytesIn w.drew (.slice none 0 0) [] := ⟨none, 0, rfl, fun h => absurd rfl h⟩
    have b2 := b1
    have h3 : Bears w (Assn.emp * (diskA p d * (refA y Y d * (Y * R)))) := by rw [Assn.emp_mul]; exact h
    obtain ⟨rs, ls, bv, lv, bu, lf, hok, h2'⟩ := Bears.ref.1 h3.pull3
    obtain ⟨ba, bc, rfl⟩ := hok.rows.form
    obtain ⟨la, lc, rfl⟩ := hok.puts.form
    obtain ⟨q0, q1, q2, _, _, q5, _⟩ := h2'.drew.refCells
    rw [hok.len] at q0
    rw [hok.many] at q1
    have HS := Lib.hid (And.intro q0 (And.intro q1 (And.intro q2 (And.intro q5 b1))))
    clear q0 q1 q2 q5 b1 b2 hok h2'
    refine wp_region_L (fun w' => w'.cell? ⟨y, 0, none⟩ = some (.slice ba d.len bc) ∧ w'.cell? ⟨y, 1, none⟩ = some (.slice la d.waits.length lc) ∧ w'.cell? ⟨y, 2, none⟩ = some (.bool d.off) ∧ w'.cell? ⟨y, 5, none⟩ = some (.int .i64 d.steps) ∧ BytesIn w' (.slice none 0 0) ([] : List UInt8)) 49 [(true, 0), (true, 1), (true, 2), (false, 3), (true, 4), (true, 5), (true, 6), (true, 7), (true, 8), (true, 9), (true, 10), (true, 11), (true, 13), (true, 14), (true, 15), (true, 16), (true, 17), (false, 12), (true, 18), (true, 19), (true, 20), (true, 21), (true, 23), (true, 24), (true, 25), (true, 26), (false, 22), (true, 27), (true, 28), (true, 29), (true, 30), (true, 32), (true, 33), (true, 34), (true, 35), (true, 36), (false, 31), (true, 37), (true, 38), (true, 39), (true, 40), (true, 42), (true, 43), (true, 44), (true, 45), (true, 46), (false, 41), (true, 47), (true, 48)] [(true, 49)] (by kernel_rfl) (by kernel_rfl) HS.out ?_
    simp only [pick, List.getElem?_cons_zero, List.getElem?_cons_succ]
    refine wpL_yield (v := ?_) rfl (fun w' hS => ?_) ?_
    rotate_left
    · (go_simp; try with_reducible rfl)
    simp only [Act.put, List.setIfInBounds_toArray, List.set_cons_zero, List.set_cons_succ]
    refine wpL_yield rfl (fun w' hS => exec_convert rfl rfl (run_convert_in hS.2.2.2.2)) ?_
    simp only [Act.put, List.setIfInBounds_toArray, List.set_cons_zero, List.set_cons_succ]
    refine wpL_yield (v := ?_) rfl (fun w' hS => ?_) ?_
    rotate_left
    · (go_simp; try with_reducible rfl)
    simp only [Act.put, List.setIfInBounds_toArray, List.set_cons_zero, List.set_cons_succ]
    refine wpL_eff rfl (wp_of_run (exec_convert rfl rfl (run_convert_in HS.out.2.2.2.2)) ⟨HS.out, ?_⟩)
    simp only [Act.put, List.setIfInBounds_toArray, List.set_cons_zero, List.set_cons_succ]
    refine wpL_yield (v := ?_) rfl (fun w' hS => ?_) ?_
    rotate_left
    · (go_simp; try with_reducible rfl)
    simp only [Act.put, List.setIfInBounds_toArray, List.set_cons_zero, List.set_cons_succ]
    refine wpL_yield (v := ?_) rfl (fun w' hS => ?_) ?_
    rotate_left
    · (go_simp; try with_reducible rfl)
    simp only [Act.put, List.setIfInBounds_toArray, List.set_cons_zero, List.set_cons_succ]
    refine wpL_guarded (v := ?_) rfl (fun w' hS => ?_) ?_
    rotate_left
    · (go_simp; try with_reducible rfl)
    simp only [Act.put, List.setIfInBounds_toArray, List.set_cons_zero, List.set_cons_succ]
    refine wpL_guarded (v := ?_) rfl (fun w' hS => ?_) ?_
    rotate_left
    · (go_simp; try with_reducible rfl)
    simp only [Act.put, List.setIfInBounds_toArray, List.set_cons_zero, List.set_cons_succ]
    refine wpL_guarded (v := ?_) rfl (fun w' hS => ?_) ?_
    rotate_left
    · (go_simp; try with_reducible rfl)
    simp only [Act.put, List.setIfInBounds_toArray, List.set_cons_zero, List.set_cons_succ]
    refine wpL_yield (v := ?_) rfl (fun w' hS => ?_) ?_
    rotate_left
    · (go_simp; try with_reducible rfl)
    simp only [Act.put, List.setIfInBounds_toArray, List.set_cons_zero, List.set_cons_succ]
    refine wpL_yield (v := ?_) rfl (fun w' hS => ?_) ?_
    rotate_left
    · (go_simp; try with_reducible rfl)
    simp only [Act.put, List.setIfInBounds_toArray, List.set_cons_zero, List.set_cons_succ]
    refine wpL_guarded (v := ?_) rfl (fun w' hS => ?_) ?_
    rotate_left
    · (obtain ⟨s0, s1, s2, s5, -⟩ := hS; go_simp; try with_reducible rfl)
    simp only [Act.put, List.setIfInBounds_toArray, List.set_cons_zero, List.set_cons_succ]
    refine wpL_guarded (v := ?_) rfl (fun w' hS => ?_) ?_
    rotate_left
    · (obtain ⟨s0, s1, s2, s5, -⟩ := hS; go_simp; try with_reducible rfl)
    simp only [Act.put, List.setIfInBounds_toArray, List.set_cons_zero, List.set_cons_succ]
    refine wpL_guarded (v := ?_) rfl (fun w' hS => ?_) ?_
    rotate_left
    · (obtain ⟨s0, s1, s2, s5, -⟩ := hS; go_simp; try with_reducible rfl)
    simp only [Act.put, List.setIfInBounds_toArray, List.set_cons_zero, List.set_cons_succ]
    refine wpL_guarded (v := ?_) rfl (fun w' hS => ?_) ?_
    rotate_left
    · (obtain ⟨s0, s1, s2, s5, -⟩ := hS; go_simp; try with_reducible rfl)
    simp only [Act.put, List.setIfInBounds_toArray, List.set_cons_zero, List.set_cons_succ]
    refine wpL_guarded (v := ?_) rfl (fun w' hS => ?_) ?_
    rotate_left
    · (obtain ⟨s0, s1, s2, s5, -⟩ := hS; go_simp; try with_reducible rfl)
    simp only [Act.put, List.setIfInBounds_toArray, List.set_cons_zero, List.set_cons_succ]
    refine wpL_guarded (v := ?_) rfl (fun w' hS => ?_) ?_
    rotate_left
    · (obtain ⟨s0, s1, s2, s5, -⟩ := hS; go_simp; try with_reducible rfl)
    simp only [Act.put, List.setIfInBounds_toArray, List.set_cons_zero, List.set_cons_succ]
    refine wpL_effG rfl ?_
    go_simp
    refine (on_any h3.drew.pull2).mono ?_
    rintro e w' ⟨rfl, rfl⟩
    refine ⟨HS.out, ?_⟩
    refine wpL_guarded (v := ?_) rfl (fun w' hS => ?_) ?_
    rotate_left
    · (go_simp; try with_reducible rfl)
    simp only [Act.put, List.setIfInBounds_toArray, List.set_cons_zero, List.set_cons_succ]
    refine wpL_yield (v := ?_) rfl (fun w' hS => ?_) ?_
    rotate_left
    · (go_simp; try with_reducible rfl)
    simp only [Act.put, List.setIfInBounds_toArray, List.set_cons_zero, List.set_cons_succ]
    refine wpL_yield (v := ?_) rfl (fun w' hS => ?_) ?_
    rotate_left
    · (go_simp; try with_reducible rfl)
    simp only [Act.put, List.setIfInBounds_toArray, List.set_cons_zero, List.set_cons_succ]
    refine wpL_guarded (v := ?_) rfl (fun w' hS => ?_) ?_
    rotate_left
    · (obtain ⟨s0, s1, s2, s5, -⟩ := hS; go_simp; try with_reducible rfl)
    simp only [Act.put, List.setIfInBounds_toArray, List.set_cons_zero, List.set_cons_succ]
    refine wpL_guarded (v := ?_) rfl (fun w' hS => ?_) ?_
    rotate_left
    · (obtain ⟨s0, s1, s2, s5, -⟩ := hS; go_simp; try with_reducible rfl)
    simp only [Act.put, List.setIfInBounds_toArray, List.set_cons_zero, List.set_cons_succ]
    refine wpL_guarded (v := ?_) rfl (fun w' hS => ?_) ?_
    rotate_left
    · (obtain ⟨s0, s1, s2, s5, -⟩ := hS; go_simp; try with_reducible rfl)
    simp only [Act.put, List.setIfInBounds_toArray, List.set_cons_zero, List.set_cons_succ]
    refine wpL_guarded (v := ?_) rfl (fun w' hS => ?_) ?_
    rotate_left
    · (obtain ⟨s0, s1, s2, s5, -⟩ := hS; go_simp; try with_reducible rfl)
    simp only [Act.put, List.setIfInBounds_toArray, List.set_cons_zero, List.set_cons_succ]
    refine wpL_guarded (v := ?_) rfl (fun w' hS => ?_) ?_
    rotate_left
    · (obtain ⟨s0, s1, s2, s5, -⟩ := hS; go_simp; try with_reducible rfl)
    simp only [Act.put, List.setIfInBounds_toArray, List.set_cons_zero, List.set_cons_succ]
    refine wpL_effG rfl ?_
    go_simp
    refine (steps_any h3.drew.pull2).mono ?_
    rintro e w' ⟨rfl, rfl⟩
    refine ⟨HS.out, ?_⟩
    refine wpL_guarded (v := ?_) rfl (fun w' hS => ?_) ?_
    rotate_left
    · (go_simp; try with_reducible rfl)
    simp only [Act.put, List.setIfInBounds_toArray, List.set_cons_zero, List.set_cons_succ]
    refine wpL_yield (v := ?_) rfl (fun w' hS => ?_) ?_
    rotate_left
    · (go_simp; try with_reducible rfl)
    simp only [Act.put, List.setIfInBounds_toArray, List.set_cons_zero, List.set_cons_succ]
    refine wpL_yield (v := ?_) rfl (fun w' hS => ?_) ?_
    rotate_left
    · (go_simp; try with_reducible rfl)
    simp only [Act.put, List.setIfInBounds_toArray, List.set_cons_zero, List.set_cons_succ]
    refine wpL_guarded (v := ?_) rfl (fun w' hS => ?_) ?_
    rotate_left
    · (obtain ⟨s0, s1, s2, s5, -⟩ := hS; go_simp; try with_reducible rfl)
    simp only [Act.put, List.setIfInBounds_toArray, List.set_cons_zero, List.set_cons_succ]
    refine wpL_guarded (v := ?_) rfl (fun w' hS => ?_) ?_
    rotate_left
    · (obtain ⟨s0, s1, s2, s5, -⟩ := hS; go_simp; try with_reducible rfl)
    simp only [Act.put, List.setIfInBounds_toArray, List.set_cons_zero, List.set_cons_succ]
    refine wpL_guarded (v := ?_) rfl (fun w' hS => ?_) ?_
    rotate_left
    · (obtain ⟨s0, s1, s2, s5, -⟩ := hS; go_simp; try with_reducible rfl)
    simp only [Act.put, List.setIfInBounds_toArray, List.set_cons_zero, List.set_cons_succ]
    refine wpL_guarded (v := ?_) rfl (fun w' hS => ?_) ?_
    rotate_left
    · (obtain ⟨s0, s1, s2, s5, -⟩ := hS; go_simp; try with_reducible rfl)
    simp only [Act.put, List.setIfInBounds_toArray, List.set_cons_zero, List.set_cons_succ]
    refine wpL_guarded (v := ?_) rfl (fun w' hS => ?_) ?_
    rotate_left
    · (obtain ⟨s0, s1, s2, s5, -⟩ := hS; go_simp; try with_reducible rfl)
    simp only [Act.put, List.setIfInBounds_toArray, List.set_cons_zero, List.set_cons_succ]
    refine wpL_guarded (v := ?_) rfl (fun w' hS => ?_) ?_
    rotate_left
    · (obtain ⟨s0, s1, s2, s5, -⟩ := hS; go_simp; try with_reducible rfl)
    simp only [Act.put, List.setIfInBounds_toArray, List.set_cons_zero, List.set_cons_succ]
    refine wpL_effG rfl ?_
    go_simp
    refine (len_any h3.drew.pull2).mono ?_
    rintro e w' ⟨rfl, rfl⟩
    refine ⟨HS.out, ?_⟩
    refine wpL_guarded (v := ?_) rfl (fun w' hS => ?_) ?_
    rotate_left
    · (go_simp; try with_reducible rfl)
    simp only [Act.put, List.setIfInBounds_toArray, List.set_cons_zero, List.set_cons_succ]
    refine wpL_yield (v := ?_) rfl (fun w' hS => ?_) ?_
    rotate_left
    · (go_simp; try with_reducible rfl)
    simp only [Act.put, List.setIfInBounds_toArray, List.set_cons_zero, List.set_cons_succ]
    refine wpL_yield (v := ?_) rfl (fun w' hS => ?_) ?_
    rotate_left
    · (go_simp; try with_reducible rfl)
    simp only [Act.put, List.setIfInBounds_toArray, List.set_cons_zero, List.set_cons_succ]
    refine wpL_guarded (v := ?_) rfl (fun w' hS => ?_) ?_
    rotate_left
    · (obtain ⟨s0, s1, s2, s5, -⟩ := hS; go_simp; try with_reducible rfl)
    simp only [Act.put, List.setIfInBounds_toArray, List.set_cons_zero, List.set_cons_succ]
    refine wpL_guarded (v := ?_) rfl (fun w' hS => ?_) ?_
    rotate_left
    · (obtain ⟨s0, s1, s2, s5, -⟩ := hS; go_simp; try with_reducible rfl)
    simp only [Act.put, List.setIfInBounds_toArray, List.set_cons_zero, List.set_cons_succ]
    refine wpL_guarded (v := ?_) rfl (fun w' hS => ?_) ?_
    rotate_left
    · (obtain ⟨s0, s1, s2, s5, -⟩ := hS; go_simp; try with_reducible rfl)
    simp only [Act.put, List.setIfInBounds_toArray, List.set_cons_zero, List.set_cons_succ]
    refine wpL_guarded (v := ?_) rfl (fun w' hS => ?_) ?_
    rotate_left
    · (obtain ⟨s0, s1, s2, s5, -⟩ := hS; go_simp; try with_reducible rfl)
    simp only [Act.put, List.setIfInBounds_toArray, List.set_cons_zero, List.set_cons_succ]
    refine wpL_guarded (v := ?_) rfl (fun w' hS => ?_) ?_
    rotate_left
    · (obtain ⟨s0, s1, s2, s5, -⟩ := hS; go_simp; try with_reducible rfl)
    simp only [Act.put, List.setIfInBounds_toArray, List.set_cons_zero, List.set_cons_succ]
    refine wpL_guarded (v := ?_) rfl (fun w' hS => ?_) ?_
    rotate_left
    · (obtain ⟨s0, s1, s2, s5, -⟩ := hS; go_simp; try with_reducible rfl)
    simp only [Act.put, List.setIfInBounds_toArray, List.set_cons_zero, List.set_cons_succ]
    refine wpL_effG rfl ?_
    go_simp
    refine (waiting_any h3.drew.pull2).mono ?_
    rintro e w' ⟨rfl, rfl⟩
    refine ⟨HS.out, ?_⟩
    refine wpL_guarded (v := ?_) rfl (fun w' hS => ?_) ?_
    rotate_left
    · (go_simp; try with_reducible rfl)
    simp only [Act.put, List.setIfInBounds_toArray, List.set_cons_zero, List.set_cons_succ]
    refine wpL_yield (v := ?_) rfl (fun w' hS => ?_) ?_
    rotate_left
    · (go_simp; try with_reducible rfl)
    simp only [Act.put, List.setIfInBounds_toArray, List.set_cons_zero, List.set_cons_succ]
    refine wpL_nil ?_
    refine wpL_yield (v := ?_) rfl (fun w' hS => ?_) ?_
    rotate_left
    · (go_simp; try with_reducible rfl)
    simp only [Act.put, List.setIfInBounds_toArray, List.set_cons_zero, List.set_cons_succ]
    refine wpL_nil ?_
    go_wp2_with fail
    go_ret
    exact ⟨rfl, h3.drew.right⟩

end Go.Proofs.Ytfhigibdeeeiaaa

/- The disk's statements: their small functions; no condition. -/
namespace Go.Proofs.Ytfhigibdeeeiaaa
open Go.RowKit Go.MapKept

/-- A sector of one byte. -/
def fullS (c : UInt8) : Sec := List.replicate 64 c

theorem fullS_length (c : UInt8) : (fullS c).length = 64 := by simp [fullS]

def partS (c : UInt8) (k : Nat) : Sec := List.replicate k c ++ List.replicate (64 - k) 0

theorem partS_set (c : UInt8) (k : Nat) (hk : k < 64) : (cellsV (partS c k)).toArray.setIfInBounds k (byteV c) = (cellsV (partS c (k + 1))).toArray := by
  apply Array.toList_inj.1
  simp only [Array.toList_setIfInBounds, cellsV, partS, List.map_append, List.map_replicate]
  rw [List.set_append_right _ _ (by simp)]
  simp only [List.length_replicate, Nat.sub_self]
  rw [show 64 - k = (64 - (k + 1)) + 1 by omega, List.replicate_succ, List.set_cons_zero, List.replicate_succ']
  simp

set_option maxRecDepth 100000 in
set_option maxHeartbeats 400000 in
theorem full_any {R : Assn} {w : World} (h : Bears w R) (c : UInt8) :
    Calls Try.prog 10 #[byteV c] w fun e w' => ∃ g, e = .returned (.slice (some ⟨g, 0, none⟩) 64 64) ∧ Bears w' (Assn.obj g (.cells (cellsV (fullS c)).toArray 5 (0, 0)) * R) := by
  have hmk : ∀ w, (Instr.makeSlice 37 (.int .i64 64) (.int .i64 64)).run Try.prog w = .ok (.slice (some ⟨w.heap.size, 0, none⟩) 64 64) (w.alloc (.cells (cellsV (partS c 0)).toArray 5)) := fun _ => by kernel_rfl
  have hc : c.toNat < 256 := c.toNat_lt
  unfold byteV
  generalize hv : (c.toNat : Int) = cv
  have Hv := Lib.hid hv
  clear hv
  go_enter Try.func10, Try.ntmps10
  go_wp2_with fail
  go_loopw [4] (fun i wr => ∃ k : Nat, k ≤ 64 ∧ i = .int .i64 k ∧ Bears wr (Assn.obj w.heap.size (.cells (cellsV (partS c k)).toArray 5 (0, 0)) * R))
    (fun i _ => 64 - (intOf i).toNat)
  case atStart => exact ⟨0, by omega, rfl, h.alloc _⟩
  case round =>
    obtain ⟨k, hk, rfl, h1⟩ := hrel
    by_cases hlt : k < 64
    · obtain ⟨v0, c1⟩ : ∃ v0, wr.cell? ⟨w.heap.size, k, none⟩ = some v0 := ⟨_, by rw [cell_of_obj h1.obj]; exact Array.getElem?_eq_getElem (by simp [partS]; omega)⟩
      have f1 := frozen_of_obj h1.obj k
      go_wp2
      go_roundw
      case rel =>
        refine ⟨k + 1, hlt, by go_num, ?_⟩
        rw [← partS_set c k hlt]
        have := h1.setCell (i := k) (byteV c)
        unfold byteV at this ⊢
        rw [Hv.out] at this ⊢
        exact this
      case measure => simp [intOf]; omega
    · obtain rfl : k = 64 := by omega
      go_wp2
      go_ret
      exact ⟨_, rfl, h1.cast (by simp [partS, fullS])⟩

set_option maxHeartbeats 400000 in
theorem kind_any (c n : Int) (w : World) (h0 : -9223372036854775808 ≤ c ∧ c ≤ 9223372036854775807) (hn : 0 < n ∧ n < 9223372036854775807) :
    Calls Try.prog 9 #[.int .i64 c, .int .i64 n] w fun e w' => e = .returned (.int .i64 (if c < 0 then (-(c + 1)) % n else c % n)) ∧ w = w' := by
  obtain ⟨h0, h1⟩ := h0
  obtain ⟨hn, hn1⟩ := hn
  by_cases hc : c < 0
  · have e : -(c + 1).tmod n = (-(c + 1)) % n := by rw [← Int.neg_tmod, Int.tmod_eq_emod_of_nonneg (by omega)]
    have He := Lib.hid e
    clear e
    go_enter Try.func9, Try.ntmps9
    go_wp2
    go_ret
    refine ⟨?_, rfl⟩
    exact congrArg (fun x => Ending.returned (.int .i64 x)) He.out
  · have e : c.tmod n = c % n := Int.tmod_eq_emod_of_nonneg (by omega)
    have He := Lib.hid e
    clear e
    go_enter Try.func9, Try.ntmps9
    go_wp2
    go_ret
    refine ⟨?_, rfl⟩
    first | rfl | exact congrArg (fun x => Ending.returned (.int .i64 x)) He.out | exact congrArg (fun x => Ending.returned (.int .i64 x)) (He.out.trans (if_neg (by omega)).symm)

end Go.Proofs.Ytfhigibdeeeiaaa

/- The disk's statements: the examples at their head; no condition. -/
namespace Go.Proofs.Ytfhigibdeeeiaaa
open Go.RowKit Go.MapKept

def ex0 : DiskM := DiskM.new 4
def ex1 : DiskM := (ex0.write 1 (fullS 1)).2
def ex2 : DiskM := ex1.barrier.2
def ex3 : DiskM := (ex2.write 1 (fullS 2)).2
def ex4 : DiskM := (ex3.write 2 (fullS 3)).2
def ex5 : DiskM := ex4.boot [0, 1]
def ex6 : DiskM := ex5.setFuse 1
def ex7 : DiskM := (ex6.write 0 (fullS 4)).2
def ex8 : DiskM := ex7.barrier.2
def ex9 : DiskM := ex8.boot []
theorem ex1_eq : ex0.write 1 (fullS 1) = (0, ex1) := rfl
theorem ex2_eq : ex1.barrier = (0, ex2) := rfl
theorem ex3_eq : ex2.write 1 (fullS 2) = (0, ex3) := rfl
theorem ex4_eq : ex3.write 2 (fullS 3) = (0, ex4) := rfl
theorem ex7_eq : ex6.write 0 (fullS 4) = (0, ex7) := rfl
theorem ex8_eq : ex7.barrier = (2, ex8) := rfl

set_option maxRecDepth 100000 in
set_option maxHeartbeats 400000 in
theorem shown_any {R : Assn} {w : World} (h : Bears w R) :
    Calls Try.prog 4 #[] w fun e w' => e = .returned (.bool true) ∧ Bears w' R := by
  go_enter Try.func4, Try.ntmps4
  go_wp2_with fail
  refine (new_ok h 4 (by omega) (by omega)).mono ?_
  rintro e w1 ⟨p, rfl, h1⟩
  go_wp2_with fail
  refine (new_no w1 0 (by omega)).mono ?_
  rintro e w' ⟨rfl, rfl⟩
  go_wp2_with fail
  refine (full_any h1 1).mono ?_
  rintro e w2 ⟨g, rfl, h2⟩
  go_wp2_with fail
  refine (write_to h2.pull2 ex1_eq (BytesIn.tells _ _ rfl) (by decide)).mono ?_
  rintro e w3 ⟨rfl, h3⟩
  have h4 := h3.pull2.right
  clear h1 h2 h3
  go_wp2_with fail
  refine (barrier_to h4 ex2_eq (by decide)).mono ?_
  rintro e w5 ⟨rfl, h5⟩
  go_wp2_with fail
  refine (full_any h5 2).mono ?_
  rintro e w2 ⟨g, rfl, h2⟩
  go_wp2_with fail
  refine (write_to h2.pull2 ex3_eq (BytesIn.tells _ _ rfl) (by decide)).mono ?_
  rintro e w3 ⟨rfl, h3⟩
  have h6 := h3.pull2.right
  clear h4 h2 h3 h5
  go_wp2_with fail
  refine (full_any h6 3).mono ?_
  rintro e w2 ⟨g, rfl, h2⟩
  go_wp2_with fail
  refine (write_to h2.pull2 ex4_eq (BytesIn.tells _ _ rfl) (by decide)).mono ?_
  rintro e w3 ⟨rfl, h3⟩
  have h7 := h3.pull2.right
  clear h6 h2 h3
  go_wp2_with fail
  refine (waiting_any h7).mono ?_
  rintro e w' ⟨rfl, rfl⟩
  rw [show ((ex4.waits.length : Nat) : Int) = 2 from rfl]
  go_wp2_with fail
  have h8 := h7.alloc (.cells #[.int .i64 0, .int .i64 1] 3)
  clear h7
  go_wp2_with fail
  refine (boot_to (d' := ex5) [0, 1] h8.pull2 rfl rfl (IntsIn.tells (l := [0, 1]) _ _ rfl) (by decide) (by decide) (by decide)).mono ?_
  rintro e w1 ⟨rfl, h1⟩
  have h2 := h1.pull2.right
  clear h8 h1
  go_wp2_with fail
  refine (read_to (s := fullS 1) 1 h2 rfl rfl).mono ?_
  rintro e w3 ⟨gx, rfl, h3⟩
  go_wp2_with fail
  refine (read_to (s := fullS 3) 2 h3.pull2 rfl rfl).mono ?_
  rintro e w4 ⟨gy, rfl, h4⟩
  go_wp2_with fail
  refine (fuse_to (d' := ex6) h4.pull2 rfl (by decide)).mono ?_
  rintro e w5 ⟨rfl, h5⟩
  go_wp2_with fail
  refine (full_any h5 4).mono ?_
  rintro e w6 ⟨g, rfl, h6⟩
  go_wp2_with fail
  refine (write_to h6.pull2 ex7_eq (BytesIn.tells _ _ rfl) (by decide)).mono ?_
  rintro e w7 ⟨rfl, h7⟩
  go_wp2_with fail
  refine (barrier_to h7 ex8_eq (by decide)).mono ?_
  rintro e w8 ⟨rfl, h8⟩
  clear h2 h3 h4 h5 h6 h7
  go_wp2_with fail
  refine (on_any h8).mono ?_
  rintro e w' ⟨rfl, rfl⟩
  rw [show (!ex8.off) = false from rfl]
  go_wp2_with fail
  refine (boot_to (d' := ex9) [] h8 rfl rfl (IntsIn.nil _) (by decide) (by decide) (by decide)).mono ?_
  rintro e w9 ⟨rfl, h9⟩
  go_wp2_with fail
  refine (read_to (s := fullS 0) 0 h9 rfl rfl).mono ?_
  rintro e w10 ⟨gz, rfl, h10⟩
  clear h8 h9
  go_wp2_with fail
  refine wp_region_L (fun w' => Bears w' (Assn.obj gz (.cells (cellsV (fullS 0)).toArray 58 (0, 0)) * (diskA p ex9 * (Assn.obj g (.cells (cellsV (fullS 4)).toArray 5 (0, 0)) *
      (Assn.obj gy (.cells (cellsV (fullS 3)).toArray 58 (0, 0)) * (Assn.obj gx (.cells (cellsV (fullS 1)).toArray 58 (0, 0)) * R)))))) 51
    [(true, 0), (true, 1), (true, 2), (true, 3), (true, 4), (true, 5), (true, 6), (true, 7), (true, 8), (true, 9), (true, 10), (true, 11), (true, 12), (false, 13), (false, 14), (true, 15), (true, 16), (true, 17), (true, 18), (true, 19), (true, 20), (true, 21), (true, 22), (true, 23), (false, 24), (false, 25), (true, 26), (true, 27), (true, 28), (true, 29), (true, 30), (true, 31), (true, 32), (true, 33), (true, 34), (true, 35), (true, 36), (true, 37), (true, 38), (true, 39), (true, 40), (true, 41), (true, 42), (false, 43), (false, 44), (true, 45), (true, 46), (true, 47), (true, 48), (true, 49), (true, 50)] [(true, 51)]
    (by kernel_rfl) (by kernel_rfl) h10.drew ?_
  simp only [pick, List.getElem?_cons_zero, List.getElem?_cons_succ]
  refine wpL_guarded (v := ?_) rfl (fun w' hS => ?_) ?_
  rotate_left
  · (go_simp; try with_reducible rfl)
  simp only [Act.put, List.setIfInBounds_toArray, List.set_cons_zero, List.set_cons_succ]
  refine wpL_guarded (v := ?_) rfl (fun w' hS => ?_) ?_
  rotate_left
  · (go_simp; try with_reducible rfl)
  simp only [Act.put, List.setIfInBounds_toArray, List.set_cons_zero, List.set_cons_succ]
  refine wpL_guarded (v := ?_) rfl (fun w' hS => ?_) ?_
  rotate_left
  · (go_simp; try with_reducible rfl)
  simp only [Act.put, List.setIfInBounds_toArray, List.set_cons_zero, List.set_cons_succ]
  refine wpL_guarded (v := ?_) rfl (fun w' hS => ?_) ?_
  rotate_left
  · (go_simp; try with_reducible rfl)
  simp only [Act.put, List.setIfInBounds_toArray, List.set_cons_zero, List.set_cons_succ]
  refine wpL_guarded (v := ?_) rfl (fun w' hS => ?_) ?_
  rotate_left
  · (go_simp; try with_reducible rfl)
  simp only [Act.put, List.setIfInBounds_toArray, List.set_cons_zero, List.set_cons_succ]
  refine wpL_guarded (v := ?_) rfl (fun w' hS => ?_) ?_
  rotate_left
  · (go_simp; try with_reducible rfl)
  simp only [Act.put, List.setIfInBounds_toArray, List.set_cons_zero, List.set_cons_succ]
  refine wpL_guarded (v := ?_) rfl (fun w' hS => ?_) ?_
  rotate_left
  · (go_simp; try with_reducible rfl)
  simp only [Act.put, List.setIfInBounds_toArray, List.set_cons_zero, List.set_cons_succ]
  refine wpL_guarded (v := ?_) rfl (fun w' hS => ?_) ?_
  rotate_left
  · (go_simp; try with_reducible rfl)
  simp only [Act.put, List.setIfInBounds_toArray, List.set_cons_zero, List.set_cons_succ]
  refine wpL_guarded (v := ?_) rfl (fun w' hS => ?_) ?_
  rotate_left
  · (go_simp; try with_reducible rfl)
  simp only [Act.put, List.setIfInBounds_toArray, List.set_cons_zero, List.set_cons_succ]
  refine wpL_guarded (v := ?_) rfl (fun w' hS => ?_) ?_
  rotate_left
  · (go_simp; try with_reducible rfl)
  simp only [Act.put, List.setIfInBounds_toArray, List.set_cons_zero, List.set_cons_succ]
  refine wpL_guarded (v := ?_) rfl (fun w' hS => ?_) ?_
  rotate_left
  · (go_simp; try with_reducible rfl)
  simp only [Act.put, List.setIfInBounds_toArray, List.set_cons_zero, List.set_cons_succ]
  refine wpL_guarded (v := ?_) rfl (fun w' hS => ?_) ?_
  rotate_left
  · (go_simp; try with_reducible rfl)
  simp only [Act.put, List.setIfInBounds_toArray, List.set_cons_zero, List.set_cons_succ]
  refine wpL_guarded rfl (fun w' hS => exec_convert rfl rfl (run_convert_in (BytesIn.tells _ _ rfl _ hS.pull5))) ?_
  refine wpL_effG rfl ?_
  go_simp
  refine (full_any h10.drew 1).mono ?_
  rintro e w11 ⟨ga, rfl, h11⟩
  refine ⟨h11.right, ?_⟩
  refine wpL_effG rfl (wp_of_run (exec_convert rfl rfl (run_convert_in (BytesIn.tells _ _ rfl _ h11))) ⟨h11.right, ?_⟩)
  simp only [Act.put, List.setIfInBounds_toArray, List.set_cons_zero, List.set_cons_succ]
  refine wpL_guarded (v := ?_) rfl (fun w' hS => ?_) ?_
  rotate_left
  · (go_simp; try with_reducible rfl)
  simp only [Act.put, List.setIfInBounds_toArray, List.set_cons_zero, List.set_cons_succ]
  refine wpL_guarded (v := ?_) rfl (fun w' hS => ?_) ?_
  rotate_left
  · (go_simp; try with_reducible rfl)
  simp only [Act.put, List.setIfInBounds_toArray, List.set_cons_zero, List.set_cons_succ]
  refine wpL_guarded (v := ?_) rfl (fun w' hS => ?_) ?_
  rotate_left
  · (go_simp; try with_reducible rfl)
  simp only [Act.put, List.setIfInBounds_toArray, List.set_cons_zero, List.set_cons_succ]
  refine wpL_guarded (v := ?_) rfl (fun w' hS => ?_) ?_
  rotate_left
  · (go_simp; try with_reducible rfl)
  simp only [Act.put, List.setIfInBounds_toArray, List.set_cons_zero, List.set_cons_succ]
  refine wpL_guarded (v := ?_) rfl (fun w' hS => ?_) ?_
  rotate_left
  · (go_simp; try with_reducible rfl)
  simp only [Act.put, List.setIfInBounds_toArray, List.set_cons_zero, List.set_cons_succ]
  refine wpL_guarded (v := ?_) rfl (fun w' hS => ?_) ?_
  rotate_left
  · (go_simp; try with_reducible rfl)
  simp only [Act.put, List.setIfInBounds_toArray, List.set_cons_zero, List.set_cons_succ]
  refine wpL_guarded (v := ?_) rfl (fun w' hS => ?_) ?_
  rotate_left
  · (go_simp; try with_reducible rfl)
  simp only [Act.put, List.setIfInBounds_toArray, List.set_cons_zero, List.set_cons_succ]
  refine wpL_guarded (v := ?_) rfl (fun w' hS => ?_) ?_
  rotate_left
  · (go_simp; try with_reducible rfl)
  simp only [Act.put, List.setIfInBounds_toArray, List.set_cons_zero, List.set_cons_succ]
  refine wpL_guarded rfl (fun w' hS => exec_convert rfl rfl (run_convert_in (BytesIn.tells _ _ rfl _ hS.pull4))) ?_
  refine wpL_effG rfl ?_
  go_simp
  refine (full_any h11.right 3).mono ?_
  rintro e w12 ⟨gb, rfl, h12⟩
  clear h11 h10
  refine ⟨h12.right, ?_⟩
  refine wpL_effG rfl (wp_of_run (exec_convert rfl rfl (run_convert_in (BytesIn.tells _ _ rfl _ h12))) ⟨h12.right, ?_⟩)
  simp only [Act.put, List.setIfInBounds_toArray, List.set_cons_zero, List.set_cons_succ]
  refine wpL_guarded (v := ?_) rfl (fun w' hS => ?_) ?_
  rotate_left
  · (go_simp; try with_reducible rfl)
  simp only [Act.put, List.setIfInBounds_toArray, List.set_cons_zero, List.set_cons_succ]
  refine wpL_guarded (v := ?_) rfl (fun w' hS => ?_) ?_
  rotate_left
  · (go_simp; try with_reducible rfl)
  simp only [Act.put, List.setIfInBounds_toArray, List.set_cons_zero, List.set_cons_succ]
  refine wpL_guarded (v := ?_) rfl (fun w' hS => ?_) ?_
  rotate_left
  · (go_simp; try with_reducible rfl)
  simp only [Act.put, List.setIfInBounds_toArray, List.set_cons_zero, List.set_cons_succ]
  refine wpL_guarded (v := ?_) rfl (fun w' hS => ?_) ?_
  rotate_left
  · (go_simp; try with_reducible rfl)
  simp only [Act.put, List.setIfInBounds_toArray, List.set_cons_zero, List.set_cons_succ]
  refine wpL_guarded (v := ?_) rfl (fun w' hS => ?_) ?_
  rotate_left
  · (go_simp; try with_reducible rfl)
  simp only [Act.put, List.setIfInBounds_toArray, List.set_cons_zero, List.set_cons_succ]
  refine wpL_guarded (v := ?_) rfl (fun w' hS => ?_) ?_
  rotate_left
  · (go_simp; try with_reducible rfl)
  simp only [Act.put, List.setIfInBounds_toArray, List.set_cons_zero, List.set_cons_succ]
  refine wpL_guarded (v := ?_) rfl (fun w' hS => ?_) ?_
  rotate_left
  · (go_simp; try with_reducible rfl)
  simp only [Act.put, List.setIfInBounds_toArray, List.set_cons_zero, List.set_cons_succ]
  refine wpL_guarded (v := ?_) rfl (fun w' hS => ?_) ?_
  rotate_left
  · (go_simp; try with_reducible rfl)
  simp only [Act.put, List.setIfInBounds_toArray, List.set_cons_zero, List.set_cons_succ]
  refine wpL_guarded (v := ?_) rfl (fun w' hS => ?_) ?_
  rotate_left
  · (go_simp; try with_reducible rfl)
  simp only [Act.put, List.setIfInBounds_toArray, List.set_cons_zero, List.set_cons_succ]
  refine wpL_guarded (v := ?_) rfl (fun w' hS => ?_) ?_
  rotate_left
  · (go_simp; try with_reducible rfl)
  simp only [Act.put, List.setIfInBounds_toArray, List.set_cons_zero, List.set_cons_succ]
  refine wpL_guarded (v := ?_) rfl (fun w' hS => ?_) ?_
  rotate_left
  · (go_simp; try with_reducible rfl)
  simp only [Act.put, List.setIfInBounds_toArray, List.set_cons_zero, List.set_cons_succ]
  refine wpL_guarded (v := ?_) rfl (fun w' hS => ?_) ?_
  rotate_left
  · (go_simp; try with_reducible rfl)
  simp only [Act.put, List.setIfInBounds_toArray, List.set_cons_zero, List.set_cons_succ]
  refine wpL_guarded (v := ?_) rfl (fun w' hS => ?_) ?_
  rotate_left
  · (go_simp; try with_reducible rfl)
  simp only [Act.put, List.setIfInBounds_toArray, List.set_cons_zero, List.set_cons_succ]
  refine wpL_guarded (v := ?_) rfl (fun w' hS => ?_) ?_
  rotate_left
  · (go_simp; try with_reducible rfl)
  simp only [Act.put, List.setIfInBounds_toArray, List.set_cons_zero, List.set_cons_succ]
  refine wpL_guarded (v := ?_) rfl (fun w' hS => ?_) ?_
  rotate_left
  · (go_simp; try with_reducible rfl)
  simp only [Act.put, List.setIfInBounds_toArray, List.set_cons_zero, List.set_cons_succ]
  refine wpL_guarded (v := ?_) rfl (fun w' hS => ?_) ?_
  rotate_left
  · (go_simp; try with_reducible rfl)
  simp only [Act.put, List.setIfInBounds_toArray, List.set_cons_zero, List.set_cons_succ]
  refine wpL_guarded rfl (fun w' hS => exec_convert rfl rfl (run_convert_in (BytesIn.tells _ _ rfl _ hS))) ?_
  refine wpL_effG rfl ?_
  go_simp
  refine (full_any h12.right 0).mono ?_
  rintro e w13 ⟨gc, rfl, h13⟩
  clear h12
  refine ⟨h13.right, ?_⟩
  refine wpL_effG rfl (wp_of_run (exec_convert rfl rfl (run_convert_in (BytesIn.tells _ _ rfl _ h13))) ⟨h13.right, ?_⟩)
  simp only [Act.put, List.setIfInBounds_toArray, List.set_cons_zero, List.set_cons_succ]
  refine wpL_guarded (v := ?_) rfl (fun w' hS => ?_) ?_
  rotate_left
  · (go_simp; try with_reducible rfl)
  simp only [Act.put, List.setIfInBounds_toArray, List.set_cons_zero, List.set_cons_succ]
  refine wpL_guarded (v := ?_) rfl (fun w' hS => ?_) ?_
  rotate_left
  · (go_simp; try with_reducible rfl)
  simp only [Act.put, List.setIfInBounds_toArray, List.set_cons_zero, List.set_cons_succ]
  refine wpL_guarded (v := ?_) rfl (fun w' hS => ?_) ?_
  rotate_left
  · (go_simp; try with_reducible rfl)
  simp only [Act.put, List.setIfInBounds_toArray, List.set_cons_zero, List.set_cons_succ]
  refine wpL_guarded (v := ?_) rfl (fun w' hS => ?_) ?_
  rotate_left
  · (go_simp; try with_reducible rfl)
  simp only [Act.put, List.setIfInBounds_toArray, List.set_cons_zero, List.set_cons_succ]
  refine wpL_guarded (v := ?_) rfl (fun w' hS => ?_) ?_
  rotate_left
  · (go_simp; try with_reducible rfl)
  simp only [Act.put, List.setIfInBounds_toArray, List.set_cons_zero, List.set_cons_succ]
  refine wpL_guarded (v := ?_) rfl (fun w' hS => ?_) ?_
  rotate_left
  · (go_simp; try with_reducible rfl)
  simp only [Act.put, List.setIfInBounds_toArray, List.set_cons_zero, List.set_cons_succ]
  refine wpL_nil ?_
  refine wpL_yield (v := ?_) rfl (fun w' hS => ?_) ?_
  rotate_left
  · (go_simp; try with_reducible rfl)
  simp only [Act.put, List.setIfInBounds_toArray, List.set_cons_zero]
  refine wpL_nil ?_
  go_wp2
  go_ret
  exact ⟨rfl, h13.right.right.right.right.right.right⟩

end Go.Proofs.Ytfhigibdeeeiaaa

/- From the readings of a row to what a walk is told of its slices; no condition. -/
namespace Go.Proofs.Ytfhigibdeeeiaaa
open Go.RowKit

theorem old_tells {W : World} {p : World → Prop} (h : ∀ w, (∀ b, b < W.heap.size → w.heap[b]? = W.heap[b]?) → p w) : (Assn.old W.heap.size W).Tells p := by
  rintro w ⟨F, rfl, h0, _, _, _, h4⟩
  exact h w h4

/-- The form in which a slice of integers comes in. -/
abbrev RowIn (k : IntKind) (w : World) (a : Option Addr) (len cap : Nat) (zs : List Int) : Prop :=
  (a = none ∧ len = 0 ∧ cap = 0 ∧ zs = []) ∨
  ∃ x, a = some x ∧ len ≤ cap ∧ cap ≤ maxLen ∧ zs.length = cap ∧ (∀ i, i < zs.length → w.cell? (x.add i) = some (.int k (zs.getD i 0))) ∧ ∀ n ∈ zs, (Lit.int k n).wf = true

theorem addr_of_cell {w : World} {x : Addr} {v : Value} (h : w.cell? x = some v) : x = ⟨x.block, x.off, none⟩ := by
  unfold World.cell? at h
  split at h
  · cases hs : x.spot with
    | none => cases x; simp_all
    | some s => simp [hs] at h
  · cases h

theorem row_range {k : IntKind} {W : World} {a : Option Addr} {len cap : Nat} {zs : List Int} (h : RowIn k W a len cap zs) (hl : 0 < len) :
    ∃ b o, a = some ⟨b, o, none⟩ ∧ b < W.heap.size ∧ W.rangeAt b o ((zs.take len).map (Value.int k)) := by
  rcases h with ⟨_, h0, _⟩ | ⟨x, rfl, hlc, _, hz, hc, _⟩
  · omega
  · have h0 := hc 0 (by omega)
    have e0 : x.add 0 = x := by simp [Addr.add]
    rw [e0] at h0
    have ex := addr_of_cell h0
    refine ⟨x.block, x.off, by rw [← ex], World.block_lt_of_cell? W x h0, fun j v hv => ?_⟩
    rw [List.getElem?_map, List.getElem?_take] at hv
    split at hv
    · rename_i hj
      have hj' : j < zs.length := by omega
      have := hc j hj'
      rw [ex, Addr.add_mid] at this
      rw [this]
      rw [List.getElem?_eq_getElem hj'] at hv
      simp only [Option.map_some, Option.some.injEq] at hv
      rw [← hv, List.getD_eq_getElem?_getD, List.getElem?_eq_getElem hj']
      rfl
    · cases hv

theorem range_old {W w : World} {b o : Nat} {cs : List Value} (h : W.rangeAt b o cs) (hb : b < W.heap.size) (hw : ∀ b, b < W.heap.size → w.heap[b]? = W.heap[b]?) : w.rangeAt b o cs :=
  rangeAt_block h (hw b hb)

theorem row_bytes {W : World} {a : Option Addr} {len cap : Nat} {zs : List Int} (h : RowIn .u8 W a len cap zs) :
    ∃ l : List UInt8, l.length = len ∧ (Assn.old W.heap.size W).Tells (fun w => BytesIn w (.slice a len cap) l) ∧ len ≤ 9223372036854775807 := by
  have hlen : (zs.take len).length = len ∧ len ≤ 9223372036854775807 := by
    rcases h with ⟨_, rfl, _, rfl⟩ | ⟨x, _, hlc, hm, hz, _, _⟩
    · simp
    · unfold maxLen at hm
      simp; omega
  have hwf : ∀ n ∈ zs.take len, 0 ≤ n ∧ n ≤ 255 := by
    intro n hn
    rcases h with ⟨_, _, _, rfl⟩ | ⟨x, _, _, _, _, _, hw⟩
    · simp at hn
    · have := hw n (List.mem_of_mem_take hn)
      simp [Lit.wf, IntKind.min, IntKind.max, IntKind.signed, IntKind.bits] at this
      omega
  refine ⟨(zs.take len).map (fun n => UInt8.ofNat n.toNat), by simpa using hlen.1, old_tells (fun w hw => ?_), hlen.2⟩
  have hl2 : ((zs.take len).map (fun n => UInt8.ofNat n.toNat)).length = len := by simpa using hlen.1
  refine ⟨a, cap, by rw [hl2], fun hne => ?_⟩
  have hpos : 0 < len := by rw [← hl2]; exact List.length_pos_iff.2 hne
  obtain ⟨b, o, ha, hb, hr⟩ := row_range h hpos
  refine ⟨b, o, ha, ?_⟩
  have e : cellsV ((zs.take len).map (fun n => UInt8.ofNat n.toNat)) = (zs.take len).map (Value.int .u8) := by
    unfold cellsV
    rw [List.map_map]
    refine List.map_congr_left (fun n hn => ?_)
    have := hwf n hn
    simp only [Function.comp_apply, byteV]
    congr 1
    rw [UInt8.toNat_ofNat_of_lt' (by show n.toNat < 256; omega)]
    omega
  rw [e]
  exact range_old hr hb hw

theorem row_ints {W : World} {a : Option Addr} {len cap : Nat} {zs : List Int} (h : RowIn .i64 W a len cap zs) :
    ∃ l : List Int, l.length = len ∧ (Assn.old W.heap.size W).Tells (fun w => IntsIn w (.slice a len cap) l) ∧ len ≤ 9223372036854775807 ∧ ∀ x ∈ l, -9223372036854775808 ≤ x ∧ x ≤ 9223372036854775807 := by
  have hlen : (zs.take len).length = len ∧ len ≤ 9223372036854775807 := by
    rcases h with ⟨_, rfl, _, rfl⟩ | ⟨x, _, hlc, hm, hz, _, _⟩
    · simp
    · unfold maxLen at hm
      simp; omega
  refine ⟨zs.take len, hlen.1, old_tells (fun w hw => ?_), hlen.2, fun n hn => ?_⟩
  · refine ⟨a, cap, by rw [hlen.1], fun hne => ?_⟩
    have hpos : 0 < len := by rw [← hlen.1]; exact List.length_pos_iff.2 hne
    obtain ⟨b, o, ha, hb, hr⟩ := row_range h hpos
    exact ⟨b, o, ha, range_old hr hb hw⟩
  · rcases h with ⟨_, _, _, rfl⟩ | ⟨x, _, _, _, _, _, hw⟩
    · simp at hn
    · have := hw n (List.mem_of_mem_take hn)
      simp [Lit.wf, IntKind.min, IntKind.max, IntKind.signed, IntKind.bits] at this
      omega

theorem old_below {W w' : World} (h : Bears w' (Assn.old W.heap.size W)) : Below W.heap.size W w' := by
  obtain ⟨F, rfl, h0, h1, h2, h3, h4⟩ := h
  exact ⟨h1, h2, h3, h0, h4⟩

end Go.Proofs.Ytfhigibdeeeiaaa
