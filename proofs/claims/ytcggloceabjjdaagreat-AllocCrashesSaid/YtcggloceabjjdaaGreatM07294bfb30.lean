/- Texts of this claim, put together: RSW5, RSW6, RSW7, RSW8, RSW9, ALawA, ALawB; no condition. -/
import Derived.Test.YtcggloceabjjdaaGreatM88d9ec8f57

set_option linter.unusedSimpArgs false
set_option linter.unusedVariables false

/- Walks of the document's space, part 5: Free; no condition. -/
namespace Go.Proofs.YtcggloceabjjdaaGreat
open Go.RowKit Go.MapKept

section
variable {y len : Nat} {Y R : Assn} {S S' : SpM} {w : World}

theorem chk_zero {G : Nat → Sec} {n : Int} (h : chkN len G n = 0) : ∃ i : Nat, n = (firstB len : Int) + (i : Int) ∧ firstB len + i < len ∧ bitN G (firstB len + i) = true := by
  unfold chkN at h
  split at h
  · simp at h
  · split at h
    · rename_i h1 h2
      refine ⟨(n - firstB len).toNat, by omega, by omega, ?_⟩
      rw [show firstB len + (n - firstB len).toNat = n.toNat by omega]
      exact h2
    · simp at h

set_option maxRecDepth 100000 in
set_option maxHeartbeats 1000000 in
theorem rsfreeb_any {t : Told} (h : Bears w (spcA y Y len S * R)) (hlo : 1024 ≤ len) (hhi : len ≤ 8192) (n : Int) (hn : -9223372036854775808 ≤ n ∧ n ≤ 9223372036854775807) (h64 : ∀ i, (S.G i).length = 64) (hs : S.free len n = (t, S')) :
    Calls Tryz.prog 47 #[.pointer (some ⟨y, 0, none⟩), .int .i64 n] w fun e w' => e = .returned (.int .i64 t.e) ∧ Bears w' (spcA y Y len S' * R) := by
  obtain ⟨was, now, tv, ts, hts, h1⟩ := Bears.spc.1 h
  obtain ⟨_, _, _, c3, _, _, _⟩ := h1.spcCells
  have hck := rscheck_any h hlo hhi n hn
  obtain ⟨g, op, F, G⟩ := S
  simp only at h1 c3 h64 hck
  unfold SpM.free at hs
  cases op with
  | false =>
    simp at hs
    obtain ⟨rfl, rfl⟩ := hs
    clear hck h1
    go_enter Tryz.func47, Tryz.ntmps47
    go_wp2_with fail
    go_ret
    exact ⟨rfl, h⟩
  | true =>
    clear h h1 hts
    simp only [if_true] at hs
    by_cases hz : chkN len G n = 0
    · rw [if_pos hz] at hs
      simp only [Prod.mk.injEq] at hs
      obtain ⟨rfl, rfl⟩ := hs
      obtain ⟨i, rfl, hi, hbit⟩ := chk_zero hz
      rw [hz] at hck
      have Hck := Lib.hid hck
      have H64 := Lib.hid h64
      clear hck hz hbit h64
      go_enter Tryz.func47, Tryz.ntmps47
      go_wp2_with fail
      refine Hck.out.mono ?_
      rintro e w2 ⟨rfl, h2⟩
      obtain ⟨was, now, tv, ts, bs, is, bv, iv, hts, hok, h3⟩ := Bears.spn.1 h2
      obtain ⟨ba, bc, rfl, _⟩ := h3.pull3.rowForm
      obtain ⟨ta, tc, rfl, _⟩ := h3.pull5.rowForm
      have hbl := hok.blen
      have hib : i < bs.length := by omega
      obtain ⟨gb, rfl, _⟩ := h3.pull3.rowAt (k := i) hib
      obtain ⟨gt, rfl, _⟩ := h3.pull5.rowAt (k := 0) (by omega)
      have hok2 := hok.free hlo hhi H64.out hib []
      have h4 := h3.drew
      obtain ⟨c0, _, c2, _, _, _, _⟩ := h4.spcCells
      obtain ⟨d0, _, _⟩ := h4.pull2.stCells
      have hcell := h4.pull3.rowCell (i := i) hib (hok.nil_at hib)
      have hfr := h4.pull3.rowFrozen i
      have h5 := h4.pull3.rowSet hib (.slice none 0 0)
      have hset : (bs.map Prod.fst).set i (.slice none 0 0) = (bs.set i (.slice none 0 0, [])).map Prod.fst := by rw [List.map_set]
      rw [hset] at h5
      obtain ⟨f, hf⟩ : ∃ f, firstB len = f := ⟨_, rfl⟩
      rw [hf] at hok2
      have hfl : 749 < f := by rw [← hf]; unfold firstB mapsN; omega
      rw [hf] at c0 hi h5 hbl ⊢
      have hw2 : IntKind.i64.wrap ((f : Int) + (i : Int) - (f : Int)) = (i : Int) := by rw [show (f : Int) + (i : Int) - (f : Int) = (i : Int) by omega]; exact IntWalk.i64_in _ (by omega)
      have hiI : (i : Int) < (bs.length : Int) := by omega
      have Hok2 := Lib.hid hok2
      have Hf := Lib.hid hf
      have Hts := Lib.hid hts
      generalize (bs.getD i default).1 = old at hcell
      obtain ⟨tn, htn⟩ : ∃ tn : Nat, 621 + (f + i) / 512 = tn := ⟨_, rfl⟩
      have htl : tn < len := by omega
      have hbitc := fun w => rsbit_any ((f : Int) + (i : Int)) (by omega) (by omega) (.pointer (some ⟨y, 0, none⟩)) w
      rw [show (621 : Int) + ((f : Int) + (i : Int)) / 512 = (tn : Int) by omega] at hbitc
      have Hbitc := Lib.hid hbitc
      have htI : (tn : Int) < (len : Int) := by omega
      clear hok hok2 hf hset h2 h3 hbl hts htn hbitc
      go_wp2_with fail
      refine wp_region_tail 14 (by kernel_rfl) (by kernel_rfl) ?_
      simp only [List.take_succ_cons, List.take_zero, List.drop_succ_cons, List.drop_zero]
      generalize w2.drew = w3 at *
      iterate 14 still_step
      refine wpStill_nil ?_
      go_wp2_with fail
      generalize w3.setCell ⟨gb, i, none⟩ (.slice none 0 0) = w4 at h5 ⊢
      have h6 := h5.drew
      obtain ⟨_, _, _, _, e4, _, _⟩ := h6.pull2.spcCells
      have hc6 := h6.pull5.rowCell (i := tn) htl (v := .bool (ts.getD tn false)) (by rw [List.getElem?_map, List.getD_eq_getElem?_getD, List.getElem?_eq_getElem (by rw [Hts.out]; exact htl)]; rfl)
      have hf6 := h6.pull5.rowFrozen tn
      have h7 := h6.pull5.rowSet htl (.bool true)
      have hset2 : (ts.map Value.bool).set tn (.bool true) = (ts.set tn true).map Value.bool := by rw [List.map_set]
      rw [hset2] at h7
      generalize ts.getD tn false = tb at hc6
      clear c0 c2 d0 hcell hfr h4 h5 hset2
      refine wp_region_L (fun w' => w'.cell? ⟨y, 4, none⟩ = some (.slice (some ⟨gt, 0, none⟩) len tc)) 7 [(true, 0), (true, 1), (true, 2), (true, 3), (true, 4), (true, 5), (false, 6)] [(true, 7), (false, 8)] (by kernel_rfl) (by kernel_rfl) e4 ?_
      simp only [pick, List.getElem?_cons_zero, List.getElem?_cons_succ]
      refine wpL_yield (v := ?_) rfl (fun w' hS => ?_) ?_
      rotate_left
      · (have s4 := hS; go_simp; try with_reducible rfl)
      simp only [Act.put, List.setIfInBounds_toArray, List.set_cons_zero, List.set_cons_succ]
      refine wpL_yield (v := ?_) rfl (fun w' hS => ?_) ?_
      rotate_left
      · (have s4 := hS; go_simp; try with_reducible rfl)
      simp only [Act.put, List.setIfInBounds_toArray, List.set_cons_zero, List.set_cons_succ]
      refine wpL_yield (v := ?_) rfl (fun w' hS => ?_) ?_
      rotate_left
      · (have s4 := hS; go_simp; try with_reducible rfl)
      simp only [Act.put, List.setIfInBounds_toArray, List.set_cons_zero, List.set_cons_succ]
      refine wpL_yield (v := ?_) rfl (fun w' hS => ?_) ?_
      rotate_left
      · (have s4 := hS; go_simp; try with_reducible rfl)
      simp only [Act.put, List.setIfInBounds_toArray, List.set_cons_zero, List.set_cons_succ]
      refine wpL_yield (v := ?_) rfl (fun w' hS => ?_) ?_
      rotate_left
      · (have s4 := hS; go_simp; try with_reducible rfl)
      simp only [Act.put, List.setIfInBounds_toArray, List.set_cons_zero, List.set_cons_succ]
      refine wpL_yield (v := ?_) rfl (fun w' hS => ?_) ?_
      rotate_left
      · (have s4 := hS; go_simp; try with_reducible rfl)
      simp only [Act.put, List.setIfInBounds_toArray, List.set_cons_zero, List.set_cons_succ]
      refine wpL_eff rfl ?_
      go_simp
      refine (Hbitc.out _).mono ?_
      rintro e w' ⟨rfl, rfl⟩
      refine ⟨e4, ?_⟩
      refine wpL_nil ?_
      refine wpL_yield (v := ?_) rfl (fun w' hS => ?_) ?_
      rotate_left
      · (go_simp; try with_reducible rfl)
      simp only [Act.put, List.setIfInBounds_toArray, List.set_cons_zero, List.set_cons_succ]
      refine wpL_store _ _ _ rfl rfl rfl rfl (by go_simp; rfl) trivial ?_
      refine wpL_nil ?_
      go_wp2_with fail
      go_ret
      refine ⟨rfl, Bears.spn.2 ⟨was, now, .slice (some ⟨gt, 0, none⟩) len tc, ts.set tn true, bs.set i (.slice none 0 0, []), is, .slice (some ⟨gb, 0, none⟩) bs.length bc, iv, by rw [List.length_set]; exact Hts.out, ?_, ?_⟩⟩
      · simp only
        rw [← Hf.out] at Hok2
        have e : ((firstB len : Int) + (i : Int)).toNat = firstB len + i := by omega
        rw [e]
        exact Hok2.out
      · rw [List.length_set]
        rw [Hf.out]
        exact h7.cast (by ac_rfl)
    · rw [if_neg hz] at hs
      simp only [Prod.mk.injEq] at hs
      obtain ⟨rfl, rfl⟩ := hs
      have hne : (chkN len G n != 0) = true := by simpa using hz
      have Hck := Lib.hid hck
      clear hck hz h64
      go_enter Tryz.func47, Tryz.ntmps47
      go_wp2_with fail
      refine Hck.out.mono ?_
      rintro e w2 ⟨rfl, h2⟩
      go_wp2_with fail
      go_ret
      exact ⟨rfl, h2⟩
end

end Go.Proofs.YtcggloceabjjdaaGreat

/- Walks of the document's space, part 6: Alloc; no condition. -/
namespace Go.Proofs.YtcggloceabjjdaaGreat
open Go.RowKit Go.MapKept

theorem bytes_some {w : World} {a : Option Addr} {n c : Nat} {l : List UInt8} (h : BytesIn w (.slice a n c) l) (hne : l ≠ []) : ∃ a', a = some a' := by
  obtain ⟨b, o, rfl, _⟩ := h.at hne
  exact ⟨_, rfl⟩
theorem full_of {len k : Nat} {G : Nat → Sec} (h : ∀ j, j < k → bitN G (firstB len + j) = true) : FullTo len G (firstB len + k) := fun m hm h1 _ => by
  have := h (m - firstB len) (by omega)
  rwa [show firstB len + (m - firstB len) = m by omega] at this
/-- 'append([]byte{}, s...)' in a drawn region. -/
theorem wpL_append_fresh {w : World} {ops : Array Oper} {r : List (Bool × Option Oper)} {o : Oper} {a : Act} {Q : Exit → Act → World → Prop} {Sx : World → Prop} {C : Act → World → Prop} {s x : Operand} {R : Assn} (h : Bears w R) (hg : o.guard = none)
    (ho : o.op = .call { callee := .builtin .append, args := #[s, x], argTypes := #[34, 34] }) {b0 : Addr} {ad : Option Addr} {n c : Nat} {l : List UInt8} (hs : a.eval s = .slice (some b0) 0 0) (hx : a.eval x = .slice ad n c)
    (hb : BytesIn w (.slice ad n c) l) (hl : l.length ≤ 140737488355328) (hK : ∀ a' c' w', Bears w' (bufA (.slice a' n c') l * R) → Sx w' ∧ wpL Tryz.prog ops Q Sx C r (a.put o.dst (.slice a' n c')) w') : wpL Tryz.prog ops Q Sx C ((false, some o) :: r) a w := by
  refine wpL_eff hg ?_
  obtain ⟨a', c', w', hr, h'⟩ := run_append_fresh h hb hl b0 o.type
  unfold Oper.wp execOp
  simp only [ho, resolve, invoke, builtin, Sem.run_bind, Sem.run_pure, Result.andThen_ok, List.map_toArray, List.map_cons, List.map_nil, hs, hx, hr]
  exact hK a' c' w' h'

section
variable {y len : Nat} {Y R : Assn} {S S' : SpM} {w : World}

set_option maxRecDepth 100000 in
set_option maxHeartbeats 1600000 in
theorem rsalloc_any {t : Told} (h : Bears w (spcA y Y len S * (Y * R))) (hlo : 1024 ≤ len) (hhi : len ≤ 8192) (h64 : ∀ i, (S.G i).length = 64) (hs : S.alloc len = (t, S')) :
    Calls Tryz.prog 46 #[.pointer (some ⟨y, 0, none⟩)] w fun e w' => e = .returned (.tuple #[.int .i64 t.n, .int .i64 t.e]) ∧ ∃ Z, Bears w' (spcA y (Z * Y) len S' * ((Z * Y) * R)) := by
  obtain ⟨was, now, tv, ts, bs, is, bv, iv, hts, hok, h1⟩ := Bears.spn.1 h
  obtain ⟨g, op, F, G⟩ := S
  simp only at h1 h64 hok
  unfold SpM.alloc at hs
  cases op with
  | false =>
    obtain ⟨_, _, _, c3, _, _, _⟩ := h1.spcCells
    simp at hs
    obtain ⟨rfl, rfl⟩ := hs
    clear h1 hok
    go_enter Tryz.func46, Tryz.ntmps46
    go_wp2_with fail
    go_ret2
    exact ⟨rfl, Assn.emp, by rw [Assn.emp_mul]; exact h⟩
  | true =>
    simp only [if_true] at hs
    obtain ⟨ba, bc, rfl, _⟩ := h1.pull3.rowForm
    obtain ⟨ta, tc, rfl, _⟩ := h1.pull5.rowForm
    obtain ⟨c0, _, c2, c3, c4, _, _⟩ := h1.spcCells
    obtain ⟨d0, _, _⟩ := h1.pull2.stCells
    have hbl := hok.blen
    have hfl : firstB len ≤ len := by unfold firstB mapsN; omega
    have hbn : bs.length ≤ 8192 := by omega
    have Hok := Lib.hid hok
    have H64 := Lib.hid h64
    have Hs := Lib.hid hs
    have Hts := Lib.hid hts
    have Hbl := Lib.hid hbl
    have Hh := Lib.hid h
    clear hok h64 hs hts hbl h
    obtain ⟨f, hf⟩ : ∃ f, firstB len = f := ⟨_, rfl⟩
    have hf7 : 749 < f := by rw [← hf]; unfold firstB mapsN; omega
    rw [hf] at hfl c0
    have Hf := Lib.hid hf
    have hz : ∀ w, (Instr.makeSlice 34 (.int .i64 64) (.int .i64 64)).run Tryz.prog w = .ok (.slice (some ⟨w.heap.size, 0, none⟩) 64 64) (w.alloc (.cells (cellsV zeroSec).toArray 5)) := fun _ => by kernel_rfl
    have Hz := Lib.hid hz
    clear hf hz
    go_enter Tryz.func46, Tryz.ntmps46
    go_wp2_with fail
    go_loopw [4] (fun iv wr => ∃ k : Nat, k ≤ bs.length ∧ iv = .int .i64 k ∧ (∀ j, j < k → bitN G (firstB len + j) = true) ∧ w = wr) (fun iv _ => bs.length - (intOf iv).toNat)
    case atStart => exact ⟨0, by omega, rfl, by omega, rfl⟩
    case round =>
      obtain ⟨k, hk, rfl, hno, rfl⟩ := hrel
      have Hno := Lib.hid hno
      clear hno
      by_cases hlt : k < bs.length
      · have hltI : (k : Int) < (bs.length : Int) := by omega
        obtain ⟨gb, rfl, _⟩ := h1.pull3.rowAt (k := k) hlt
        have hc := h1.pull3.rowCell (i := k) hlt (Hok.out.nil_at hlt)
        rcases Hok.out.blk k hlt with ⟨b1, b2⟩ | ⟨b1, _, _, a, c, b2⟩
        · rw [b2] at hc
          have hq := fun w => Lib.run_eql_slice_nil (P := Tryz.prog) w 34 _ none 0 0 0 0 u_bytes
          have B1 := Lib.hid b1
          clear b1 b2
          go_wp2_with fail
          clear c0 c2 c3 c4 d0 hc hq
          refine wp_region_L (fun w' => ∃ Q, Bears w' (spcObj y was now (firstB len : Int) true (.slice ta len tc) (g : Int) * (stObj now (.slice (some ⟨gb, 0, none⟩) bs.length bc) iv * Q))) 9 [(true, 0), (true, 1), (true, 2), (true, 3), (true, 4), (true, 5), (true, 6), (true, 7), (false, 8)] [(true, 9), (false, 10)] (by kernel_rfl) (by kernel_rfl) ⟨_, h1.drew⟩ ?_
          simp only [pick, List.getElem?_cons_zero, List.getElem?_cons_succ]
          refine wpL_yield (v := ?_) rfl (fun w' hS => ?_) ?_
          rotate_left
          · (obtain ⟨_, hS⟩ := hS; obtain ⟨_, _, c2, _, _, _, _⟩ := hS.spcCells; obtain ⟨d0, _, _⟩ := hS.pull2.stCells; go_simp; try with_reducible rfl)
          simp only [Act.put, List.setIfInBounds_toArray, List.set_cons_zero, List.set_cons_succ]
          refine wpL_yield (v := ?_) rfl (fun w' hS => ?_) ?_
          rotate_left
          · (obtain ⟨_, hS⟩ := hS; obtain ⟨_, _, c2, _, _, _, _⟩ := hS.spcCells; obtain ⟨d0, _, _⟩ := hS.pull2.stCells; go_simp; try with_reducible rfl)
          simp only [Act.put, List.setIfInBounds_toArray, List.set_cons_zero, List.set_cons_succ]
          refine wpL_yield (v := ?_) rfl (fun w' hS => ?_) ?_
          rotate_left
          · (obtain ⟨_, hS⟩ := hS; obtain ⟨_, _, c2, _, _, _, _⟩ := hS.spcCells; obtain ⟨d0, _, _⟩ := hS.pull2.stCells; go_simp; try with_reducible rfl)
          simp only [Act.put, List.setIfInBounds_toArray, List.set_cons_zero, List.set_cons_succ]
          refine wpL_yield (v := ?_) rfl (fun w' hS => ?_) ?_
          rotate_left
          · (obtain ⟨_, hS⟩ := hS; obtain ⟨_, _, c2, _, _, _, _⟩ := hS.spcCells; obtain ⟨d0, _, _⟩ := hS.pull2.stCells; go_simp; try with_reducible rfl)
          simp only [Act.put, List.setIfInBounds_toArray, List.set_cons_zero, List.set_cons_succ]
          refine wpL_yield (v := ?_) rfl (fun w' hS => ?_) ?_
          rotate_left
          · (obtain ⟨_, hS⟩ := hS; obtain ⟨_, _, c2, _, _, _, _⟩ := hS.spcCells; obtain ⟨d0, _, _⟩ := hS.pull2.stCells; go_simp; try with_reducible rfl)
          simp only [Act.put, List.setIfInBounds_toArray, List.set_cons_zero, List.set_cons_succ]
          refine wpL_yield (v := ?_) rfl (fun w' hS => ?_) ?_
          rotate_left
          · (obtain ⟨_, hS⟩ := hS; obtain ⟨_, _, c2, _, _, _, _⟩ := hS.spcCells; obtain ⟨d0, _, _⟩ := hS.pull2.stCells; go_simp; try with_reducible rfl)
          simp only [Act.put, List.setIfInBounds_toArray, List.set_cons_zero, List.set_cons_succ]
          refine wpL_yield (v := ?_) rfl (fun w' hS => ?_) ?_
          rotate_left
          · (obtain ⟨_, hS⟩ := hS; obtain ⟨_, _, c2, _, _, _, _⟩ := hS.spcCells; obtain ⟨d0, _, _⟩ := hS.pull2.stCells; go_simp; try with_reducible rfl)
          simp only [Act.put, List.setIfInBounds_toArray, List.set_cons_zero, List.set_cons_succ]
          refine wpL_yield (v := ?_) rfl (fun w' hS => ?_) ?_
          rotate_left
          · (obtain ⟨_, hS⟩ := hS; obtain ⟨_, _, c2, _, _, _, _⟩ := hS.spcCells; obtain ⟨d0, _, _⟩ := hS.pull2.stCells; go_simp; try with_reducible rfl)
          simp only [Act.put, List.setIfInBounds_toArray, List.set_cons_zero, List.set_cons_succ]
          have h3 := newRow (e := 5) (n := 64) (xs := cellsV zeroSec) h1.drew (by simp [zeroSec]) (by unfold maxLen; omega)
          have hz3 := Hz.out w.drew
          refine wpL_eff rfl (wp_make rfl rfl rfl hz3 ?_)
          generalize w.drew.alloc (.cells (cellsV zeroSec).toArray 5) = w3 at h3 ⊢
          generalize w.drew.heap.size = zb at h3 ⊢
          clear hz3
          refine ⟨⟨_, h3.pull3.pull3⟩, ?_⟩
          simp only [Act.put, List.setIfInBounds_toArray, List.set_cons_zero, List.set_cons_succ]
          refine wpL_nil ?_
          refine wpL_yield (v := ?_) rfl (fun w' hS => ?_) ?_
          rotate_left
          · (go_simp; try with_reducible rfl)
          simp only [Act.put, List.setIfInBounds_toArray, List.set_cons_zero, List.set_cons_succ]
          have hcell := h3.pull4.rowCell (i := k) hlt (Hok.out.nil_at hlt)
          have hfr := h3.pull4.rowFrozen k
          generalize (bs.getD k default).1 = old at hcell
          have h5 := h3.pull4.rowSet hlt (.slice (some ⟨zb, 0, none⟩) 64 64)
          have hset : (bs.map Prod.fst).set k (.slice (some ⟨zb, 0, none⟩) 64 64) = (bs.set k (.slice (some ⟨zb, 0, none⟩) 64 64, zeroSec)).map Prod.fst := by rw [List.map_set]
          rw [hset] at h5
          clear hset
          refine wpL_store _ _ _ rfl rfl rfl rfl (by go_simp; rfl) trivial ?_
          generalize w3.setCell ⟨gb, k, none⟩ (.slice (some ⟨zb, 0, none⟩) 64 64) = w4 at h5 ⊢
          clear hcell hfr h3
          refine wpL_nil ?_
          -- the block's own mark
          have h6 := h5.drew
          have hft : f + k < len := by have := Hbl.out; have := Hf.out; omega
          have hftI : (f : Int) + (k : Int) < (len : Int) := by omega
          have hw6 : IntKind.i64.wrap ((f : Int) + (k : Int)) = (f : Int) + (k : Int) := IntWalk.i64_in _ (by omega)
          obtain ⟨e0, _, _, _, e4, _, _⟩ := h6.pull3.spcCells
          rw [Hf.out] at e0
          obtain ⟨gt, rfl, _⟩ := h6.pull6.rowAt (k := f + k) hft
          have hc6 := h6.pull6.rowCell (i := f + k) hft (v := .bool (ts.getD (f + k) false)) (by rw [List.getElem?_map, List.getD_eq_getElem?_getD, List.getElem?_eq_getElem (by rw [Hts.out]; exact hft)]; rfl)
          have hf6 := h6.pull6.rowFrozen (f + k)
          have h7 := h6.pull6.rowSet hft (.bool true)
          have hset2 : (ts.map Value.bool).set (f + k) (.bool true) = (ts.set (f + k) true).map Value.bool := by rw [List.map_set]
          rw [hset2] at h7
          generalize ts.getD (f + k) false = tb at hc6
          clear hset2
          go_wp2_with fail
          refine wp_region_tail 10 (by kernel_rfl) (by kernel_rfl) ?_
          simp only [List.take_succ_cons, List.take_zero, List.drop_succ_cons, List.drop_zero]
          clear h5
          generalize w4.drew = w5 at *
          iterate 10 still_step
          refine wpStill_nil ?_
          go_wp2_with fail
          have e54 : ((f : Int) + (k : Int)) = ((f + k : Nat) : Int) := by omega
          clear e0 e4 hc6 hf6 h6
          generalize w5.setCell ⟨gt, f + k, none⟩ (.bool true) = w6 at h7 ⊢
          have h8 := h7.drew
          obtain ⟨tn, htn⟩ : ∃ tn : Nat, 621 + (f + k) / 512 = tn := ⟨_, rfl⟩
          have htl : tn < len := by omega
          have hbitc := fun w => rsbit_any ((f : Int) + (k : Int)) (by omega) (by omega) (.pointer (some ⟨y, 0, none⟩)) w
          rw [show (621 : Int) + ((f : Int) + (k : Int)) / 512 = (tn : Int) by omega] at hbitc
          have Hbitc := Lib.hid hbitc
          have htI : (tn : Int) < (len : Int) := by omega
          have hsl : (ts.set (f + k) true).length = len := by rw [List.length_set]; exact Hts.out
          have Hsl := Lib.hid hsl
          generalize ts.set (f + k) true = ts2 at *
          clear htn hbitc hsl e54
          refine wp_region_L (fun w' => ∃ Q, Bears w' (spcObj y was now (firstB len : Int) true (.slice (some ⟨gt, 0, none⟩) len tc) (g : Int) * Q)) 12 [(true, 0), (true, 1), (true, 2), (true, 3), (true, 4), (true, 5), (true, 6), (true, 7), (true, 8), (true, 9), (true, 10), (false, 11)] [(true, 12), (false, 13)] (by kernel_rfl) (by kernel_rfl) ⟨_, h8.pull4⟩ ?_
          generalize w6.drew = w7 at *
          simp only [pick, List.getElem?_cons_zero, List.getElem?_cons_succ]
          refine wpL_yield (v := ?_) rfl (fun w' hS => ?_) ?_
          rotate_left
          · (obtain ⟨_, hS⟩ := hS; obtain ⟨c0, _, _, _, c4, _, _⟩ := hS.spcCells; rw [Hf.out] at c0; go_simp; try with_reducible rfl)
          simp only [Act.put, List.setIfInBounds_toArray, List.set_cons_zero, List.set_cons_succ]
          refine wpL_yield (v := ?_) rfl (fun w' hS => ?_) ?_
          rotate_left
          · (obtain ⟨_, hS⟩ := hS; obtain ⟨c0, _, _, _, c4, _, _⟩ := hS.spcCells; rw [Hf.out] at c0; go_simp; try with_reducible rfl)
          simp only [Act.put, List.setIfInBounds_toArray, List.set_cons_zero, List.set_cons_succ]
          refine wpL_yield (v := ?_) rfl (fun w' hS => ?_) ?_
          rotate_left
          · (obtain ⟨_, hS⟩ := hS; obtain ⟨c0, _, _, _, c4, _, _⟩ := hS.spcCells; rw [Hf.out] at c0; go_simp; try with_reducible rfl)
          simp only [Act.put, List.setIfInBounds_toArray, List.set_cons_zero, List.set_cons_succ]
          refine wpL_yield (v := ?_) rfl (fun w' hS => ?_) ?_
          rotate_left
          · (obtain ⟨_, hS⟩ := hS; obtain ⟨c0, _, _, _, c4, _, _⟩ := hS.spcCells; rw [Hf.out] at c0; go_simp; try with_reducible rfl)
          simp only [Act.put, List.setIfInBounds_toArray, List.set_cons_zero, List.set_cons_succ]
          refine wpL_yield (v := ?_) rfl (fun w' hS => ?_) ?_
          rotate_left
          · (obtain ⟨_, hS⟩ := hS; obtain ⟨c0, _, _, _, c4, _, _⟩ := hS.spcCells; rw [Hf.out] at c0; go_simp; try with_reducible rfl)
          simp only [Act.put, List.setIfInBounds_toArray, List.set_cons_zero, List.set_cons_succ]
          refine wpL_yield (v := ?_) rfl (fun w' hS => ?_) ?_
          rotate_left
          · (obtain ⟨_, hS⟩ := hS; obtain ⟨c0, _, _, _, c4, _, _⟩ := hS.spcCells; rw [Hf.out] at c0; go_simp; try with_reducible rfl)
          simp only [Act.put, List.setIfInBounds_toArray, List.set_cons_zero, List.set_cons_succ]
          refine wpL_yield (v := ?_) rfl (fun w' hS => ?_) ?_
          rotate_left
          · (obtain ⟨_, hS⟩ := hS; obtain ⟨c0, _, _, _, c4, _, _⟩ := hS.spcCells; rw [Hf.out] at c0; go_simp; try with_reducible rfl)
          simp only [Act.put, List.setIfInBounds_toArray, List.set_cons_zero, List.set_cons_succ]
          refine wpL_yield (v := ?_) rfl (fun w' hS => ?_) ?_
          rotate_left
          · (obtain ⟨_, hS⟩ := hS; obtain ⟨c0, _, _, _, c4, _, _⟩ := hS.spcCells; rw [Hf.out] at c0; go_simp; try with_reducible rfl)
          simp only [Act.put, List.setIfInBounds_toArray, List.set_cons_zero, List.set_cons_succ]
          refine wpL_yield (v := ?_) rfl (fun w' hS => ?_) ?_
          rotate_left
          · (obtain ⟨_, hS⟩ := hS; obtain ⟨c0, _, _, _, c4, _, _⟩ := hS.spcCells; rw [Hf.out] at c0; go_simp; try with_reducible rfl)
          simp only [Act.put, List.setIfInBounds_toArray, List.set_cons_zero, List.set_cons_succ]
          refine wpL_yield (v := ?_) rfl (fun w' hS => ?_) ?_
          rotate_left
          · (obtain ⟨_, hS⟩ := hS; obtain ⟨c0, _, _, _, c4, _, _⟩ := hS.spcCells; rw [Hf.out] at c0; go_simp; try with_reducible rfl)
          simp only [Act.put, List.setIfInBounds_toArray, List.set_cons_zero, List.set_cons_succ]
          refine wpL_yield (v := ?_) rfl (fun w' hS => ?_) ?_
          rotate_left
          · (obtain ⟨_, hS⟩ := hS; obtain ⟨c0, _, _, _, c4, _, _⟩ := hS.spcCells; rw [Hf.out] at c0; go_simp; try with_reducible rfl)
          simp only [Act.put, List.setIfInBounds_toArray, List.set_cons_zero, List.set_cons_succ]
          refine wpL_eff rfl ?_
          go_simp
          refine (Hbitc.out _).mono ?_
          rintro e w' ⟨rfl, rfl⟩
          refine ⟨⟨_, h8.pull4⟩, ?_⟩
          refine wpL_nil ?_
          refine wpL_yield (v := ?_) rfl (fun w' hS => ?_) ?_
          rotate_left
          · (go_simp; try with_reducible rfl)
          simp only [Act.put, List.setIfInBounds_toArray, List.set_cons_zero, List.set_cons_succ]
          have hc8 := h8.rowCell (i := tn) htl (v := .bool (ts2.getD tn false)) (by rw [List.getElem?_map, List.getD_eq_getElem?_getD, List.getElem?_eq_getElem (by rw [Hsl.out]; exact htl)]; rfl)
          have hf8 := h8.rowFrozen tn
          have h9 := h8.rowSet htl (.bool true)
          have hset3 : (ts2.map Value.bool).set tn (.bool true) = (ts2.set tn true).map Value.bool := by rw [List.map_set]
          rw [hset3] at h9
          generalize ts2.getD tn false = tb2 at hc8
          clear hset3
          refine wpL_store _ _ _ rfl rfl rfl rfl (by go_simp; rfl) trivial ?_
          clear hc8 hf8
          refine wpL_nil ?_
          generalize w7.setCell ⟨gt, tn, none⟩ (.bool true) = w9 at h9 ⊢
          obtain ⟨e0, _, _, _, _, _, _⟩ := h9.pull4.spcCells
          rw [Hf.out] at e0
          have hs := Hs.out
          rw [freeAt_some (n := f + k) (by have := Hf.out; omega) hft (by rw [← Hf.out]; exact B1.out) (by rw [← Hf.out]; exact full_of Hno.out)] at hs
          simp only [Prod.mk.injEq] at hs
          obtain ⟨rfl, rfl⟩ := hs
          go_wp2_with fail
          go_ret2
          refine ⟨?_, bufA (.slice (some ⟨zb, 0, none⟩) 64 64) zeroSec, Bears.spn.2 ⟨was, now, .slice (some ⟨gt, 0, none⟩) len tc, ts2.set tn true, bs.set k (.slice (some ⟨zb, 0, none⟩) 64 64, zeroSec), is, .slice (some ⟨gb, 0, none⟩) bs.length bc, iv, by rw [List.length_set]; exact Hsl.out, ?_, ?_⟩⟩
          · have e54 : ((f + k : Nat) : Int) = (f : Int) + (k : Int) := by omega
            show _ = Ending.returned (.tuple #[.int .i64 ((f + k : Nat) : Int), .int .i64 0])
            rw [e54]
            rfl
          · rw [← Hf.out]
            exact (Hok.out.right (Z := bufA (.slice (some ⟨zb, 0, none⟩) 64 64) zeroSec)).alloc hlo hhi H64.out hlt buf_tells
          · simp only [List.length_set]
            have h10 := h9.pull3.bufRow
            have h11 : Bears w9 (rstA was Y len F * (spcObj y was now (firstB len : Int) true (.slice (some ⟨gt, 0, none⟩) len tc) (g : Int) * (stObj now (.slice (some ⟨gb, 0, none⟩) bs.length bc) iv * (rowA 34 1 (.slice (some ⟨gb, 0, none⟩) bs.length bc) bs.length ((bs.set k (.slice (some ⟨zb, 0, none⟩) 64 64, zeroSec)).map Prod.fst) * (rowA 34 1 iv is.length (is.map Prod.fst) * (rowA 4 1 (.slice (some ⟨gt, 0, none⟩) len tc) len ((ts2.set tn true).map Value.bool) * (bufA (.slice (some ⟨zb, 0, none⟩) 64 64) zeroSec * (Y * R)))))))) := h10.cast (by ac_rfl)
            exact (h11.rstRight (Z := bufA (.slice (some ⟨zb, 0, none⟩) 64 64) zeroSec)).cast (by ac_rfl)
        · rw [b2] at hc
          have hq := fun w => Lib.run_eql_slice_nil (P := Tryz.prog) w 34 _ (some a) 64 c 0 0 u_bytes
          have B1 := Lib.hid b1
          clear b1 b2
          go_wp2_with fail
          go_roundw
          case rel =>
            refine ⟨k + 1, hlt, by go_num, fun m hm => ?_, by simp⟩
            by_cases e : m = k
            · subst e; exact B1.out
            · exact Hno.out m (by omega)
          case measure => simp [intOf]; omega
      · obtain rfl : k = bs.length := by omega
        have hfull := full_of Hno.out
        rw [Hbl.out, show firstB len + (len - firstB len) = len by rw [Hf.out]; omega] at hfull
        have hs := Hs.out
        rw [freeAt_none hfull] at hs
        simp at hs
        obtain ⟨rfl, rfl⟩ := hs
        clear hfull
        go_wp2_with fail
        go_ret2
        exact ⟨rfl, Assn.emp, by rw [Assn.emp_mul]; exact Hh.out⟩
end

end Go.Proofs.YtcggloceabjjdaaGreat

/- Walks of the document's space, part 7: Write; no condition. -/
namespace Go.Proofs.YtcggloceabjjdaaGreat
open Go.RowKit Go.MapKept

section
variable {y len : Nat} {Y R : Assn} {S S' : SpM} {w : World}

set_option maxRecDepth 100000 in
set_option maxHeartbeats 1600000 in
theorem rswrite_any {t : Told} (h : Bears w (spcA y Y len S * (Y * R))) (hlo : 1024 ≤ len) (hhi : len ≤ 8192) (n : Int) (hn : -9223372036854775808 ≤ n ∧ n ≤ 9223372036854775807) {b : List UInt8} {ad : Option Addr} {bn cap : Nat}
    (hb : (Y * R).Tells (fun w => BytesIn w (.slice ad bn cap) b)) (hs : S.write len n b = (t, S')) :
    Calls Tryz.prog 48 #[.pointer (some ⟨y, 0, none⟩), .int .i64 n, .slice ad bn cap] w fun e w' => e = .returned (.int .i64 t.e) ∧ ∃ Z, Bears w' (spcA y (Z * Y) len S' * ((Z * Y) * R)) := by
  obtain rfl : bn = b.length := (hb _ h.right).len
  obtain ⟨was, now, tv, ts, hts, h1⟩ := Bears.spc.1 h
  obtain ⟨_, _, _, c3, _, _, _⟩ := h1.spcCells
  have hck := rscheck_any h hlo hhi n hn
  obtain ⟨g, op, F, G⟩ := S
  simp only at h1 c3 hck
  unfold SpM.write at hs
  cases op with
  | false =>
    simp at hs
    obtain ⟨rfl, rfl⟩ := hs
    clear hck h1
    go_enter Tryz.func48, Tryz.ntmps48
    go_wp2_with fail
    go_ret
    exact ⟨rfl, Assn.emp, by rw [Assn.emp_mul]; exact h⟩
  | true =>
    clear h h1 hts
    simp only [if_true] at hs
    by_cases hz : chkN len G n = 0
    · rw [if_pos hz] at hs
      simp only [Prod.mk.injEq] at hs
      obtain ⟨rfl, rfl⟩ := hs
      obtain ⟨i, rfl, hi, hbit⟩ := chk_zero hz
      rw [hz] at hck
      have Hck := Lib.hid hck
      have e : ((firstB len : Int) + (i : Int)).toNat = firstB len + i := by omega
      rw [e]
      have Hbit := Lib.hid hbit
      clear hck hz hbit e
      by_cases hl : b.length = 64
      · have hne : ((b.length : Int) != 64) = false := by rw [hl]; rfl
        have hwr : wrN G (firstB len + i) b = (0, updS G (firstB len + i) b) := by unfold wrN; rw [if_pos hl]
        rw [hwr]
        have Hl := Lib.hid hl
        have hl0 : b.length ≤ 140737488355328 := by omega
        clear hwr hl
        go_enter Tryz.func48, Tryz.ntmps48
        go_wp2_with fail
        refine Hck.out.mono ?_
        rintro e w2 ⟨rfl, h2⟩
        obtain ⟨was, now, tv, ts, bs, is, bv, iv, hts, hok, h3⟩ := Bears.spn.1 h2
        obtain ⟨ba, bc, rfl, _⟩ := h3.pull3.rowForm
        obtain ⟨ta, tc, rfl, _⟩ := h3.pull5.rowForm
        have hbl := hok.blen
        have hib : i < bs.length := by omega
        have hiI : (i : Int) < (bs.length : Int) := by omega
        obtain ⟨gb, rfl, _⟩ := h3.pull3.rowAt (k := i) hib
        obtain ⟨gt, rfl, _⟩ := h3.pull5.rowAt (k := 0) (by omega)
        simp only at hok
        obtain ⟨f, hf⟩ : ∃ f, firstB len = f := ⟨_, rfl⟩
        have hfl : 749 < f := by rw [← hf]; unfold firstB mapsN; omega
        have hw2 : IntKind.i64.wrap ((f : Int) + (i : Int) - (f : Int)) = (i : Int) := by rw [show (f : Int) + (i : Int) - (f : Int) = (i : Int) by omega]; exact IntWalk.i64_in _ (by omega)
        have hft : f + i < len := by rw [← hf]; exact hi
        have hftI : (f : Int) + (i : Int) < (len : Int) := by omega
        have Hok := Lib.hid hok
        have Hts := Lib.hid hts
        rw [hf]
        have Hf := Lib.hid hf
        clear hok hts h2 hbl hf hi
        go_wp2_with fail
        refine wp_region_L (fun w' => ∃ Q, Bears w' (spcObj y was now (firstB len : Int) true (.slice (some ⟨gt, 0, none⟩) len tc) (g : Int) * (stObj now (.slice (some ⟨gb, 0, none⟩) bs.length bc) iv * Q))) 16 [(true, 0), (true, 1), (true, 2), (true, 3), (true, 4), (true, 5), (true, 6), (true, 7), (true, 8), (true, 9), (true, 10), (true, 11), (true, 12), (true, 14), (false, 13), (false, 15)] [(true, 16), (false, 17)] (by kernel_rfl) (by kernel_rfl) ⟨_, h3.drew⟩ ?_
        simp only [pick, List.getElem?_cons_zero, List.getElem?_cons_succ]
        refine wpL_yield (v := ?_) rfl (fun w' hS => ?_) ?_
        rotate_left
        · (obtain ⟨_, hS⟩ := hS; obtain ⟨c0, _, c2, _, _, _, _⟩ := hS.spcCells; obtain ⟨d0, _, _⟩ := hS.pull2.stCells; rw [Hf.out] at c0; go_simp; try with_reducible rfl)
        simp only [Act.put, List.setIfInBounds_toArray, List.set_cons_zero, List.set_cons_succ]
        refine wpL_yield (v := ?_) rfl (fun w' hS => ?_) ?_
        rotate_left
        · (obtain ⟨_, hS⟩ := hS; obtain ⟨c0, _, c2, _, _, _, _⟩ := hS.spcCells; obtain ⟨d0, _, _⟩ := hS.pull2.stCells; rw [Hf.out] at c0; go_simp; try with_reducible rfl)
        simp only [Act.put, List.setIfInBounds_toArray, List.set_cons_zero, List.set_cons_succ]
        refine wpL_yield (v := ?_) rfl (fun w' hS => ?_) ?_
        rotate_left
        · (obtain ⟨_, hS⟩ := hS; obtain ⟨c0, _, c2, _, _, _, _⟩ := hS.spcCells; obtain ⟨d0, _, _⟩ := hS.pull2.stCells; rw [Hf.out] at c0; go_simp; try with_reducible rfl)
        simp only [Act.put, List.setIfInBounds_toArray, List.set_cons_zero, List.set_cons_succ]
        refine wpL_yield (v := ?_) rfl (fun w' hS => ?_) ?_
        rotate_left
        · (obtain ⟨_, hS⟩ := hS; obtain ⟨c0, _, c2, _, _, _, _⟩ := hS.spcCells; obtain ⟨d0, _, _⟩ := hS.pull2.stCells; rw [Hf.out] at c0; go_simp; try with_reducible rfl)
        simp only [Act.put, List.setIfInBounds_toArray, List.set_cons_zero, List.set_cons_succ]
        refine wpL_yield (v := ?_) rfl (fun w' hS => ?_) ?_
        rotate_left
        · (obtain ⟨_, hS⟩ := hS; obtain ⟨c0, _, c2, _, _, _, _⟩ := hS.spcCells; obtain ⟨d0, _, _⟩ := hS.pull2.stCells; rw [Hf.out] at c0; go_simp; try with_reducible rfl)
        simp only [Act.put, List.setIfInBounds_toArray, List.set_cons_zero, List.set_cons_succ]
        refine wpL_yield (v := ?_) rfl (fun w' hS => ?_) ?_
        rotate_left
        · (obtain ⟨_, hS⟩ := hS; obtain ⟨c0, _, c2, _, _, _, _⟩ := hS.spcCells; obtain ⟨d0, _, _⟩ := hS.pull2.stCells; rw [Hf.out] at c0; go_simp; try with_reducible rfl)
        simp only [Act.put, List.setIfInBounds_toArray, List.set_cons_zero, List.set_cons_succ]
        refine wpL_yield (v := ?_) rfl (fun w' hS => ?_) ?_
        rotate_left
        · (obtain ⟨_, hS⟩ := hS; obtain ⟨c0, _, c2, _, _, _, _⟩ := hS.spcCells; obtain ⟨d0, _, _⟩ := hS.pull2.stCells; rw [Hf.out] at c0; go_simp; try with_reducible rfl)
        simp only [Act.put, List.setIfInBounds_toArray, List.set_cons_zero, List.set_cons_succ]
        refine wpL_yield (v := ?_) rfl (fun w' hS => ?_) ?_
        rotate_left
        · (obtain ⟨_, hS⟩ := hS; obtain ⟨c0, _, c2, _, _, _, _⟩ := hS.spcCells; obtain ⟨d0, _, _⟩ := hS.pull2.stCells; rw [Hf.out] at c0; go_simp; try with_reducible rfl)
        simp only [Act.put, List.setIfInBounds_toArray, List.set_cons_zero, List.set_cons_succ]
        refine wpL_yield (v := ?_) rfl (fun w' hS => ?_) ?_
        rotate_left
        · (obtain ⟨_, hS⟩ := hS; obtain ⟨c0, _, c2, _, _, _, _⟩ := hS.spcCells; obtain ⟨d0, _, _⟩ := hS.pull2.stCells; rw [Hf.out] at c0; go_simp; try with_reducible rfl)
        simp only [Act.put, List.setIfInBounds_toArray, List.set_cons_zero, List.set_cons_succ]
        refine wpL_yield (v := ?_) rfl (fun w' hS => ?_) ?_
        rotate_left
        · (obtain ⟨_, hS⟩ := hS; obtain ⟨c0, _, c2, _, _, _, _⟩ := hS.spcCells; obtain ⟨d0, _, _⟩ := hS.pull2.stCells; rw [Hf.out] at c0; go_simp; try with_reducible rfl)
        simp only [Act.put, List.setIfInBounds_toArray, List.set_cons_zero, List.set_cons_succ]
        refine wpL_yield (v := ?_) rfl (fun w' hS => ?_) ?_
        rotate_left
        · (obtain ⟨_, hS⟩ := hS; obtain ⟨c0, _, c2, _, _, _, _⟩ := hS.spcCells; obtain ⟨d0, _, _⟩ := hS.pull2.stCells; rw [Hf.out] at c0; go_simp; try with_reducible rfl)
        simp only [Act.put, List.setIfInBounds_toArray, List.set_cons_zero, List.set_cons_succ]
        refine wpL_yield (v := ?_) rfl (fun w' hS => ?_) ?_
        rotate_left
        · (obtain ⟨_, hS⟩ := hS; obtain ⟨c0, _, c2, _, _, _, _⟩ := hS.spcCells; obtain ⟨d0, _, _⟩ := hS.pull2.stCells; rw [Hf.out] at c0; go_simp; try with_reducible rfl)
        simp only [Act.put, List.setIfInBounds_toArray, List.set_cons_zero, List.set_cons_succ]
        refine wpL_yield (v := ?_) rfl (fun w' hS => ?_) ?_
        rotate_left
        · (obtain ⟨_, hS⟩ := hS; obtain ⟨c0, _, c2, _, _, _, _⟩ := hS.spcCells; obtain ⟨d0, _, _⟩ := hS.pull2.stCells; rw [Hf.out] at c0; go_simp; try with_reducible rfl)
        simp only [Act.put, List.setIfInBounds_toArray, List.set_cons_zero, List.set_cons_succ]
        refine wpL_yield (v := ?_) rfl (fun w' hS => ?_) ?_
        rotate_left
        · (obtain ⟨_, hS⟩ := hS; obtain ⟨c0, _, c2, _, _, _, _⟩ := hS.spcCells; obtain ⟨d0, _, _⟩ := hS.pull2.stCells; rw [Hf.out] at c0; go_simp; try with_reducible rfl)
        simp only [Act.put, List.setIfInBounds_toArray, List.set_cons_zero, List.set_cons_succ]
        have hA := (h3.drew.alloc (.cells #[] 5)).right
        refine wpL_eff rfl ?_
        go_simp
        refine ⟨⟨_, hA⟩, ?_⟩
        try simp only [Act.put, List.setIfInBounds_toArray, List.set_cons_zero, List.set_cons_succ]
        refine wpL_append_fresh hA rfl rfl rfl rfl (hb _ hA.right.right.right.right.right.right) hl0 ?_
        intro xa xc w3 h4
        refine ⟨⟨_, h4.pull3.pull3⟩, ?_⟩
        try simp only [Act.put, List.setIfInBounds_toArray, List.set_cons_zero, List.set_cons_succ]
        refine wpL_nil ?_
        refine wpL_yield (v := ?_) rfl (fun w' hS => ?_) ?_
        rotate_left
        · (go_simp; try with_reducible rfl)
        simp only [Act.put, List.setIfInBounds_toArray, List.set_cons_zero, List.set_cons_succ]
        have hcell := h4.pull4.rowCell (i := i) hib (Hok.out.nil_at hib)
        have hfr := h4.pull4.rowFrozen i
        generalize (bs.getD i default).1 = old at hcell
        have h5 := h4.pull4.rowSet hib (.slice xa b.length xc)
        have hset : (bs.map Prod.fst).set i (.slice xa b.length xc) = (bs.set i (.slice xa b.length xc, b)).map Prod.fst := by rw [List.map_set]
        rw [hset] at h5
        clear hset
        refine wpL_store _ _ _ rfl rfl rfl rfl (by go_simp; rfl) trivial ?_
        generalize w3.setCell ⟨gb, i, none⟩ (.slice xa b.length xc) = w4 at h5 ⊢
        clear hcell hfr h4 hA h3
        refine wpL_nil ?_
        obtain ⟨_, _, _, _, e4, _, _⟩ := h5.pull3.spcCells
        have hc6 := h5.pull6.rowCell (i := f + i) hft (v := .bool (ts.getD (f + i) false)) (by rw [List.getElem?_map, List.getD_eq_getElem?_getD, List.getElem?_eq_getElem (by rw [Hts.out]; exact hft)]; rfl)
        have hf6 := h5.pull6.rowFrozen (f + i)
        have h7 := h5.pull6.rowSet hft (.bool true)
        have hset2 : (ts.map Value.bool).set (f + i) (.bool true) = (ts.set (f + i) true).map Value.bool := by rw [List.map_set]
        rw [hset2] at h7
        generalize ts.getD (f + i) false = tb at hc6
        clear hset2 h5
        go_wp2_with fail
        go_ret
        have hby := buf_tells _ h7.pull3
        obtain ⟨xa, rfl⟩ := bytes_some hby (by intro e; have := Hl.out; rw [e] at this; simp at this)
        refine ⟨rfl, bufA (.slice (some xa) b.length xc) b, Bears.spn.2 ⟨was, now, .slice (some ⟨gt, 0, none⟩) len tc, ts.set (f + i) true, bs.set i (.slice (some xa) b.length xc, b), is, .slice (some ⟨gb, 0, none⟩) bs.length bc, iv, by rw [List.length_set]; exact Hts.out, ?_, ?_⟩⟩
        · simp only
          have hr := (Hok.out.right (Z := bufA (.slice (some xa) b.length xc) b))
          have ht : (bufA (.slice (some xa) b.length xc) b * Y).Tells (fun w => BytesIn w (.slice (some xa) b.length xc) b) := buf_tells
          rw [Hl.out] at ht hr ⊢
          exact hr.write hlo hhi hib Hbit.out Hl.out ht
        · simp only [List.length_set]
          have h11 : Bears _ (rstA was Y len F * (spcObj y was now (firstB len : Int) true (.slice (some ⟨gt, 0, none⟩) len tc) (g : Int) * (stObj now (.slice (some ⟨gb, 0, none⟩) bs.length bc) iv * (rowA 34 1 (.slice (some ⟨gb, 0, none⟩) bs.length bc) bs.length ((bs.set i (.slice (some xa) b.length xc, b)).map Prod.fst) * (rowA 34 1 iv is.length (is.map Prod.fst) * (rowA 4 1 (.slice (some ⟨gt, 0, none⟩) len tc) len ((ts.set (f + i) true).map Value.bool) * (bufA (.slice (some xa) b.length xc) b * (Y * R)))))))) := h7.cast (by ac_rfl)
          exact (h11.rstRight (Z := bufA (.slice (some xa) b.length xc) b)).cast (by ac_rfl)
      · have hne : ((b.length : Int) != 64) = true := by rw [bne_iff_ne]; omega
        have hwr : wrN G (firstB len + i) b = (11, G) := by unfold wrN; rw [if_neg hl]
        rw [hwr]
        clear hwr hl
        go_enter Tryz.func48, Tryz.ntmps48
        go_wp2_with fail
        refine Hck.out.mono ?_
        rintro e w2 ⟨rfl, h2⟩
        go_wp2_with fail
        go_ret
        exact ⟨rfl, Assn.emp, by rw [Assn.emp_mul]; exact h2⟩
    · rw [if_neg hz] at hs
      simp only [Prod.mk.injEq] at hs
      obtain ⟨rfl, rfl⟩ := hs
      have hne : (chkN len G n != 0) = true := by simpa using hz
      have Hck := Lib.hid hck
      clear hck hz
      go_enter Tryz.func48, Tryz.ntmps48
      go_wp2_with fail
      refine Hck.out.mono ?_
      rintro e w2 ⟨rfl, h2⟩
      go_wp2_with fail
      go_ret
      exact ⟨rfl, Assn.emp, by rw [Assn.emp_mul]; exact h2⟩
end

end Go.Proofs.YtcggloceabjjdaaGreat

/- Walks of the document's space, part 8: SetInode; no condition. -/
namespace Go.Proofs.YtcggloceabjjdaaGreat
open Go.RowKit Go.MapKept

section
variable {y len : Nat} {Y R : Assn} {S S' : SpM} {w : World}

set_option maxRecDepth 100000 in
set_option maxHeartbeats 1600000 in
theorem rssetinode_any {t : Told} (h : Bears w (spcA y Y len S * (Y * R))) (hlo : 1024 ≤ len) (hhi : len ≤ 8192) (h64 : ∀ i, (S.G i).length = 64) (n : Int) {b : List UInt8} {ad : Option Addr} {bn cap : Nat}
    (hb : (Y * R).Tells (fun w => BytesIn w (.slice ad bn cap) b)) (hs : S.setInode len n b = (t, S')) :
    Calls Tryz.prog 49 #[.pointer (some ⟨y, 0, none⟩), .int .i64 n, .slice ad bn cap] w fun e w' => e = .returned (.int .i64 t.e) ∧ ∃ Z, Bears w' (spcA y (Z * Y) len S' * ((Z * Y) * R)) := by
  obtain rfl : bn = b.length := (hb _ h.right).len
  obtain ⟨was, now, tv, ts, bs, is, bv, iv, hts, hok, h3⟩ := Bears.spn.1 h
  obtain ⟨_, _, _, c3, _, _, _⟩ := h3.spcCells
  obtain ⟨g, op, F, G⟩ := S
  simp only at h3 c3 hok h64
  unfold SpM.setInode at hs
  cases op with
  | false =>
    simp at hs
    obtain ⟨rfl, rfl⟩ := hs
    clear h3 hok
    go_enter Tryz.func49, Tryz.ntmps49
    go_wp2_with fail
    go_ret
    exact ⟨rfl, Assn.emp, by rw [Assn.emp_mul]; exact h⟩
  | true =>
    simp only [if_true] at hs
    by_cases hr : n < 0 ∨ 256 ≤ n
    · rw [if_pos hr] at hs
      simp only [Prod.mk.injEq] at hs
      obtain ⟨rfl, rfl⟩ := hs
      clear h3 hok
      rcases hr with hr | hr
      · go_enter Tryz.func49, Tryz.ntmps49
        go_wp2_with fail
        go_ret
        exact ⟨rfl, Assn.emp, by rw [Assn.emp_mul]; exact h⟩
      · have hr0 : ¬ n < 0 := by omega
        go_enter Tryz.func49, Tryz.ntmps49
        go_wp2_with fail
        go_ret
        exact ⟨rfl, Assn.emp, by rw [Assn.emp_mul]; exact h⟩
    · rw [if_neg hr] at hs
      simp only [Prod.mk.injEq] at hs
      obtain ⟨rfl, rfl⟩ := hs
      obtain ⟨m, rfl⟩ : ∃ m : Nat, n = (m : Int) := ⟨n.toNat, by omega⟩
      simp only [Int.toNat_natCast]
      have hm : m < 256 := by omega
      have hr0 : ¬ (m : Int) < 0 := by omega
      have hr1 : ¬ 256 ≤ (m : Int) := by omega
      clear hr
      by_cases hl : b.length = 32
      · have hne : ((b.length : Int) != 32) = false := by rw [hl]; rfl
        have hwr : siN len G m b = (0, updS G (iSec len m) (putAt (G (iSec len m)) (iAt m) b)) := by unfold siN; rw [if_pos hl]
        rw [hwr]
        have hl0 : b.length ≤ 140737488355328 := by omega
        obtain ⟨ia, ic, rfl, _⟩ := h3.pull4.rowForm
        obtain ⟨ta, tc, rfl, _⟩ := h3.pull5.rowForm
        have hil := hok.ilen
        have hmi : m < is.length := by omega
        have hmI : (m : Int) < (is.length : Int) := by omega
        obtain ⟨gi, rfl, _⟩ := h3.pull4.rowAt (k := m) hmi
        obtain ⟨gt, rfl, _⟩ := h3.pull5.rowAt (k := 0) (by omega)
        obtain ⟨f, hf⟩ : ∃ f, firstB len = f := ⟨_, rfl⟩
        have hfl : 749 < f := by rw [← hf]; unfold firstB mapsN; omega
        have hfh : f ≤ len := by rw [← hf]; unfold firstB mapsN; omega
        have hw1 : IntKind.i64.wrap ((f : Int) - 128) = (f : Int) - 128 := IntWalk.i64_in _ (by omega)
        have htd : (m : Int).tdiv 2 = (m : Int) / 2 := Int.tdiv_eq_ediv_of_nonneg (by omega)
        have hw2 : IntKind.i64.wrap ((m : Int) / 2) = (m : Int) / 2 := IntWalk.i64_in _ (by omega)
        have hw3 : IntKind.i64.wrap ((f : Int) - 128 + (m : Int) / 2) = (f : Int) - 128 + (m : Int) / 2 := IntWalk.i64_in _ (by omega)
        obtain ⟨tn, htn⟩ : ∃ tn : Nat, f - 128 + m / 2 = tn := ⟨_, rfl⟩
        have hte : (f : Int) - 128 + (m : Int) / 2 = (tn : Int) := by omega
        rw [hte] at hw3
        have htl : tn < len := by omega
        have htI : (tn : Int) < (len : Int) := by omega
        have Hl := Lib.hid hl
        have Hok := Lib.hid hok
        have Hts := Lib.hid hts
        have Hf := Lib.hid hf
        have H64 := Lib.hid h64
        have hcI := hok.iform m hm
        have Hil := Lib.hid hil
        obtain ⟨_, _, c2, c3, _, _, _⟩ := h3.spcCells
        clear hok hts hf h64 hl hwr hil c2 htn
        go_enter Tryz.func49, Tryz.ntmps49
        go_wp2_with fail
        refine wp_region_L (fun w' => ∃ Q, Bears w' (spcObj y was now (firstB len : Int) true (.slice (some ⟨gt, 0, none⟩) len tc) (g : Int) * (stObj now bv (.slice (some ⟨gi, 0, none⟩) is.length ic) * Q))) 11 [(true, 0), (true, 1), (true, 2), (true, 3), (true, 4), (true, 5), (true, 6), (true, 7), (true, 9), (false, 8), (false, 10)] [(true, 11), (false, 12)] (by kernel_rfl) (by kernel_rfl) ⟨_, h3.drew⟩ ?_
        simp only [pick, List.getElem?_cons_zero, List.getElem?_cons_succ]
        refine wpL_yield (v := ?_) rfl (fun w' hS => ?_) ?_
        rotate_left
        · (obtain ⟨_, hS⟩ := hS; obtain ⟨c0, _, c2, _, _, _, _⟩ := hS.spcCells; obtain ⟨_, d1, _⟩ := hS.pull2.stCells; go_simp; try with_reducible rfl)
        simp only [Act.put, List.setIfInBounds_toArray, List.set_cons_zero, List.set_cons_succ]
        refine wpL_yield (v := ?_) rfl (fun w' hS => ?_) ?_
        rotate_left
        · (obtain ⟨_, hS⟩ := hS; obtain ⟨c0, _, c2, _, _, _, _⟩ := hS.spcCells; obtain ⟨_, d1, _⟩ := hS.pull2.stCells; go_simp; try with_reducible rfl)
        simp only [Act.put, List.setIfInBounds_toArray, List.set_cons_zero, List.set_cons_succ]
        refine wpL_yield (v := ?_) rfl (fun w' hS => ?_) ?_
        rotate_left
        · (obtain ⟨_, hS⟩ := hS; obtain ⟨c0, _, c2, _, _, _, _⟩ := hS.spcCells; obtain ⟨_, d1, _⟩ := hS.pull2.stCells; go_simp; try with_reducible rfl)
        simp only [Act.put, List.setIfInBounds_toArray, List.set_cons_zero, List.set_cons_succ]
        refine wpL_yield (v := ?_) rfl (fun w' hS => ?_) ?_
        rotate_left
        · (obtain ⟨_, hS⟩ := hS; obtain ⟨c0, _, c2, _, _, _, _⟩ := hS.spcCells; obtain ⟨_, d1, _⟩ := hS.pull2.stCells; go_simp; try with_reducible rfl)
        simp only [Act.put, List.setIfInBounds_toArray, List.set_cons_zero, List.set_cons_succ]
        refine wpL_yield (v := ?_) rfl (fun w' hS => ?_) ?_
        rotate_left
        · (obtain ⟨_, hS⟩ := hS; obtain ⟨c0, _, c2, _, _, _, _⟩ := hS.spcCells; obtain ⟨_, d1, _⟩ := hS.pull2.stCells; go_simp; try with_reducible rfl)
        simp only [Act.put, List.setIfInBounds_toArray, List.set_cons_zero, List.set_cons_succ]
        refine wpL_yield (v := ?_) rfl (fun w' hS => ?_) ?_
        rotate_left
        · (obtain ⟨_, hS⟩ := hS; obtain ⟨c0, _, c2, _, _, _, _⟩ := hS.spcCells; obtain ⟨_, d1, _⟩ := hS.pull2.stCells; go_simp; try with_reducible rfl)
        simp only [Act.put, List.setIfInBounds_toArray, List.set_cons_zero, List.set_cons_succ]
        refine wpL_yield (v := ?_) rfl (fun w' hS => ?_) ?_
        rotate_left
        · (obtain ⟨_, hS⟩ := hS; obtain ⟨c0, _, c2, _, _, _, _⟩ := hS.spcCells; obtain ⟨_, d1, _⟩ := hS.pull2.stCells; go_simp; try with_reducible rfl)
        simp only [Act.put, List.setIfInBounds_toArray, List.set_cons_zero, List.set_cons_succ]
        refine wpL_yield (v := ?_) rfl (fun w' hS => ?_) ?_
        rotate_left
        · (obtain ⟨_, hS⟩ := hS; obtain ⟨c0, _, c2, _, _, _, _⟩ := hS.spcCells; obtain ⟨_, d1, _⟩ := hS.pull2.stCells; go_simp; try with_reducible rfl)
        simp only [Act.put, List.setIfInBounds_toArray, List.set_cons_zero, List.set_cons_succ]
        refine wpL_yield (v := ?_) rfl (fun w' hS => ?_) ?_
        rotate_left
        · (obtain ⟨_, hS⟩ := hS; obtain ⟨c0, _, c2, _, _, _, _⟩ := hS.spcCells; obtain ⟨_, d1, _⟩ := hS.pull2.stCells; go_simp; try with_reducible rfl)
        simp only [Act.put, List.setIfInBounds_toArray, List.set_cons_zero, List.set_cons_succ]
        have hA := (h3.drew.alloc (.cells #[] 5)).right
        refine wpL_eff rfl ?_
        go_simp
        refine ⟨⟨_, hA⟩, ?_⟩
        try simp only [Act.put, List.setIfInBounds_toArray, List.set_cons_zero, List.set_cons_succ]
        refine wpL_append_fresh hA rfl rfl rfl rfl (hb _ hA.right.right.right.right.right.right) hl0 ?_
        intro xa xc w3 h4
        refine ⟨⟨_, h4.pull3.pull3⟩, ?_⟩
        try simp only [Act.put, List.setIfInBounds_toArray, List.set_cons_zero, List.set_cons_succ]
        refine wpL_nil ?_
        refine wpL_yield (v := ?_) rfl (fun w' hS => ?_) ?_
        rotate_left
        · (go_simp; try with_reducible rfl)
        simp only [Act.put, List.setIfInBounds_toArray, List.set_cons_zero, List.set_cons_succ]
        have hcell := h4.pull5.rowCell (i := m) hmi (v := (is.getD m default).1) (by rw [List.getElem?_map, List.getD_eq_getElem?_getD, List.getElem?_eq_getElem hmi]; rfl)
        have hfr := h4.pull5.rowFrozen m
        generalize (is.getD m default).1 = old at hcell
        have h5 := h4.pull5.rowSet hmi (.slice xa b.length xc)
        have hset : (is.map Prod.fst).set m (.slice xa b.length xc) = (is.set m (.slice xa b.length xc, b)).map Prod.fst := by rw [List.map_set]
        rw [hset] at h5
        clear hset
        refine wpL_store _ _ _ rfl rfl rfl rfl (by go_simp; rfl) trivial ?_
        generalize w3.setCell ⟨gi, m, none⟩ (.slice xa b.length xc) = w4 at h5 ⊢
        clear hcell hfr h4 hA h3
        refine wpL_nil ?_
        have h6 := h5.drew
        obtain ⟨e0, _, _, _, e4, _, _⟩ := h6.pull3.spcCells
        rw [Hf.out] at e0
        have hc6 := h6.pull6.rowCell (i := tn) htl (v := .bool (ts.getD tn false)) (by rw [List.getElem?_map, List.getD_eq_getElem?_getD, List.getElem?_eq_getElem (by rw [Hts.out]; exact htl)]; rfl)
        have hf6 := h6.pull6.rowFrozen tn
        have h7 := h6.pull6.rowSet htl (.bool true)
        have hset2 : (ts.map Value.bool).set tn (.bool true) = (ts.set tn true).map Value.bool := by rw [List.map_set]
        rw [hset2] at h7
        generalize ts.getD tn false = tb at hc6
        clear hset2 h5
        go_wp2_with fail
        refine wp_region_tail 12 (by kernel_rfl) (by kernel_rfl) ?_
        simp only [List.take_succ_cons, List.take_zero, List.drop_succ_cons, List.drop_zero]
        generalize w4.drew = w5 at *
        iterate 12 still_step
        refine wpStill_nil ?_
        go_wp2_with fail
        go_ret
        refine ⟨rfl, bufA (.slice xa b.length xc) b, Bears.spn.2 ⟨was, now, .slice (some ⟨gt, 0, none⟩) len tc, ts.set tn true, bs, is.set m (.slice xa b.length xc, b), bv, .slice (some ⟨gi, 0, none⟩) is.length ic, by rw [List.length_set]; exact Hts.out, ?_, ?_⟩⟩
        · simp only
          exact (Hok.out.right (Z := bufA (.slice xa b.length xc) b)).setI hlo hhi H64.out hm Hl.out buf_tells
        · simp only [List.length_set]
          have h11 : Bears _ (rstA was Y len F * (spcObj y was now (firstB len : Int) true (.slice (some ⟨gt, 0, none⟩) len tc) (g : Int) * (stObj now bv (.slice (some ⟨gi, 0, none⟩) is.length ic) * (rowA 34 1 bv bs.length (bs.map Prod.fst) * (rowA 34 1 (.slice (some ⟨gi, 0, none⟩) is.length ic) is.length ((is.set m (.slice xa b.length xc, b)).map Prod.fst) * (rowA 4 1 (.slice (some ⟨gt, 0, none⟩) len tc) len ((ts.set tn true).map Value.bool) * (bufA (.slice xa b.length xc) b * (Y * R)))))))) := h7.cast (by ac_rfl)
          exact (h11.rstRight (Z := bufA (.slice xa b.length xc) b)).cast (by ac_rfl)
      · have hne : ((b.length : Int) != 32) = true := by rw [bne_iff_ne]; omega
        have hwr : siN len G m b = (11, G) := by unfold siN; rw [if_neg hl]
        rw [hwr]
        clear hwr hl h3 hok
        go_enter Tryz.func49, Tryz.ntmps49
        go_wp2_with fail
        go_ret
        exact ⟨rfl, Assn.emp, by rw [Assn.emp_mul]; exact h⟩
end

end Go.Proofs.YtcggloceabjjdaaGreat

/- Walks of the document's space, part 9: Read, Inode; no condition. -/
namespace Go.Proofs.YtcggloceabjjdaaGreat
open Go.RowKit Go.MapKept

/-- An inode's bytes are copied over noughts; nothing copied. -/
theorem copyIno {w : World} {g sn sc : Nat} {l s : List UInt8} {ad : Option Addr} {R : Assn} (h : Bears w (Assn.obj g (.cells (cellsV l).toArray 5 (0, 0)) * R)) (hl : l.length = 32) (hs : BytesIn w (.slice ad sn sc) s)
    (h32 : s = [] ∨ s.length = 32) :
    ∃ w' n, (Builtin.copy_ #[34, 34] 3 #[.slice (some ⟨g, 0, none⟩) 32 32, .slice ad sn sc]).run Tryz.prog w = .ok (goInt n) w' ∧
      Bears w' (Assn.obj g (.cells (cellsV (if s = [] then l else s)).toArray 5 (0, 0)) * R) := by
  rcases h32 with rfl | h32
  · obtain rfl : sn = 0 := hs.len
    exact ⟨w, 0, run_copy_none w _ _ _ 5 _ _ _ _ _ _ u_bytes (by kernel_rfl) (by simp), h⟩
  · obtain rfl : sn = s.length := hs.len
    obtain ⟨b, so, rfl, hr⟩ := hs.at (by intro e; rw [e] at h32; simp at h32)
    have hrun := run_copy_cells (P := Tryz.prog) w 34 34 3 5 g 0 32 32 ⟨b, so, none⟩ s.length sc (cellsV s) u_bytes (by kernel_rfl) (by rw [length_cellsV, h32]; rfl)
      (addr_cells hr)
      (fun j hj => by
        rw [length_cellsV] at hj
        rw [Nat.zero_add, cell_of_obj h.obj]
        simp [hl]; omega)
      (fun j hj => frozen_of_obj h.obj _) (oneCell_cellsV s)
    rw [length_cellsV] at hrun
    refine ⟨_, 32, hrun.trans (by rw [h32]; rfl), ?_⟩
    rw [if_neg (by intro e; rw [e] at h32; simp at h32)]
    have h2 := h.setCells 0 (cellsV s)
    have e : setList (cellsV l).toArray 0 (cellsV s) = (cellsV s).toArray := by
      have := setList_all (cellsV l).toArray (cellsV s).toArray (by simp [hl, h32])
      simpa using this
    rw [e] at h2
    exact h2
theorem Bears.bytesBuf {w : World} {g : Nat} {l : List UInt8} {n : Nat} {R : Assn} (h : Bears w (Assn.obj g (.cells (cellsV l).toArray 5 (0, 0)) * R)) (hl : l.length = n) (hn : n ≤ maxLen) : Bears w (bufA (.slice (some ⟨g, 0, none⟩) n n) l * R) := by
  refine Bears.bufRow ?_
  obtain ⟨F, G, H, ⟨hb, rfl⟩, hR, hd, rfl⟩ := h
  exact ⟨_, _, H, ⟨⟨by simpa using hl, .inr ⟨g, n, (cellsV l).toArray, rfl, Nat.zero_le _, hb, Nat.le_refl _, hn, by simpa using hl, by subst hl; rw [show l.length = (cellsV l).length by simp, List.toList_toArray, Nat.mul_one, List.take_length]⟩⟩, by funext b; simp [Value.ownBlock, eq_comm]⟩, hR, hd, rfl⟩

section
variable {y len : Nat} {Y R : Assn} {S S' : SpM} {w : World}

set_option maxRecDepth 100000 in
set_option maxHeartbeats 1600000 in
theorem rsread_any {t : Told} (h : Bears w (spcA y Y len S * (Y * R))) (hlo : 1024 ≤ len) (hhi : len ≤ 8192) (n : Int) (hn : -9223372036854775808 ≤ n ∧ n ≤ 9223372036854775807) (hs : S.read len n = t) :
    Calls Tryz.prog 26 #[.pointer (some ⟨y, 0, none⟩), .int .i64 n] w fun e w' => ∃ ad l cap, e = .returned (.tuple #[.slice ad l cap, .int .i64 t.e]) ∧ Bears w' (bufA (.slice ad l cap) t.b * (spcA y Y len S * (Y * R))) := by
  have hck := rscheck_any h hlo hhi n hn
  unfold SpM.read at hs
  by_cases hz : chkN len S.G n = 0
  · rw [if_pos hz] at hs
    subst hs
    obtain ⟨i, rfl, hi, hbit⟩ := chk_zero hz
    rw [hz] at hck
    have e : ((firstB len : Int) + (i : Int)).toNat = firstB len + i := by omega
    rw [e]
    have Hck := Lib.hid hck
    have Hbit := Lib.hid hbit
    clear hck hz hbit e h
    go_enter Tryz.func26, Tryz.ntmps26
    go_wp2_with fail
    refine Hck.out.mono ?_
    rintro e w2 ⟨rfl, h2⟩
    obtain ⟨was, now, tv, ts, bs, is, bv, iv, hts, hok, h3⟩ := Bears.spn.1 h2
    obtain ⟨ba, bc, rfl, _⟩ := h3.pull3.rowForm
    have hbl := hok.blen
    have hib : i < bs.length := by omega
    have hiI : (i : Int) < (bs.length : Int) := by omega
    obtain ⟨gb, rfl, _⟩ := h3.pull3.rowAt (k := i) hib
    have hat := hok.blk i hib
    rcases hat with ⟨b1, _⟩ | ⟨_, b2, b3, a, c, b4⟩
    · rw [Hbit.out] at b1; cases b1
    obtain ⟨f, hf⟩ : ∃ f, firstB len = f := ⟨_, rfl⟩
    rw [hf]
    have hfl : 749 < f := by rw [← hf]; unfold firstB mapsN; omega
    have hw2 : IntKind.i64.wrap ((f : Int) + (i : Int) - (f : Int)) = (i : Int) := by rw [show (f : Int) + (i : Int) - (f : Int) = (i : Int) by omega]; exact IntWalk.i64_in _ (by omega)
    have hnil := hok.nil_at hib
    have hbt := hok.btell _ (getDmem hib)
    generalize bs.getD i default = r at hnil hbt b2 b3 b4
    obtain ⟨rv, rs⟩ := r
    simp only at hnil hbt b2 b3 b4
    subst b4
    have hb64 : rs.length ≤ 140737488355328 := by omega
    have Hf := Lib.hid hf
    have Hb2 := Lib.hid b2
    have Hok := Lib.hid hok
    have Hts := Lib.hid hts
    have Hn : Hid (rs.length = 64) := b3
    clear hf b2 b3 hok hbl hts
    go_wp2_with fail
    refine wp_region_L (fun w' => ∃ Q, Bears w' (spcObj y was now (firstB len : Int) S.op tv (S.g : Int) * (stObj now (.slice (some ⟨gb, 0, none⟩) bs.length bc) iv * (rowA 34 1 (.slice (some ⟨gb, 0, none⟩) bs.length bc) bs.length (bs.map Prod.fst) * Q)))) 17 [(true, 1), (true, 2), (true, 3), (true, 4), (true, 5), (true, 6), (true, 7), (true, 8), (true, 9), (true, 10), (true, 11), (true, 12), (true, 13), (true, 14), (true, 15), (false, 0), (false, 16)] [(true, 17), (true, 18)] (by kernel_rfl) (by kernel_rfl) ⟨_, h3.drew⟩ ?_
    simp only [pick, List.getElem?_cons_zero, List.getElem?_cons_succ]
    refine wpL_yield (v := ?_) rfl (fun w' hS => ?_) ?_
    rotate_left
    · (obtain ⟨_, hS⟩ := hS; obtain ⟨c0, _, c2, _, _, _, _⟩ := hS.spcCells; obtain ⟨d0, _, _⟩ := hS.pull2.stCells; have hcell := hS.pull3.rowCell (i := i) hib hnil; rw [Hf.out] at c0; go_simp; try with_reducible rfl)
    simp only [Act.put, List.setIfInBounds_toArray, List.set_cons_zero, List.set_cons_succ]
    refine wpL_yield (v := ?_) rfl (fun w' hS => ?_) ?_
    rotate_left
    · (obtain ⟨_, hS⟩ := hS; obtain ⟨c0, _, c2, _, _, _, _⟩ := hS.spcCells; obtain ⟨d0, _, _⟩ := hS.pull2.stCells; have hcell := hS.pull3.rowCell (i := i) hib hnil; rw [Hf.out] at c0; go_simp; try with_reducible rfl)
    simp only [Act.put, List.setIfInBounds_toArray, List.set_cons_zero, List.set_cons_succ]
    refine wpL_yield (v := ?_) rfl (fun w' hS => ?_) ?_
    rotate_left
    · (obtain ⟨_, hS⟩ := hS; obtain ⟨c0, _, c2, _, _, _, _⟩ := hS.spcCells; obtain ⟨d0, _, _⟩ := hS.pull2.stCells; have hcell := hS.pull3.rowCell (i := i) hib hnil; rw [Hf.out] at c0; go_simp; try with_reducible rfl)
    simp only [Act.put, List.setIfInBounds_toArray, List.set_cons_zero, List.set_cons_succ]
    refine wpL_yield (v := ?_) rfl (fun w' hS => ?_) ?_
    rotate_left
    · (obtain ⟨_, hS⟩ := hS; obtain ⟨c0, _, c2, _, _, _, _⟩ := hS.spcCells; obtain ⟨d0, _, _⟩ := hS.pull2.stCells; have hcell := hS.pull3.rowCell (i := i) hib hnil; rw [Hf.out] at c0; go_simp; try with_reducible rfl)
    simp only [Act.put, List.setIfInBounds_toArray, List.set_cons_zero, List.set_cons_succ]
    refine wpL_yield (v := ?_) rfl (fun w' hS => ?_) ?_
    rotate_left
    · (obtain ⟨_, hS⟩ := hS; obtain ⟨c0, _, c2, _, _, _, _⟩ := hS.spcCells; obtain ⟨d0, _, _⟩ := hS.pull2.stCells; have hcell := hS.pull3.rowCell (i := i) hib hnil; rw [Hf.out] at c0; go_simp; try with_reducible rfl)
    simp only [Act.put, List.setIfInBounds_toArray, List.set_cons_zero, List.set_cons_succ]
    refine wpL_yield (v := ?_) rfl (fun w' hS => ?_) ?_
    rotate_left
    · (obtain ⟨_, hS⟩ := hS; obtain ⟨c0, _, c2, _, _, _, _⟩ := hS.spcCells; obtain ⟨d0, _, _⟩ := hS.pull2.stCells; have hcell := hS.pull3.rowCell (i := i) hib hnil; rw [Hf.out] at c0; go_simp; try with_reducible rfl)
    simp only [Act.put, List.setIfInBounds_toArray, List.set_cons_zero, List.set_cons_succ]
    refine wpL_yield (v := ?_) rfl (fun w' hS => ?_) ?_
    rotate_left
    · (obtain ⟨_, hS⟩ := hS; obtain ⟨c0, _, c2, _, _, _, _⟩ := hS.spcCells; obtain ⟨d0, _, _⟩ := hS.pull2.stCells; have hcell := hS.pull3.rowCell (i := i) hib hnil; rw [Hf.out] at c0; go_simp; try with_reducible rfl)
    simp only [Act.put, List.setIfInBounds_toArray, List.set_cons_zero, List.set_cons_succ]
    refine wpL_yield (v := ?_) rfl (fun w' hS => ?_) ?_
    rotate_left
    · (obtain ⟨_, hS⟩ := hS; obtain ⟨c0, _, c2, _, _, _, _⟩ := hS.spcCells; obtain ⟨d0, _, _⟩ := hS.pull2.stCells; have hcell := hS.pull3.rowCell (i := i) hib hnil; rw [Hf.out] at c0; go_simp; try with_reducible rfl)
    simp only [Act.put, List.setIfInBounds_toArray, List.set_cons_zero, List.set_cons_succ]
    refine wpL_yield (v := ?_) rfl (fun w' hS => ?_) ?_
    rotate_left
    · (obtain ⟨_, hS⟩ := hS; obtain ⟨c0, _, c2, _, _, _, _⟩ := hS.spcCells; obtain ⟨d0, _, _⟩ := hS.pull2.stCells; have hcell := hS.pull3.rowCell (i := i) hib hnil; rw [Hf.out] at c0; go_simp; try with_reducible rfl)
    simp only [Act.put, List.setIfInBounds_toArray, List.set_cons_zero, List.set_cons_succ]
    refine wpL_yield (v := ?_) rfl (fun w' hS => ?_) ?_
    rotate_left
    · (obtain ⟨_, hS⟩ := hS; obtain ⟨c0, _, c2, _, _, _, _⟩ := hS.spcCells; obtain ⟨d0, _, _⟩ := hS.pull2.stCells; have hcell := hS.pull3.rowCell (i := i) hib hnil; rw [Hf.out] at c0; go_simp; try with_reducible rfl)
    simp only [Act.put, List.setIfInBounds_toArray, List.set_cons_zero, List.set_cons_succ]
    refine wpL_yield (v := ?_) rfl (fun w' hS => ?_) ?_
    rotate_left
    · (obtain ⟨_, hS⟩ := hS; obtain ⟨c0, _, c2, _, _, _, _⟩ := hS.spcCells; obtain ⟨d0, _, _⟩ := hS.pull2.stCells; have hcell := hS.pull3.rowCell (i := i) hib hnil; rw [Hf.out] at c0; go_simp; try with_reducible rfl)
    simp only [Act.put, List.setIfInBounds_toArray, List.set_cons_zero, List.set_cons_succ]
    refine wpL_yield (v := ?_) rfl (fun w' hS => ?_) ?_
    rotate_left
    · (obtain ⟨_, hS⟩ := hS; obtain ⟨c0, _, c2, _, _, _, _⟩ := hS.spcCells; obtain ⟨d0, _, _⟩ := hS.pull2.stCells; have hcell := hS.pull3.rowCell (i := i) hib hnil; rw [Hf.out] at c0; go_simp; try with_reducible rfl)
    simp only [Act.put, List.setIfInBounds_toArray, List.set_cons_zero, List.set_cons_succ]
    refine wpL_yield (v := ?_) rfl (fun w' hS => ?_) ?_
    rotate_left
    · (obtain ⟨_, hS⟩ := hS; obtain ⟨c0, _, c2, _, _, _, _⟩ := hS.spcCells; obtain ⟨d0, _, _⟩ := hS.pull2.stCells; have hcell := hS.pull3.rowCell (i := i) hib hnil; rw [Hf.out] at c0; go_simp; try with_reducible rfl)
    simp only [Act.put, List.setIfInBounds_toArray, List.set_cons_zero, List.set_cons_succ]
    refine wpL_yield (v := ?_) rfl (fun w' hS => ?_) ?_
    rotate_left
    · (obtain ⟨_, hS⟩ := hS; obtain ⟨c0, _, c2, _, _, _, _⟩ := hS.spcCells; obtain ⟨d0, _, _⟩ := hS.pull2.stCells; have hcell := hS.pull3.rowCell (i := i) hib hnil; rw [Hf.out] at c0; go_simp; try with_reducible rfl)
    simp only [Act.put, List.setIfInBounds_toArray, List.set_cons_zero, List.set_cons_succ]
    refine wpL_yield (v := ?_) rfl (fun w' hS => ?_) ?_
    rotate_left
    · (obtain ⟨_, hS⟩ := hS; obtain ⟨c0, _, c2, _, _, _, _⟩ := hS.spcCells; obtain ⟨d0, _, _⟩ := hS.pull2.stCells; have hcell := hS.pull3.rowCell (i := i) hib hnil; rw [Hf.out] at c0; go_simp; try with_reducible rfl)
    simp only [Act.put, List.setIfInBounds_toArray, List.set_cons_zero, List.set_cons_succ]
    have hA := (h3.drew.alloc (.cells #[] 5)).right
    refine wpL_eff rfl ?_
    go_simp
    refine ⟨⟨_, hA⟩, ?_⟩
    try simp only [Act.put, List.setIfInBounds_toArray, List.set_cons_zero, List.set_cons_succ]
    have hby : BytesIn (w2.drew.alloc (.cells #[] 5)) (.slice (some a) 64 c) rs := by
      rcases hbt _ hA.right.right.right.right.right.right.left with hx | hx
      · cases hx
      · exact hx
    refine wpL_append_fresh hA rfl rfl rfl rfl hby hb64 ?_
    intro xa xc w3 h4
    refine ⟨⟨_, h4.pull4.pull4.pull4⟩, ?_⟩
    try simp only [Act.put, List.setIfInBounds_toArray, List.set_cons_zero, List.set_cons_succ]
    refine wpL_nil ?_
    refine wpL_yield (v := ?_) rfl (fun w' hS => ?_) ?_
    rotate_left
    · (go_simp; try with_reducible rfl)
    simp only [Act.put, List.setIfInBounds_toArray, List.set_cons_zero, List.set_cons_succ]
    refine wpL_yield (v := ?_) rfl (fun w' hS => ?_) ?_
    rotate_left
    · (go_simp; try with_reducible rfl)
    simp only [Act.put, List.setIfInBounds_toArray, List.set_cons_zero, List.set_cons_succ]
    refine wpL_nil ?_
    go_wp2_with fail
    go_ret2
    refine ⟨xa, 64, xc, rfl, ?_⟩
    rw [← Hb2.out]
    exact (Bears.spn.2 ⟨was, now, tv, ts, bs, is, _, iv, Hts.out, Hok.out, h4.pull2.cast (by ac_rfl)⟩ : Bears w3 (spcA y Y len S * (bufA (.slice xa 64 xc) rs * (Y * R)))).pull2
  · rw [if_neg hz] at hs
    subst hs
    have hne : (chkN len S.G n != 0) = true := by simpa using hz
    have Hck := Lib.hid hck
    clear hck hz
    go_enter Tryz.func26, Tryz.ntmps26
    go_wp2_with fail
    refine Hck.out.mono ?_
    rintro e w2 ⟨rfl, h2⟩
    go_wp2_with fail
    go_ret2
    exact ⟨none, 0, 0, rfl, h2.bufNil⟩

theorem rsinode_no (n : Int) (hr : n < 0 ∨ 256 ≤ n) (v : Value) (w : World) :
    Calls Tryz.prog 50 #[v, .int .i64 n] w fun e w' => e = .returned (.tuple #[.slice none 0 0, .int .i64 40]) ∧ w = w' := by
  rcases hr with hr | hr
  · go_enter Tryz.func50, Tryz.ntmps50
    go_wp2_with fail
    go_ret2
    exact ⟨rfl, rfl⟩
  · have hr0 : ¬ n < 0 := by omega
    go_enter Tryz.func50, Tryz.ntmps50
    go_wp2_with fail
    go_ret2
    exact ⟨rfl, rfl⟩

set_option maxRecDepth 100000 in
set_option maxHeartbeats 1600000 in
theorem rsinode_any {t : Told} (h : Bears w (spcA y Y len S * (Y * R))) (n : Int) (hs : S.inode len n = t) :
    Calls Tryz.prog 50 #[.pointer (some ⟨y, 0, none⟩), .int .i64 n] w fun e w' => ∃ ad l cap, e = .returned (.tuple #[.slice ad l cap, .int .i64 t.e]) ∧ Bears w' (bufA (.slice ad l cap) t.b * (spcA y Y len S * (Y * R))) := by
  unfold SpM.inode at hs
  by_cases hr : n < 0 ∨ 256 ≤ n
  · rw [if_pos hr] at hs
    subst hs
    refine (rsinode_no n hr _ w).mono ?_
    rintro e w' ⟨rfl, rfl⟩
    exact ⟨none, 0, 0, rfl, h.bufNil⟩
  · rw [if_neg hr] at hs
    subst hs
    obtain ⟨m, rfl⟩ : ∃ m : Nat, n = (m : Int) := ⟨n.toNat, by omega⟩
    simp only [Int.toNat_natCast]
    have hm : m < 256 := by omega
    have hr0 : ¬ (m : Int) < 0 := by omega
    have hr1 : ¬ 256 ≤ (m : Int) := by omega
    obtain ⟨was, now, tv, ts, bs, is, bv, iv, hts, hok, h3⟩ := Bears.spn.1 h
    obtain ⟨ia, ic, rfl, _⟩ := h3.pull4.rowForm
    have hil := hok.ilen
    have hmi : m < is.length := by omega
    have hmI : (m : Int) < (is.length : Int) := by omega
    obtain ⟨gi, rfl, _⟩ := h3.pull4.rowAt (k := m) hmi
    obtain ⟨e1, e2⟩ := hok.ino m hm
    obtain ⟨ra, rc, e3⟩ := hok.iform m hm
    have hz : ∀ w, (Instr.makeSlice 34 (.int .i64 32) (.int .i64 32)).run Tryz.prog w = .ok (.slice (some ⟨w.heap.size, 0, none⟩) 32 32) (w.alloc (.cells (cellsV (List.replicate 32 0)).toArray 5)) := fun _ => by kernel_rfl
    have hz32 : (List.replicate 32 (0 : UInt8)).length = 32 := by simp
    have hpd : inodeB len S.G m = if (is.getD m default).2 = [] then List.replicate 32 0 else (is.getD m default).2 := e1
    generalize List.replicate 32 (0 : UInt8) = z at hz hz32 hpd
    have h4 := h3.alloc (.cells (cellsV z).toArray 5)
    obtain ⟨_, _, c2, _, _, _, _⟩ := h4.pull2.spcCells
    obtain ⟨_, d1, _⟩ := h4.pull3.stCells
    have hcell := h4.pull5.rowCell (i := m) hmi (v := (is.getD m default).1) (by rw [List.getElem?_map, List.getD_eq_getElem?_getD, List.getElem?_eq_getElem hmi]; rfl)
    have hbt := hok.itell _ (getDmem hmi) _ h4.right.right.right.right.right.right.right.left
    have Hok := Lib.hid hok
    generalize is.getD m default = r at hcell hbt hpd e2 e3
    obtain ⟨rv, rs⟩ := r
    simp only at hcell hbt hpd e2 e3
    subst e3
    obtain ⟨w5, n5, hcp, h5⟩ := copyIno h4 hz32 hbt e2
    rw [← hpd] at h5
    have hl32 : (inodeB len S.G m).length = 32 := by
      rw [hpd]
      split
      · exact hz32
      · rename_i hne
        exact e2.resolve_left hne
    have Hl := Lib.hid hl32
    have Hts := Lib.hid hts
    clear hok hts hl32 hpd e1 e2 hbt hz32 hil hr h h3 h4
    go_enter Tryz.func50, Tryz.ntmps50
    go_wp2_with (first | (refine wpList_op rfl (exec_make rfl rfl rfl (hz _)) ?_) | (refine wpList_op rfl (exec_copy rfl rfl rfl hcp) ?_))
    go_ret2
    refine ⟨_, _, _, rfl, ?_⟩
    have h6 := h5.bytesBuf Hl.out (by unfold maxLen; omega)
    exact (Bears.spn.2 ⟨was, now, tv, ts, bs, is, bv, _, Hts.out, Hok.out, h6.pull2.cast (by ac_rfl)⟩ : Bears w5 (spcA y Y len S * (bufA (.slice (some ⟨w.heap.size, 0, none⟩) 32 32) (inodeB len S.G m) * (Y * R)))).pull2
end

end Go.Proofs.YtcggloceabjjdaaGreat

/- The space's statements: ground, kind, First of the document; no condition. -/
namespace Go.Proofs.YtcggloceabjjdaaGreat
open Go.RowKit Go.MapKept

theorem kindN_lt (c : Int) (m : Nat) (hm : 0 < m) : ∃ s : Nat, s < m ∧ (if c < 0 then (-(c + 1)) % (m : Int) else c % (m : Int)) = (s : Int) := by
  have h : 0 ≤ (if c < 0 then (-(c + 1)) % (m : Int) else c % (m : Int)) ∧ (if c < 0 then (-(c + 1)) % (m : Int) else c % (m : Int)) < (m : Int) := by
    split
    · exact ⟨Int.emod_nonneg _ (by omega), Int.emod_lt_of_pos _ (by omega)⟩
    · exact ⟨Int.emod_nonneg _ (by omega), Int.emod_lt_of_pos _ (by omega)⟩
  exact ⟨_, by omega, (Int.toNat_of_nonneg h.1).symm⟩

set_option maxHeartbeats 400000 in
theorem kind4_any (c n : Int) (w : World) (h0 : -9223372036854775808 ≤ c ∧ c ≤ 9223372036854775807) (hn : 0 < n ∧ n < 9223372036854775807) :
    Calls Tryz.prog 9 #[.int .i64 c, .int .i64 n] w fun e w' => e = .returned (.int .i64 (if c < 0 then (-(c + 1)) % n else c % n)) ∧ w = w' := by
  obtain ⟨h0, h1⟩ := h0
  obtain ⟨hn, hn1⟩ := hn
  by_cases hc : c < 0
  · have e : -(c + 1).tmod n = (-(c + 1)) % n := by rw [← Int.neg_tmod, Int.tmod_eq_emod_of_nonneg (by omega)]
    have He := Lib.hid e
    clear e
    go_enter Tryz.func9, Tryz.ntmps9
    go_wp2
    go_ret
    refine ⟨?_, rfl⟩
    exact congrArg (fun x => Ending.returned (.int .i64 x)) He.out
  · have e : c.tmod n = c % n := Int.tmod_eq_emod_of_nonneg (by omega)
    have He := Lib.hid e
    clear e
    go_enter Tryz.func9, Tryz.ntmps9
    go_wp2
    go_ret
    refine ⟨?_, rfl⟩
    first | rfl | exact congrArg (fun x => Ending.returned (.int .i64 x)) He.out | exact congrArg (fun x => Ending.returned (.int .i64 x)) (He.out.trans (if_neg (by omega)).symm)

set_option maxRecDepth 100000 in
set_option maxHeartbeats 400000 in
theorem ground4_any {R : Assn} {w : World} (h : Bears w R) :
    Calls Tryz.prog 6 #[.int .i64 1024] w fun e w' => ∃ p s d, e = .returned (.tuple #[ptrB p, ptrB s]) ∧ d.fuse = -1 ∧ Bears w' (spA s p d 1024 0 [] false (freshF 1024) (freshF 1024) * R) := by
  go_enter Tryz.func6, Tryz.ntmps6
  go_wp2_with fail
  refine (new_ok h 1024 (by omega) (by omega)).mono ?_
  rintro e w1 ⟨p, rfl, h1⟩
  go_wp2_with fail
  refine (format_new (by omega) (by omega) h1).mono ?_
  rintro e w2 ⟨d, rfl, hL, hf, hl, h2⟩
  have Hl := Lib.hid hl
  have Hf := Lib.hid hf
  clear hl hf
  go_wp2_with fail
  refine (space_opens h2 hL (by rw [Hl.out]; omega) (by rw [Hl.out]; omega) (by rw [Hl.out]; rfl) (freshF64 1024) (by omega)).mono ?_
  rintro e w3 ⟨s, rfl, h3⟩
  rw [Hl.out] at h3
  go_wp2_with fail
  go_ret2
  exact ⟨p, s, d, rfl, Hf.out, h3⟩

set_option maxHeartbeats 400000 in
theorem rfirst_any (n : Int) (w : World) (hn : -9223372036854775808 ≤ n ∧ n ≤ 9223372036854775807) :
    Calls Tryz.prog 35 #[.int .i64 n] w fun e w' => e = .returned (.int .i64 (firstN n)) ∧ w = w' := by
  by_cases h : n < 1024 ∨ 8192 < n
  · have e1 : firstN n = 0 := by unfold firstN; rw [if_pos h]
    rw [e1]
    by_cases h1 : n < 1024
    · have d1 : decide (n < 1024) = true := decide_eq_true h1
      go_enter Tryz.func35, Tryz.ntmps35
      go_wp2
      go_ret
      exact ⟨rfl, rfl⟩
    · have d1 : decide (n < 1024) = false := decide_eq_false h1
      have d2 : decide (8192 < n) = true := decide_eq_true (by omega)
      go_enter Tryz.func35, Tryz.ntmps35
      go_wp2
      go_ret
      exact ⟨rfl, rfl⟩
  · have e1 : firstN n = 621 + (n + 511) / 512 + 128 := by unfold firstN; rw [if_neg h]
    rw [e1]
    have d1 : decide (n < 1024) = false := decide_eq_false (by omega)
    have d2 : decide (8192 < n) = false := decide_eq_false (by omega)
    have q1 : (n + 511).tdiv 512 = (n + 511) / 512 := Int.tdiv_eq_ediv_of_nonneg (by omega)
    clear e1
    go_enter Tryz.func35, Tryz.ntmps35
    go_wp2
    go_ret
    exact ⟨rfl, rfl⟩

end Go.Proofs.YtcggloceabjjdaaGreat

/- The space's statements: the document's examples; no condition. -/
namespace Go.Proofs.YtcggloceabjjdaaGreat
open Go.RowKit Go.MapKept

theorem first1023 : firstN 1023 = 0 := by decide
theorem first1024 : firstN 1024 = 751 := by decide
theorem first8192 : firstN 8192 = 765 := by decide
theorem firstB1024 : firstB 1024 = 751 := by decide

set_option maxRecDepth 100000 in
set_option maxHeartbeats 2000000 in
theorem shown4_any {R : Assn} {w : World} (h : Bears w R) :
    Calls Tryz.prog 5 #[] w fun e w' => e = .returned (.bool true) ∧ Bears w' R := by
  have g0 := freshF64 1024
  have b0 := bitN_fresh 1024
  have e0 : blkN 1024 (freshF 1024) = 273 := by rw [blk_fresh]; decide
  have i0 : ifreeTo 1024 (freshF 1024) 256 = 256 := ifreeTo_fresh 1024 1024 256
  obtain ⟨G0, hG0⟩ : ∃ G, freshF 1024 = G := ⟨_, rfl⟩
  rw [hG0] at g0 b0 e0 i0
  have fb := firstB1024
  have g1 := alloc64 g0 751
  have b1 : ∀ m, m < 1024 → bitN (allocG G0 751) m = if m = 751 then true else bitN G0 m := fun m hm => bitN_alloc (len := 1024) g0 (by omega) m hm
  have e1 := blk_alloc (len := 1024) (n := 751) g0 (by omega) (by omega) (by decide) (b0 751)
  obtain ⟨G1, hG1⟩ : ∃ G, allocG G0 751 = G := ⟨_, rfl⟩
  rw [hG1] at g1 b1 e1
  have g2 := alloc64 g1 752
  have b2 : ∀ m, m < 1024 → bitN (allocG G1 752) m = if m = 752 then true else bitN G1 m := fun m hm => bitN_alloc (len := 1024) g1 (by omega) m hm
  have e2 := blk_alloc (len := 1024) (n := 752) g1 (by omega) (by omega) (by decide) (by rw [b1 752 (by omega), if_neg (by omega), b0])
  obtain ⟨G2, hG2⟩ : ∃ G, allocG G1 752 = G := ⟨_, rfl⟩
  rw [hG2] at g2 b2 e2
  have g3 := free64 g2 751
  have b3 : ∀ m, bitN (freeG G2 751) m = if m = 751 then false else bitN G2 m := fun m => bitN_free g2 m
  have u2 : bitN G2 751 = true := by rw [b2 751 (by omega), if_neg (by omega), b1 751 (by omega), if_pos rfl]
  have e3 := blk_free (len := 1024) (n := 751) g2 (by omega) u2
  obtain ⟨G3, hG3⟩ : ∃ G, freeG G2 751 = G := ⟨_, rfl⟩
  rw [hG3] at g3 b3 e3
  have u3 : bitN G3 751 = false := by rw [b3 751, if_pos rfl]
  have g4 := alloc64 g3 751
  have b4 : ∀ m, m < 1024 → bitN (allocG G3 751) m = if m = 751 then true else bitN G3 m := fun m hm => bitN_alloc (len := 1024) g3 (by omega) m hm
  have e4 := blk_alloc (len := 1024) (n := 751) g3 (by omega) (by omega) (by decide) u3
  obtain ⟨G4, hG4⟩ : ∃ G, allocG G3 751 = G := ⟨_, rfl⟩
  rw [hG4] at g4 b4 e4
  have u4 : bitN G4 751 = true := by rw [b4 751 (by omega), if_pos rfl]
  have n4 : bitN G4 760 = false := by rw [b4 760 (by omega), if_neg (by omega), b3, if_neg (by omega), b2 760 (by omega), if_neg (by omega), b1 760 (by omega), if_neg (by omega), b0]
  have x4 : blkN 1024 G4 = 271 := by omega
  have c750 : chkN 1024 G4 750 = 40 := by unfold chkN; rw [if_pos (.inl (by rw [fb]; omega))]
  have c760 : chkN 1024 G4 760 = 41 := chk_unused (n := 760) (by omega) (by omega) n4
  have c751 : chkN 1024 G4 751 = 0 := chk_used (n := 751) (by omega) (by omega) u4
  have a1 : ∀ m, firstB 1024 ≤ m → m < 751 → bitN G0 m = true := fun m h1 h2 => absurd h1 (by omega)
  have a2 : ∀ m, firstB 1024 ≤ m → m < 752 → bitN G1 m = true := fun m h1 h2 => by rw [b1 m (by omega), if_pos (by omega)]
  have u1 : bitN G1 752 = false := by rw [b1 752 (by omega), if_neg (by omega), b0]
  have a4 : ∀ m, firstB 1024 ≤ m → m < 751 → bitN G3 m = true := fun m h1 h2 => absurd h1 (by omega)
  have z0 := b0 751
  have f1 : firstB 1024 ≤ 751 := by omega
  have f2 : firstB 1024 ≤ 752 := by omega
  have H := Lib.hid (And.intro hG0 (And.intro hG1 (And.intro hG2 (And.intro hG3 hG4))))
  have HE := Lib.hid (And.intro e0 (And.intro i0 x4))
  have HU := Lib.hid (And.intro z0 (And.intro u1 (And.intro u2 (And.intro u3 u4))))
  have HA := Lib.hid (And.intro a1 (And.intro a2 a4))
  have HC := Lib.hid (And.intro c750 (And.intro c760 c751))
  clear g0 b0 e0 i0 hG0 fb g1 b1 e1 hG1 g2 b2 e2 hG2 g3 b3 u2 e3 hG3 u3 g4 b4 e4 hG4 u4 n4 x4 c750 c760 c751 a1 a2 u1 a4 z0
  go_enter Tryz.func5, Tryz.ntmps5
  go_wp2_with fail
  refine (ground4_any h).mono ?_
  rintro e w1 ⟨p, s, d, rfl, _, h1⟩
  rw [H.out.1] at h1
  go_wp2_with fail
  refine (first_any 1023 _ (by omega)).mono ?_
  rintro e w2 ⟨rfl, rfl⟩
  rw [first1023]
  go_wp2_with fail
  refine (first_any 1024 _ (by omega)).mono ?_
  rintro e w3 ⟨rfl, rfl⟩
  rw [first1024]
  go_wp2_with fail
  refine (first_any 8192 _ (by omega)).mono ?_
  rintro e w4 ⟨rfl, rfl⟩
  rw [first8192]
  go_wp2_with fail
  refine (sblocks_any h1).mono ?_
  rintro e w5 ⟨rfl, h5⟩
  rw [HE.out.1]
  go_wp2_with fail
  refine (sinodes_any h5).mono ?_
  rintro e w6 ⟨rfl, h6⟩
  rw [HE.out.2.1]
  go_wp2_with fail
  refine (sgroups_any h6).mono ?_
  rintro e w7 ⟨rfl, h7⟩
  go_wp2_with fail
  refine (salloc_closed h7).mono ?_
  rintro e w8 ⟨rfl, h8⟩
  go_wp2_with fail
  refine (sbegin_any h8).mono ?_
  rintro e w9 ⟨rfl, h9⟩
  go_wp2_with fail
  refine (salloc_at (n := 751) h9 f1 (by omega) HU.out.1 HA.out.1).mono ?_
  rintro e w10 ⟨rfl, h10⟩
  rw [H.out.2.1] at h10
  go_wp2_with fail
  refine (salloc_at (n := 752) h10 f2 (by omega) HU.out.2.1 HA.out.2.1).mono ?_
  rintro e w11 ⟨rfl, h11⟩
  rw [H.out.2.2.1] at h11
  go_wp2_with fail
  refine (sfree_at (n := 751) h11 f1 (by omega) HU.out.2.2.1).mono ?_
  rintro e w12 ⟨rfl, h12⟩
  rw [H.out.2.2.2.1] at h12
  go_wp2_with fail
  refine (salloc_at (n := 751) h12 f1 (by omega) HU.out.2.2.2.1 HA.out.2.2).mono ?_
  rintro e w13 ⟨rfl, h13⟩
  rw [H.out.2.2.2.2] at h13
  go_wp2_with fail
  refine (sblocks_any h13).mono ?_
  rintro e w14 ⟨rfl, h14⟩
  rw [HE.out.2.2]
  go_wp2_with fail
  refine (sfree_bad h14 750 HC.out.1 (by decide)).mono ?_
  rintro e w15 ⟨rfl, h15⟩
  go_wp2_with fail
  refine (sfree_bad h15 760 HC.out.2.1 (by decide)).mono ?_
  rintro e w16 ⟨rfl, h16⟩
  go_wp2_with fail
  refine (sread_bad h16 760 HC.out.2.1 (by decide)).mono ?_
  rintro e w17 ⟨rfl, h17⟩
  go_wp2_with fail
  have h18 : Bears (w17.alloc (.cells #[.int .u8 1, .int .u8 2, .int .u8 3] 5)) _ := h17.alloc (.cells (cellsV [1, 2, 3]).toArray 5)
  refine (swrites_any h18.pull2 751 rfl HC.out.2.2 f1 (by omega) (b := [1, 2, 3]) (BytesIn.tells _ _ rfl)).mono ?_
  rintro e w18 ⟨rfl, h19⟩
  rw [show (wrN G4 751 [1, 2, 3]).1 = 11 from rfl]
  go_wp2_with fail
  go_ret
  exact ⟨rfl, h19.right.right⟩

end Go.Proofs.YtcggloceabjjdaaGreat
