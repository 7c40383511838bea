/- The log's statements: what a group is; no condition. -/
import Derived.Test.YtadefdmoijkclaaWLawB
namespace Go.Proofs.Ytadefdmoijkclaa
open Go.RowKit Go.MapKept

theorem any_take {l : List PutM} {k : Nat} {x : Int} (hk : k ≤ l.length) : ((l.take k).any fun q => q.sector == x) = true ↔ ∃ j, j < k ∧ (l.getD j default).sector = x := by
  rw [List.any_eq_true]
  constructor
  · rintro ⟨q, hq, e⟩
    obtain ⟨j, hj, rfl⟩ := List.mem_iff_getElem.1 hq
    have hj' := hj
    simp only [List.length_take] at hj'
    refine ⟨j, by omega, ?_⟩
    rw [List.getD_eq_getElem?_getD, List.getElem?_eq_getElem (by omega)]
    simpa using e
  · rintro ⟨j, hj, e⟩
    refine ⟨l.getD j default, ?_, by simpa using e⟩
    rw [List.getD_eq_getElem?_getD, List.getElem?_eq_getElem (by omega)]
    exact List.mem_iff_getElem.2 ⟨j, by simp; omega, by simp⟩

theorem wOk_iff {n a s : Nat} {seen : List PutM} {q : PutM} : wOk n a s seen q = true ↔ (seen.any fun p => p.sector == q.sector) = false ∧ ¬ ((a : Int) ≤ q.sector ∧ q.sector < a + s) ∧ 0 ≤ q.sector ∧ q.sector < n ∧ (q.bytes.length : Int) = 64 := by
  unfold wOk
  simp only [Bool.and_eq_true, Bool.not_eq_true', decide_eq_true_eq, beq_iff_eq, Bool.and_eq_false_iff, decide_eq_false_iff_not]
  constructor
  · rintro ⟨⟨⟨⟨h1, h2⟩, h3⟩, h4⟩, h5⟩
    exact ⟨h1, fun h => h2.elim (fun k => k h.1) (fun k => k h.2), h3, h4, by omega⟩
  · rintro ⟨h1, h2, h3, h4, h5⟩
    exact ⟨⟨⟨⟨h1, by omega⟩, h3⟩, h4⟩, by omega⟩
theorem wOk_bad {n a s : Nat} {seen : List PutM} {q : PutM} (h : ¬ (¬ ((a : Int) ≤ q.sector ∧ q.sector < a + s) ∧ 0 ≤ q.sector ∧ q.sector < n ∧ (q.bytes.length : Int) = 64)) : wOk n a s seen q = false := by
  rw [← Bool.not_eq_true]
  intro h'
  exact h (wOk_iff.1 h').2

set_option maxRecDepth 100000 in
set_option maxHeartbeats 1600000 in
theorem group_any {R : Assn} {w : World} (h : Bears w R) (l : List PutM) (ad : Option Addr) (cap a n : Nat) (hl : R.Tells (fun w => PutsIn w (.slice ad l.length cap) l))
    (hlen : l.length ≤ 9223372036854775807) (ha : a ≤ 100000) (_hn : n ≤ 100000) :
    Calls Try.prog 22 #[.slice ad l.length cap, .int .i64 a, .int .i64 n] w fun e w' => e = .returned (.bool (wMay n a 40 l)) ∧ Bears w' R := by
  have hr : roomN 40 = 37 := by decide
  go_enter Try.func22, Try.ntmps22
  go_wp2_with fail
  refine (room_any w 40 (by omega)).mono ?_
  rintro e w1 ⟨rfl, rfl⟩
  rw [show roomN (40 : Int).toNat = 37 from hr]
  by_cases hbig : 37 < l.length
  · have hfin : wMay n a 40 l = false := by unfold wMay; rw [hr]; simp [hbig]
    have Hfin := Lib.hid hfin
    clear hfin
    go_wp2_with fail
    go_ret
    rw [Hfin.out]
    exact ⟨rfl, h⟩
  · go_wp2_with fail
    go_loopw [7] (fun i wr => ∃ k : Nat, k ≤ l.length ∧ i = .int .i64 k ∧ (∀ j, j < k → wOk n a 40 (l.take j) (l.getD j default) = true) ∧ Bears wr R)
      (fun i _ => l.length - (intOf i).toNat)
    case atStart => exact ⟨0, by omega, rfl, fun j hj => absurd hj (by omega), h⟩
    case round =>
      obtain ⟨k, hk, rfl, hok, h3⟩ := hrel
      by_cases hlt : k < l.length
      · obtain ⟨b, o, rfl, q1, q2, q3⟩ := (hl _ h3).cells hlt
        have hwn := wMay_no (len := n) (a := a) (s := 40) hlt rfl
        generalize hc : l.getD k default = pt at q1 q2 hwn
        obtain ⟨sec, bs, ad', cap'⟩ := pt
        simp only [PutM.val] at q1 q2
        have h4 := h3.alloc (.cells #[.int .i64 sec, .slice ad' bs.length cap'] 37)
        have Hc := Lib.hid hc
        have Hwn := Lib.hid hwn
        have Hok := Lib.hid hok
        clear hc q3 hwn hok
        go_wp2_with fail
        all_goals try simp only [bne_iff_ne, ne_eq, bne_eq_false_iff_eq] at *
        all_goals first
          | (go_ret
             rw [Hwn.out (wOk_bad (by simp only; omega))]
             exact ⟨rfl, h4.right⟩)
          | skip
        all_goals
          generalize wr.alloc (.cells #[.int .i64 sec, .slice ad' bs.length cap'] 37) = w4 at h4
          generalize wr.heap.size = c at h4
          go_loopw [9] (fun i wr' => ∃ j : Nat, j ≤ k ∧ i = .int .i64 j ∧ (∀ m, m < j → (l.getD m default).sector ≠ sec) ∧ Bears wr' (Assn.obj c (.cells #[.int .i64 sec, .slice ad' bs.length cap'] 37 (0, 0)) * R))
            (fun i _ => k - (intOf i).toNat)
          case atStart => exact ⟨0, by omega, rfl, fun m hm => absurd hm (by omega), h4⟩
          case round =>
            obtain ⟨j, hj, rfl, hno, h5⟩ := hrel
            by_cases hjk : j < k
            · obtain ⟨b', o', he, r1, r2, r3⟩ := (hl _ h5.right).cells (k := j) (by omega)
              cases he
              obtain ⟨s2, hs2⟩ : ∃ s2, (l.getD j default).sector = s2 := ⟨_, rfl⟩
              have Hs2 := Lib.hid hs2
              have Hno := Lib.hid hno
              have hjl : j < l.length := by omega
              clear hs2 r1 r2 r3 hno
              go_wp2_with fail
              refine wp_region_L (fun w' => Bears w' (Assn.obj c (.cells #[.int .i64 sec, .slice ad' bs.length cap'] 37 (0, 0)) * R)) 8
                [(true, 0), (true, 1), (true, 2), (true, 3), (true, 4), (true, 5), (true, 6), (true, 7)] [] (by kernel_rfl) (by kernel_rfl) h5.drew ?_
              simp only [pick, List.getElem?_cons_zero, List.getElem?_cons_succ]
              refine wpL_yield (v := ?_) rfl (fun w' hS => ?_) ?_
              rotate_left
              · (obtain ⟨p0, p1⟩ := put_cells hS; obtain ⟨b'', o'', he, r1, _, _⟩ := (hl _ hS.right).cells (k := j) (by omega); cases he; rw [Hs2.out] at r1; go_simp; try with_reducible rfl)
              simp only [Act.put, List.setIfInBounds_toArray, List.set_cons_zero, List.set_cons_succ]
              refine wpL_yield (v := ?_) rfl (fun w' hS => ?_) ?_
              rotate_left
              · (obtain ⟨p0, p1⟩ := put_cells hS; obtain ⟨b'', o'', he, r1, _, _⟩ := (hl _ hS.right).cells (k := j) (by omega); cases he; rw [Hs2.out] at r1; go_simp; try with_reducible rfl)
              simp only [Act.put, List.setIfInBounds_toArray, List.set_cons_zero, List.set_cons_succ]
              refine wpL_yield (v := ?_) rfl (fun w' hS => ?_) ?_
              rotate_left
              · (obtain ⟨p0, p1⟩ := put_cells hS; obtain ⟨b'', o'', he, r1, _, _⟩ := (hl _ hS.right).cells (k := j) (by omega); cases he; rw [Hs2.out] at r1; go_simp; try with_reducible rfl)
              simp only [Act.put, List.setIfInBounds_toArray, List.set_cons_zero, List.set_cons_succ]
              refine wpL_yield (v := ?_) rfl (fun w' hS => ?_) ?_
              rotate_left
              · (obtain ⟨p0, p1⟩ := put_cells hS; obtain ⟨b'', o'', he, r1, _, _⟩ := (hl _ hS.right).cells (k := j) (by omega); cases he; rw [Hs2.out] at r1; go_simp; try with_reducible rfl)
              simp only [Act.put, List.setIfInBounds_toArray, List.set_cons_zero, List.set_cons_succ]
              refine wpL_yield (v := ?_) rfl (fun w' hS => ?_) ?_
              rotate_left
              · (obtain ⟨p0, p1⟩ := put_cells hS; obtain ⟨b'', o'', he, r1, _, _⟩ := (hl _ hS.right).cells (k := j) (by omega); cases he; rw [Hs2.out] at r1; go_simp; try with_reducible rfl)
              simp only [Act.put, List.setIfInBounds_toArray, List.set_cons_zero, List.set_cons_succ]
              refine wpL_yield (v := ?_) rfl (fun w' hS => ?_) ?_
              rotate_left
              · (obtain ⟨p0, p1⟩ := put_cells hS; obtain ⟨b'', o'', he, r1, _, _⟩ := (hl _ hS.right).cells (k := j) (by omega); cases he; rw [Hs2.out] at r1; go_simp; try with_reducible rfl)
              simp only [Act.put, List.setIfInBounds_toArray, List.set_cons_zero, List.set_cons_succ]
              refine wpL_yield (v := ?_) rfl (fun w' hS => ?_) ?_
              rotate_left
              · (obtain ⟨p0, p1⟩ := put_cells hS; obtain ⟨b'', o'', he, r1, _, _⟩ := (hl _ hS.right).cells (k := j) (by omega); cases he; rw [Hs2.out] at r1; go_simp; try with_reducible rfl)
              simp only [Act.put, List.setIfInBounds_toArray, List.set_cons_zero, List.set_cons_succ]
              refine wpL_yield (v := ?_) rfl (fun w' hS => ?_) ?_
              rotate_left
              · (obtain ⟨p0, p1⟩ := put_cells hS; obtain ⟨b'', o'', he, r1, _, _⟩ := (hl _ hS.right).cells (k := j) (by omega); cases he; rw [Hs2.out] at r1; go_simp; try with_reducible rfl)
              simp only [Act.put, List.setIfInBounds_toArray, List.set_cons_zero, List.set_cons_succ]
              refine wpL_nil ?_
              refine wpL_nil ?_
              by_cases heq : s2 = sec
              · go_wp2_with fail
                go_ret
                rw [Hwn.out (by
                  rw [← Bool.not_eq_true]
                  intro h'
                  have h1 := (wOk_iff.1 h').1
                  rw [(any_take (l := l) (k := k) (x := sec) (by omega)).2 ⟨j, hjk, Hs2.out.trans heq⟩] at h1
                  cases h1)]
                exact ⟨rfl, h5.drew.right⟩
              · go_wp2_with fail
                go_roundw
                case rel =>
                  refine ⟨j + 1, hjk, by go_num, fun m hm => ?_, h5.drew⟩
                  rcases Nat.lt_succ_iff_lt_or_eq.1 hm with hm | rfl
                  · exact Hno.out m hm
                  · rw [Hs2.out]; exact heq
                case measure => simp [intOf]; omega
            · obtain rfl : j = k := by omega
              have Hno := Lib.hid hno
              clear hno
              go_wp2_with fail
              go_roundw
              case rel =>
                refine ⟨j + 1, hlt, by go_num, fun m hm => ?_, h5.right⟩
                rcases Nat.lt_succ_iff_lt_or_eq.1 hm with hm | rfl
                · exact Hok.out m hm
                · rw [Hc.out]
                  refine wOk_iff.2 ⟨?_, by simp only; omega, by simp only; omega, by simp only; omega, by simp only; omega⟩
                  rw [← Bool.not_eq_true, any_take (by omega)]
                  rintro ⟨i, hi, e⟩
                  exact Hno.out i hi e
              case measure => simp [intOf]; omega
      · obtain rfl : k = l.length := by omega
        have hall : wMayTo n a 40 [] l = true := (wMayTo_true l []).2 (fun j hj => by rw [List.nil_append]; exact hok j hj)
        have Hall := Lib.hid hall
        clear hall hok
        go_wp2_with fail
        go_ret
        refine ⟨?_, h3⟩
        unfold wMay
        rw [Hall.out, hr]
        simp [Nat.not_lt.1 hbig]

end Go.Proofs.Ytadefdmoijkclaa
