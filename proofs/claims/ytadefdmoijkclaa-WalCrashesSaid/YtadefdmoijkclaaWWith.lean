/- Rows of sectors behind a group; no condition. -/
import Derived.Test.YtadefdmoijkclaaWRows
namespace Go.Proofs.Ytadefdmoijkclaa
open Go.RowKit Go.MapKept

theorem u_bytes' : Try.prog.underlying 34 = some (.slice 5) := by kernel_rfl

set_option maxRecDepth 100000 in
set_option maxHeartbeats 1600000 in
theorem with_any {F : Nat → Sec} {Y R : Assn} {w : World} {v : Value} {rs : List (Value × Sec)} {a : Nat} (ha : a + 40 ≤ 100) (hY : RowsV Y rs (secs F a)) (h : Bears w (rowA 34 1 v 60 (rs.map Prod.fst) * (Y * R)))
    {l : List PutM} {ad : Option Addr} {cap : Nat} (tl : R.Tells (fun w => PutsIn w (.slice ad l.length cap) l)) (hok : GroupOk 100 a 40 l) :
    Calls Try.prog 24 #[v, .int .i64 a, .slice ad l.length cap] w fun e w' => ∃ v' rs' Y', e = .returned v' ∧ RowsV Y' rs' (secs (applyPuts F l) a) ∧ Bears w' (rowA 34 1 v' 60 (rs'.map Prod.fst) * (Y' * R)) := by
  obtain ⟨ga, gc, rfl, _, _, hr⟩ := h.rowForm
  obtain ⟨g, rfl, _⟩ := hr 0 (by omega)
  clear hr
  have hlen : l.length ≤ 100 := by
    have h1 := hok.room
    rw [show roomN 40 = 37 by decide] at h1
    omega
  have h1 := h.emptyRow 34 1
  have hrl : rs.length = 60 := by rw [hY.length, secsTo_length]
  have hnews : ∀ j u, (rs.map Prod.fst)[j]? = some u → (w.alloc (.cells #[] 34)).cell? ((⟨g, 0, none⟩ : Addr).add j) = some u := fun j u hu => h1.right.row.cells (g := g) rfl j u hu
  obtain ⟨i0, hi0, hz0, hz1, hz2⟩ := info_parts i_row
  obtain ⟨j0, hj0, ky0, ky1, ky2⟩ := info_parts i_byte
  have hone : ∀ u ∈ rs.map Prod.fst, u.oneCell' = true := by intro u hu; obtain ⟨r, hr, rfl⟩ := List.mem_map.1 hu; exact hY.one r hr
  go_enter Try.func24, Try.ntmps24
  go_wp2_with (at_builtin; refine wpList_append_bears h1 rfl rfl u_rows hi0 hz0 hz1 hz2 (by simp [Value.cells]) (by decide) rfl (ad := ⟨g, 0, none⟩) (m := 60) (c := gc) (news := rs.map Prod.fst) rfl (by simp [hrl]) hnews hone (by unfold maxLen; omega) (by omega) ?_; intro a' c' w2 h2)
  have h3 : Bears w2 (rowA 34 1 (.slice a' 60 c') 60 (rs.map Prod.fst) * (Y * R)) := (h2.pull2.right).cast (by simp)
  obtain ⟨ga2, gc2, he, _, _, hr⟩ := h3.rowForm
  simp only [Value.slice.injEq] at he
  obtain ⟨rfl, _, rfl⟩ := he
  obtain ⟨g2, rfl, _⟩ := hr 0 (by omega)
  clear hr hnews h1 h2 h
  have Hone := Lib.hid hone
  clear hone
  go_loopw [8] (fun i wr => ∃ k : Nat, k ≤ l.length ∧ i = .int .i64 k ∧ ∃ (rs' : List (Value × Sec)) (Y' : Assn), RowsV Y' rs' (secs (applyPuts F (l.take k)) a) ∧ Bears wr (rowA 34 1 (.slice (some ⟨g2, 0, none⟩) 60 c') 60 (rs'.map Prod.fst) * (Y' * R)))
    (fun i _ => l.length - (intOf i).toNat)
  case atStart => exact ⟨0, by omega, rfl, rs, Y, hY, h3⟩
  case round =>
    clear h3 hY
    obtain ⟨k, hk, rfl, rs', Y', hY, h4⟩ := hrel
    by_cases hlt : k < l.length
    · have h5 := h4.emptyRow 5 1
      obtain ⟨hb64, hs0, hs1, hs2⟩ := hok.ok _ (getD_mem hlt)
      obtain ⟨b, o, rfl, q1, q2, q3⟩ := (tl _ h4.right.right).cells hlt
      obtain ⟨b', o', he, r1, r2, r3⟩ := (tl _ h5.right.right.right).cells hlt
      cases he
      have htk : l.take (k + 1) = l.take k ++ [l.getD k default] := by
        rw [List.take_succ_eq_append_getElem hlt]
        simp [hlt]
      generalize hc : l.getD k default = pt at q1 q2 q3 r1 r2 r3 hb64 hs0 hs1 hs2 htk
      obtain ⟨sec, bs, ad', cap'⟩ := pt
      simp only [PutM.val] at q1 q2 q3 r1 r2 r3 hb64 hs0 hs1 hs2 htk
      obtain ⟨i, rfl⟩ := Int.eq_ofNat_of_zero_le hs0
      obtain ⟨kk, hkk, hkk2⟩ : ∃ kk : Nat, ((i < a ∧ kk = i) ∨ (a + 40 ≤ i ∧ kk = i - 40)) ∧ kk < 60 := by
        rcases Nat.lt_or_ge i a with e | e
        · exact ⟨i, .inl ⟨e, rfl⟩, by omega⟩
        · exact ⟨i - 40, .inr ⟨by omega, rfl⟩, by omega⟩
      have hset := secs_set (F := applyPuts F (l.take k)) (a := a) (i := i) (b := bs) (by omega) (by omega) hkk
      have hap : applyPuts F (l.take (k + 1)) = updS (applyPuts F (l.take k)) i bs := by rw [htk, applyPuts_snoc]; rfl
      rw [← hap] at hset
      obtain ⟨bb, bo, rfl, hr4⟩ := r3.at (ne_nil_of_64 hb64)
      have hnews : ∀ j u, (cellsV bs)[j]? = some u → (wr.alloc (.cells #[] 5)).cell? ((⟨bb, bo, none⟩ : Addr).add j) = some u := fun j u hu => by rw [Addr.add_mid]; exact hr4 j u hu
      have Hset := Lib.hid hset
      have Hb64 := Lib.hid hb64
      have hrl' : rs'.length = 60 := by rw [hY.length, secsTo_length]
      clear hap htk hset q3 r3 hc hb64
      obtain ⟨old, hold⟩ : ∃ old, (rs'.map Prod.fst)[kk]? = some old := ⟨_, List.getElem?_eq_getElem (by simp [hrl']; omega)⟩
      have Hold := Lib.hid hold
      clear hold
      rcases hkk with ⟨e, rfl⟩ | ⟨e, rfl⟩
      · have e1 : (kk : Int) < (a : Int) + 40 := by omega
        go_wp2_with (at_builtin; refine wpList_append_bears h5 rfl rfl u_bytes' hj0 ky0 ky1 ky2 (by simp [Value.cells]) (by decide) rfl (ad := ⟨bb, bo, none⟩) (m := bs.length) (c := cap') (news := cellsV bs) rfl (by simp) hnews (oneCell_cellsV bs) (by unfold maxLen; rw [Hb64.out]; decide) (by rw [Hb64.out]; decide) ?_; intro a7 c7 w7 h7; simp only [Nat.zero_add, List.nil_append] at h7; obtain ⟨hc7, hf7⟩ := h7.pull2.rowCell hkk2; rw [Hold.out] at hc7)
        go_roundw
        case rel =>
          have hst := hY.set (Z := rowA 5 1 (.slice a7 bs.length c7) bs.length (cellsV bs)) (v := .slice a7 bs.length c7) (s := bs) kk rfl (rowBytes_tells rfl)
          rw [Hset.out] at hst
          exact ⟨k + 1, hlt, by go_num, _, _, hst, (h7.pull2.rowSet hkk2 (.slice a7 bs.length c7)).cast (by rw [List.map_set]; ac_rfl)⟩
        case measure => simp [intOf]; omega
      · have e1 : (a : Int) + 40 ≤ (i : Int) := by omega
        go_wp2_with (at_builtin; refine wpList_append_bears h5 rfl rfl u_bytes' hj0 ky0 ky1 ky2 (by simp [Value.cells]) (by decide) rfl (ad := ⟨bb, bo, none⟩) (m := bs.length) (c := cap') (news := cellsV bs) rfl (by simp) hnews (oneCell_cellsV bs) (by unfold maxLen; rw [Hb64.out]; decide) (by rw [Hb64.out]; decide) ?_; intro a7 c7 w7 h7; simp only [Nat.zero_add, List.nil_append] at h7; obtain ⟨hc7, hf7⟩ := h7.pull2.rowCell hkk2; rw [Hold.out] at hc7)
        go_roundw
        case rel =>
          have hst := hY.set (Z := rowA 5 1 (.slice a7 bs.length c7) bs.length (cellsV bs)) (v := .slice a7 bs.length c7) (s := bs) (i - 40) rfl (rowBytes_tells rfl)
          rw [Hset.out] at hst
          exact ⟨k + 1, hlt, by go_num, _, _, hst, (h7.pull2.rowSet hkk2 (.slice a7 bs.length c7)).cast (by rw [List.map_set]; ac_rfl)⟩
        case measure => simp [intOf]; omega
    · obtain rfl : k = l.length := by omega
      rw [List.take_length] at hY
      go_wp2_with fail
      go_ret
      exact ⟨_, rs', Y', rfl, hY, h4⟩

end Go.Proofs.Ytadefdmoijkclaa
