/- Rows of sectors: how they lie in memory, and what the log's statements do with them; no condition. -/
import Derived.Test.YtadefdmoijkclaaWGrp
namespace Go.Proofs.Ytadefdmoijkclaa
open Go.RowKit Go.MapKept

/-- Where the k-th sector lies that is not the log's. -/
def idx (a k : Nat) : Nat := if k < a then k else k + 40
def secsTo (F : Nat → Sec) (a n : Nat) : List Sec := (List.range n).map fun k => F (idx a k)
abbrev secs (F : Nat → Sec) (a : Nat) : List Sec := secsTo F a 60
theorem secsTo_succ (F : Nat → Sec) (a n : Nat) : secsTo F a (n + 1) = secsTo F a n ++ [F (idx a n)] := by simp [secsTo, List.range_succ]
theorem secsTo_length (F : Nat → Sec) (a n : Nat) : (secsTo F a n).length = n := by simp [secsTo]
theorem secs_congr {F G : Nat → Sec} {a : Nat} (h : EqOut a 40 F G) : secs F a = secs G a := by
  unfold secs secsTo
  refine List.map_congr_left (fun k _ => h _ ?_)
  unfold idx
  split <;> omega
theorem secs_set {F : Nat → Sec} {a i : Nat} {b : Sec} (hi : i < 100) (ho : ¬ (a ≤ i ∧ i < a + 40)) {k : Nat} (hk : (i < a ∧ k = i) ∨ (a + 40 ≤ i ∧ k = i - 40)) : (secs F a).set k b = secs (updS F i b) a := by
  apply List.ext_getElem
  · simp [secs, secsTo]
  · intro j h1 h2
    simp only [secs, secsTo, List.getElem_set, List.getElem_map, List.getElem_range]
    unfold updS
    by_cases e : k = j
    · have e2 : idx a j = i := by unfold idx; split <;> omega
      rw [if_pos e, if_pos e2]
    · have e2 : ¬ idx a j = i := by unfold idx; split <;> omega
      rw [if_neg e, if_neg e2]

/-- Rows: each one's slice, and its bytes. -/
structure RowsV (Y : Assn) (rs : List (Value × Sec)) (ss : List Sec) : Prop where
  secs : rs.map Prod.snd = ss
  tells : ∀ r ∈ rs, Y.Tells (fun w => BytesIn w r.1 r.2)
  one : ∀ r ∈ rs, r.1.oneCell' = true
theorem RowsV.nil (Y : Assn) : RowsV Y [] [] := ⟨rfl, by simp, by simp⟩
theorem RowsV.snoc {Y Z : Assn} {rs : List (Value × Sec)} {ss : List Sec} (h : RowsV Y rs ss) {v : Value} {s : Sec} (h1 : v.oneCell' = true) (h2 : Z.Tells (fun w => BytesIn w v s)) : RowsV (Z * Y) (rs ++ [(v, s)]) (ss ++ [s]) := by
  refine ⟨by simp [h.secs], fun r hr => ?_, fun r hr => ?_⟩
  · rcases List.mem_append.1 hr with hr | hr
    · exact (h.tells r hr).right
    · rw [List.mem_singleton] at hr; subst hr; exact h2.left
  · rcases List.mem_append.1 hr with hr | hr
    · exact h.one r hr
    · rw [List.mem_singleton] at hr; subst hr; exact h1
theorem RowsV.length {Y : Assn} {rs : List (Value × Sec)} {ss : List Sec} (h : RowsV Y rs ss) : rs.length = ss.length := by rw [← h.secs]; simp
theorem RowsV.set {Y Z : Assn} {rs : List (Value × Sec)} {ss : List Sec} (h : RowsV Y rs ss) {v : Value} {s : Sec} (k : Nat) (h1 : v.oneCell' = true) (h2 : Z.Tells (fun w => BytesIn w v s)) : RowsV (Z * Y) (rs.set k (v, s)) (ss.set k s) := by
  refine ⟨by rw [List.map_set, h.secs], fun r hr => ?_, fun r hr => ?_⟩
  · rcases List.mem_or_eq_of_mem_set hr with hr | rfl
    · exact (h.tells r hr).right
    · exact h2.left
  · rcases List.mem_or_eq_of_mem_set hr with hr | rfl
    · exact h.one r hr
    · exact h1

theorem Bears.rowObj {w : World} {e : TypeId} {size g n c : Nat} {xs : List Value} {R : Assn} (h : Bears w (rowA e size (.slice (some ⟨g, 0, none⟩) n c) n xs * R)) :
    ∃ cur, w.heap[g]? = some (.cells cur e (0, 0)) ∧ n ≤ c ∧ c ≤ maxLen ∧ cur.size = c * size ∧ cur.toList.take (n * size) = xs := by
  obtain ⟨_, h⟩ := h.row
  rcases h with ⟨h, _⟩ | ⟨g', cap, cur, hv, _, hg, hn, hm, hs, ht⟩
  · cases h
  · simp only [Value.slice.injEq, Option.some.injEq, Addr.mk.injEq] at hv
    obtain ⟨⟨rfl, _⟩, _, rfl⟩ := hv
    exact ⟨cur, hg, hn, hm, hs, ht⟩
theorem Bears.rowCell {w : World} {e : TypeId} {g n c : Nat} {xs : List Value} {R : Assn} (h : Bears w (rowA e 1 (.slice (some ⟨g, 0, none⟩) n c) n xs * R)) {k : Nat} (hk : k < n) : w.cell? ⟨g, k, none⟩ = xs[k]? ∧ w.frozen? ⟨g, k, none⟩ = false := by
  obtain ⟨cur, hg, hn, _, hs, ht⟩ := h.rowObj
  refine ⟨?_, frozen_of_obj hg k⟩
  rw [cell_of_obj hg, ← ht, Nat.mul_one, List.getElem?_take_of_lt hk]
  simp
theorem Bears.rowSet {w : World} {e : TypeId} {g n c : Nat} {xs : List Value} {R : Assn} (h : Bears w (rowA e 1 (.slice (some ⟨g, 0, none⟩) n c) n xs * R)) {k : Nat} (hk : k < n) (v : Value) :
    Bears (w.setCell ⟨g, k, none⟩ v) (rowA e 1 (.slice (some ⟨g, 0, none⟩) n c) n (xs.set k v) * R) := by
  obtain ⟨cur, hg, hn, hm, hs, ht⟩ := h.rowObj
  have hl := h.row.1
  obtain ⟨F, G, H, ⟨h1, rfl⟩, hR, hd, rfl⟩ := h
  refine ⟨_, _, H, ⟨⟨by simpa using hl, .inr ⟨g, c, cur.setIfInBounds k v, rfl, Nat.zero_le _, ?_, hn, hm, by simpa using hs, ?_⟩⟩, rfl⟩, R.loc hR ⟨rfl, rfl, rfl, by simp⟩ (fun b hb => ?_), hd, rfl⟩
  · simp [World.setCell, Array.getElem?_modify, hg]
  · rw [← ht, Array.toList_setIfInBounds, Nat.mul_one, List.take_set]
  · exact Below.heap_setCell _ _ _ _ (by simp only; intro e; exact hd b (by rw [← e]; rfl) hb)

theorem u_rows : Try.prog.underlying 42 = some (.slice 34) := by kernel_rfl
theorem i_row : (Try.prog.info? 34).map (fun i => (i.zero, i.size, i.bytes)) = some (some (.slice none 0 0), 1, 24) := by kernel_rfl
theorem i_byte : (Try.prog.info? 5).map (fun i => (i.zero, i.size, i.bytes)) = some (some (.int .u8 0), 1, 1) := by kernel_rfl

set_option maxRecDepth 100000 in
set_option maxHeartbeats 1600000 in
theorem rows_any {p : Nat} {d : DiskM} {R : Assn} {w : World} (h : Bears w (diskA p d * R)) (a : Nat) (ha : a + 40 ≤ 100) (hoff : d.off = false) (hlen : d.len = 100) :
    Calls Try.prog 20 #[.pointer (some ⟨p, 0, none⟩), .int .i64 a] w fun e w' => ∃ v rs Y, e = .returned (.tuple #[v, .bool true]) ∧ RowsV Y rs (secs d.now a) ∧
      Bears w' (rowA 34 1 v 60 (rs.map Prod.fst) * (Y * (diskA p d * R))) := by
  have Hoff := Lib.hid hoff
  have Hlen := Lib.hid hlen
  clear hoff hlen
  have h1 := h.emptyRow 34 1
  go_enter Try.func20, Try.ntmps20
  go_wp2_with fail
  go_loopw [6, 7] (fun gv i wr => ∃ (k n : Nat), k ≤ 100 ∧ i = .int .i64 k ∧ ((k ≤ a ∧ n = k) ∨ (a ≤ k ∧ k ≤ a + 40 ∧ n = a) ∨ (a + 40 ≤ k ∧ n = k - 40)) ∧ ∃ (rs : List (Value × Sec)) (Y : Assn), RowsV Y rs (secsTo d.now a n) ∧
    Bears wr (rowA 34 1 gv n (rs.map Prod.fst) * (Y * (diskA p d * R)))) (fun _ i _ => 100 - (intOf i).toNat)
  case atStart => exact ⟨0, 0, by omega, rfl, .inl ⟨by omega, rfl⟩, [], Assn.emp, RowsV.nil _, h1.cast (by rw [Assn.emp_mul]; rfl)⟩
  case round =>
    obtain ⟨k, n, hk, rfl, hkn, rs, Y, hY, h2⟩ := hrel
    obtain ⟨ga, gc, rfl, _⟩ := h2.rowForm
    have hn60 : n ≤ 60 := by omega
    go_wp2_with fail
    refine (len_any h2.pull3).mono ?_
    rintro e w' ⟨rfl, rfl⟩
    rw [Hlen.out]
    rw [show ((100 : Nat) : Int) = 100 from rfl]
    by_cases hlt : k < 100
    · have hki : (k : Int) < 100 := by omega
      by_cases hin : a ≤ k ∧ k < a + 40
      · have i1 : (a : Int) ≤ (k : Int) := by omega
        have i2 : (k : Int) < (a : Int) + 40 := by omega
        go_wp2_with fail
        go_roundw
        case rel => exact ⟨k + 1, n, by omega, by go_num, by omega, rs, Y, hY, h2⟩
        case measure => simp [intOf]; omega
      · have f1 : Hid (d.check (k : Int) = 0) := DiskM.on_check Hoff.out (by rw [Hlen.out]; exact hlt)
        have hix : idx a n = k := by unfold idx; split <;> omega
        have hstep := secsTo_succ d.now a n
        rw [hix] at hstep
        have Hstep := Lib.hid hstep
        obtain ⟨s, hs⟩ : ∃ s, d.now k = s := ⟨_, rfl⟩
        have f2 : Hid (d.now ((k : Int)).toNat = s) := hs
        have hs64 : Hid (s.length = 64) := by
          rw [← hs]
          obtain ⟨_, _, _, _, _, hwf, _⟩ := Bears.disk.1 h2.pull3
          exact hwf.now k
        have Hs := Lib.hid hs
        obtain ⟨i0, hi0, hz0, hz1, hz2⟩ := info_parts i_row
        clear hix hstep hs
        go_wp2_with fail
        all_goals
          refine (read_to (s := s) _ h2.pull3 f1.out f2.out).mono ?_
          rintro e w3 ⟨g, rfl, h3⟩
          have h4 := h3.alloc (.cells #[.slice (some ⟨g, 0, none⟩) 64 64] 34)
          have hnews := World.news_of_block (cs := #[.slice (some ⟨g, 0, none⟩) 64 64]) h4.obj
          have h5 : Bears _ (rowA 34 1 (.slice ga n gc) n (rs.map Prod.fst) * (Assn.obj w3.heap.size (.cells #[.slice (some ⟨g, 0, none⟩) 64 64] 34 (0, 0)) * ((Assn.obj g (.cells (cellsV s).toArray 82 (0, 0)) * Y) * (diskA p d * R)))) := h4.cast (by ac_rfl)
          go_wp2_with (at_builtin; refine wpList_append_bears h5 rfl rfl u_rows hi0 hz0 hz1 hz2 (by simp [Value.cells]) (by decide) rfl (m := 1) rfl rfl hnews (by intro u hu; simp at hu; rcases hu with rfl; rfl) (by unfold maxLen; omega) (by omega) ?_; intro a' c' w6 h6)
          go_roundw
          case rel =>
            have hsn := hY.snoc (Z := Assn.obj g (.cells (cellsV s).toArray 82 (0, 0))) (v := .slice (some ⟨g, 0, none⟩) 64 64) (s := s) rfl (fun w hw => by
              obtain ⟨F, hob, _⟩ := hw
              have := BytesIn.obj' hob 64
              rwa [hs64.out] at this)
            refine ⟨k + 1, n + 1, by omega, by go_num, by omega, rs ++ [(.slice (some ⟨g, 0, none⟩) 64 64, s)], _, by rw [Hstep.out, Hs.out]; exact hsn, ?_⟩
            rw [List.map_append]
            exact h6.pull2.right
          case measure => simp [intOf]; omega
    · obtain rfl : k = 100 := by omega
      obtain rfl : n = 60 := by omega
      go_wp2_with fail
      go_ret2
      exact ⟨_, rs, Y, rfl, hY, h2⟩

/-- The slice v reads as these rows. -/
def RowsAt (w : World) (v : Value) (rs : List (Value × Sec)) : Prop :=
  ∃ ad cap, v = .slice ad rs.length cap ∧ (rs ≠ [] → ∃ b o, ad = some ⟨b, o, none⟩ ∧ ∀ k r, rs[k]? = some r → w.cell? ⟨b, o + k, none⟩ = some r.1) ∧ ∀ r ∈ rs, BytesIn w r.1 r.2
theorem RowsAt.at {w : World} {ad : Option Addr} {n cap : Nat} {rs : List (Value × Sec)} (h : RowsAt w (.slice ad n cap) rs) {k : Nat} {r : Value × Sec} (hk : rs[k]? = some r) :
    ∃ b o, ad = some ⟨b, o, none⟩ ∧ w.cell? ⟨b, o + k, none⟩ = some r.1 ∧ BytesIn w r.1 r.2 := by
  obtain ⟨ad', cap', hv, hr, hb⟩ := h
  simp only [Value.slice.injEq] at hv
  obtain ⟨rfl, _, _⟩ := hv
  obtain ⟨b, o, e, hc⟩ := hr (by rintro rfl; simp at hk)
  exact ⟨b, o, e, hc k r hk, hb r (List.mem_of_getElem? hk)⟩
theorem RowsV.at {Y R : Assn} {rs : List (Value × Sec)} {ss : List Sec} (h : RowsV Y rs ss) {v : Value} {n : Nat} (hn : n = rs.length) : (rowA 34 1 v n (rs.map Prod.fst) * (Y * R)).Tells (fun w => RowsAt w v rs) := by
  intro w hw
  subst hn
  obtain ⟨a, c, rfl, _, _, hr⟩ := hw.rowForm
  refine ⟨a, c, rfl, fun hne => ?_, fun r hr => h.tells r hr w hw.right.left⟩
  obtain ⟨g, rfl, _⟩ := hr 0 (List.length_pos_iff.2 hne)
  refine ⟨g, 0, rfl, fun k r hk => ?_⟩
  have hkl := (List.getElem?_eq_some_iff.1 hk).1
  rw [Nat.zero_add, (hw.rowCell hkl).1, List.getElem?_map, hk]
  rfl

set_option maxRecDepth 100000 in
set_option maxHeartbeats 1600000 in
theorem same_any {R : Assn} {w : World} (h : Bears w R) {ra rb : List (Value × Sec)} {aa ab : Option Addr} {ca cb na nb : Nat} (ta : R.Tells (fun w => RowsAt w (.slice aa na ca) ra)) (tb : R.Tells (fun w => RowsAt w (.slice ab nb cb) rb))
    (hna : na = ra.length) (hnb : nb = rb.length) (he : ra.map Prod.snd = rb.map Prod.snd) (h63 : na ≤ 9223372036854775807) :
    Calls Try.prog 26 #[.slice aa na ca, .slice ab nb cb] w fun e w' => e = .returned (.bool true) ∧ Bears w' R := by
  obtain rfl : na = nb := by have := congrArg List.length he; simp at this; omega
  have He := Lib.hid he
  have Hna := Lib.hid hna
  have Hnb := Lib.hid hnb
  clear he hna hnb
  go_enter Try.func26, Try.ntmps26
  go_wp2_with fail
  go_loopw [5] (fun i wr => ∃ k : Nat, k ≤ na ∧ i = .int .i64 k ∧ Bears wr R) (fun i _ => na - (intOf i).toNat)
  case atStart => exact ⟨0, by omega, rfl, h⟩
  case round =>
    obtain ⟨k, hk, rfl, h1⟩ := hrel
    by_cases hlt : k < na
    · obtain ⟨⟨va, sa⟩, hra⟩ : ∃ r, ra[k]? = some r := ⟨_, List.getElem?_eq_getElem (by rw [← Hna.out]; exact hlt)⟩
      obtain ⟨⟨vb, sb⟩, hrb⟩ : ∃ r, rb[k]? = some r := ⟨_, List.getElem?_eq_getElem (by rw [← Hnb.out]; exact hlt)⟩
      have hs : sa = sb := by
        have := congrArg (fun l => l[k]?) He.out
        simp only [List.getElem?_map, hra, hrb, Option.map_some, Option.some.injEq] at this
        exact this
      subst hs
      have Hra := Lib.hid hra
      have Hrb := Lib.hid hrb
      clear hra hrb
      obtain ⟨b1, o1, rfl, q1, q2⟩ := (ta _ h1).at Hra.out
      obtain ⟨b2, o2, rfl, q3, q4⟩ := (tb _ h1).at Hrb.out
      simp only at q1 q2 q3 q4
      obtain ⟨ad1, cp1, rfl, _⟩ := q2
      obtain ⟨ad2, cp2, rfl, _⟩ := q4
      clear q1 q3
      have hlti : (k : Int) < (na : Int) := by omega
      go_wp2_with fail
      refine wp_region_L (fun w' => Bears w' R) 11 [(true, 0), (true, 1), (true, 2), (true, 3), (true, 4), (true, 5), (true, 6), (true, 7), (true, 8), (true, 9), (true, 10)] [] (by kernel_rfl) (by kernel_rfl) h1.drew ?_
      simp only [pick, List.getElem?_cons_zero, List.getElem?_cons_succ]
      refine wpL_yield (v := ?_) rfl (fun w' hS => ?_) ?_
      rotate_left
      · (obtain ⟨b', o', he, r1, _⟩ := (ta _ hS).at Hra.out; cases he; simp only at r1; go_simp; try with_reducible rfl)
      simp only [Act.put, List.setIfInBounds_toArray, List.set_cons_zero, List.set_cons_succ]
      refine wpL_yield (v := ?_) rfl (fun w' hS => ?_) ?_
      rotate_left
      · (obtain ⟨b', o', he, r1, _⟩ := (ta _ hS).at Hra.out; cases he; simp only at r1; go_simp; try with_reducible rfl)
      simp only [Act.put, List.setIfInBounds_toArray, List.set_cons_zero, List.set_cons_succ]
      refine wpL_yield (v := ?_) rfl (fun w' hS => ?_) ?_
      rotate_left
      · (obtain ⟨b', o', he, r1, _⟩ := (ta _ hS).at Hra.out; cases he; simp only at r1; go_simp; try with_reducible rfl)
      simp only [Act.put, List.setIfInBounds_toArray, List.set_cons_zero, List.set_cons_succ]
      refine wpL_yield (v := ?_) rfl (fun w' hS => ?_) ?_
      rotate_left
      · (obtain ⟨b', o', he, r1, _⟩ := (ta _ hS).at Hra.out; cases he; simp only at r1; go_simp; try with_reducible rfl)
      simp only [Act.put, List.setIfInBounds_toArray, List.set_cons_zero, List.set_cons_succ]
      refine wpL_yield rfl (fun w' hS => exec_convert rfl rfl (run_convert_in (by obtain ⟨b', o', he, _, r2⟩ := (ta _ hS).at Hra.out; exact r2))) ?_
      simp only [Act.put, List.setIfInBounds_toArray, List.set_cons_zero, List.set_cons_succ]
      refine wpL_yield (v := ?_) rfl (fun w' hS => ?_) ?_
      rotate_left
      · (obtain ⟨b', o', he, r1, _⟩ := (tb _ hS).at Hrb.out; cases he; simp only at r1; go_simp; try with_reducible rfl)
      simp only [Act.put, List.setIfInBounds_toArray, List.set_cons_zero, List.set_cons_succ]
      refine wpL_yield (v := ?_) rfl (fun w' hS => ?_) ?_
      rotate_left
      · (obtain ⟨b', o', he, r1, _⟩ := (tb _ hS).at Hrb.out; cases he; simp only at r1; go_simp; try with_reducible rfl)
      simp only [Act.put, List.setIfInBounds_toArray, List.set_cons_zero, List.set_cons_succ]
      refine wpL_yield (v := ?_) rfl (fun w' hS => ?_) ?_
      rotate_left
      · (obtain ⟨b', o', he, r1, _⟩ := (tb _ hS).at Hrb.out; cases he; simp only at r1; go_simp; try with_reducible rfl)
      simp only [Act.put, List.setIfInBounds_toArray, List.set_cons_zero, List.set_cons_succ]
      refine wpL_yield (v := ?_) rfl (fun w' hS => ?_) ?_
      rotate_left
      · (obtain ⟨b', o', he, r1, _⟩ := (tb _ hS).at Hrb.out; cases he; simp only at r1; go_simp; try with_reducible rfl)
      simp only [Act.put, List.setIfInBounds_toArray, List.set_cons_zero, List.set_cons_succ]
      refine wpL_yield rfl (fun w' hS => exec_convert rfl rfl (run_convert_in (by obtain ⟨b', o', he, _, r2⟩ := (tb _ hS).at Hrb.out; exact r2))) ?_
      simp only [Act.put, List.setIfInBounds_toArray, List.set_cons_zero, List.set_cons_succ]
      refine wpL_yield (v := ?_) rfl (fun w' hS => ?_) ?_
      rotate_left
      · (go_simp; try with_reducible rfl)
      simp only [Act.put, List.setIfInBounds_toArray, List.set_cons_zero, List.set_cons_succ]
      refine wpL_nil ?_
      refine wpL_nil ?_
      go_wp2_with fail
      go_roundw
      case rel => exact ⟨k + 1, by omega, by go_num, h1.drew⟩
      case measure => simp [intOf]; omega
    · obtain rfl : k = na := by omega
      go_wp2_with fail
      go_ret
      exact ⟨rfl, h1⟩

theorem rowBytes_tells {v : Value} {n : Nat} {l : List UInt8} (hn : n = l.length) : (rowA 5 1 v n (cellsV l)).Tells (fun w => BytesIn w v l) := by
  intro w hw
  subst hn
  have hw2 : Bears w (rowA 5 1 v l.length (cellsV l) * Assn.emp) := hw.cast (Assn.mul_emp _).symm
  obtain ⟨a, c, rfl, _, _, hr⟩ := hw2.rowForm
  refine ⟨a, c, rfl, fun hne => ?_⟩
  obtain ⟨g, rfl, _⟩ := hr 0 (List.length_pos_iff.2 hne)
  refine ⟨g, 0, rfl, fun k u hk => ?_⟩
  have hkl : k < l.length := by have := (List.getElem?_eq_some_iff.1 hk).1; simpa using this
  rw [Nat.zero_add, (hw2.rowCell hkl).1, hk]

end Go.Proofs.Ytadefdmoijkclaa
