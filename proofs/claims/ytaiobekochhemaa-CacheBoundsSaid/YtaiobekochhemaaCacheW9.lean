/- Walks of the cache's functions, part 9: copies of rows; Read; no condition. -/
import Derived.Test.YtaiobekochhemaaCacheW8
namespace Go.Proofs.Ytaiobekochhemaa
open Go.RowKit Go.MapKept

theorem i_byte : (Try.prog.info? 5).map (fun i => (i.zero, i.size, i.bytes)) = some (some (.int .u8 0), 1, 1) := by kernel_rfl

theorem rowA_bytes {e : TypeId} {ad : Option Addr} {n cap : Nat} {l : List UInt8} {R : Assn} (hn : n = l.length) : (rowA e 1 (.slice ad n cap) n (cellsV l) * R).Tells (fun w => BytesIn w (.slice ad n cap) l) := by
  intro w h
  subst hn
  refine ⟨ad, cap, rfl, fun hne => ?_⟩
  obtain ⟨g, rfl, _⟩ := h.rowAt (k := 0) (by cases l with | nil => exact absurd rfl hne | cons _ _ => simp)
  refine ⟨g, 0, rfl, fun j v hv => ?_⟩
  have hj : j < l.length := by have := (List.getElem?_eq_some_iff.1 hv).1; simpa using this
  obtain ⟨g', e', hr⟩ := h.rowAt (k := j) hj
  cases e'
  have := hr 0 v (by rw [List.getElem?_take_of_lt (by decide), List.getElem?_drop]; simpa using hv)
  simpa using this

theorem Bears.zeroRow {w : World} {R : Assn} {e : TypeId} {size : Nat} (h : Bears w R) : Bears (w.alloc (.cells #[] e)) (rowA e size (.slice (some ⟨w.heap.size, 0, none⟩) 0 0) 0 [] * R) := by
  have h2 := h.alloc (.cells #[] e)
  obtain ⟨F, G, H, ⟨hb, rfl⟩, hR, hd, rfl⟩ := h2
  exact ⟨_, _, H, ⟨⟨by simp, .inr ⟨w.heap.size, 0, #[], rfl, Nat.zero_le _, hb, Nat.le_refl _, Nat.zero_le _, by simp, by simp⟩⟩, by funext b; simp [Value.ownBlock, eq_comm]⟩, hR, hd, rfl⟩

set_option maxRecDepth 100000 in
set_option maxHeartbeats 400000 in
theorem bclone_any {R : Assn} {w : World} {ad : Option Addr} {n cap : Nat} {l : List UInt8} (h : Bears w R) (hb : R.Tells (fun w => BytesIn w (.slice ad n cap) l)) (hne : l ≠ []) (hl : l.length < 1099511627776) :
    Calls Try.prog 75 #[.slice ad n cap] w fun e w' => ∃ ad' cap', e = .returned (.slice ad' n cap') ∧ Bears w' (rowA 5 1 (.slice ad' n cap') n (cellsV l) * R) := by
  obtain ⟨i0, hi0, hz0, hz1, hz2⟩ := info_parts i_byte
  obtain rfl : n = l.length := (hb _ h).len
  obtain ⟨b, o, rfl, hr⟩ := (hb _ h).at hne
  have hq := fun w => Lib.run_eql_slice_nil (P := Try.prog) w 43 _ (some ⟨b, o, none⟩) l.length cap 0 0 u_bytes
  have h3 := h.zeroRow (e := 5) (size := 1)
  have hnews : ∀ j u, (cellsV l)[j]? = some u → (w.alloc (.cells #[] 5)).cell? ((⟨b, o, none⟩ : Addr).add j) = some u := fun j u hu => by
    obtain ⟨b', o', e', hr'⟩ := (hb _ h3.right).at hne
    cases e'
    have h9 := hr' j u hu
    unfold Addr.add
    by_cases hj : j = 0
    · subst hj; simpa using h9
    · simpa [hj] using h9
  have h0 := Lib.hid hnews
  clear hr hnews
  go_enter Try.func75, Try.ntmps75
  go_wp2_with (at_builtin; refine wpList_append_bears h3 rfl rfl u_bytes hi0 hz0 hz1 hz2 (by simp [Value.cells]) (by decide) rfl (ad := ⟨b, o, none⟩) (m := l.length) (c := cap) (news := cellsV l) rfl (by simp) h0.out (oneCell_cellsV l) (by unfold maxLen; omega) (by omega) ?_; intro a' c' w3 h4)
  go_ret
  exact ⟨a', c', by simp, h4.cast (by simp)⟩

set_option maxRecDepth 100000 in
set_option maxHeartbeats 400000 in
theorem iclone_any {v : Value} {n : Nat} {l : List Int} {R : Assn} {w : World} (h : Bears w (rowA 3 1 v n (intsV l) * R)) (hl : n < 1099511627776) :
    Calls Try.prog 86 #[v] w fun e w' => ∃ v', e = .returned v' ∧ Bears w' (rowA 3 1 v' n (intsV l) * (rowA 3 1 v n (intsV l) * R)) := by
  obtain ⟨i0, hi0, hz0, hz1, hz2⟩ := info_parts i_int
  obtain ⟨hl', h0⟩ := h.row
  rcases h0 with ⟨rfl, rfl⟩ | ⟨g, cap, cur, rfl, _, hg, hnc, hm, hs, ht⟩
  · have hq := fun w => Lib.run_eql_slice_nil (P := Try.prog) w 49 _ none 0 0 0 0 u_ints
    obtain rfl : l = [] := List.eq_nil_of_length_eq_zero (by simpa using hl')
    go_enter Try.func86, Try.ntmps86
    go_wp2
    go_ret
    exact ⟨_, rfl, Bears.nilRow.2 h⟩
  · have hq := fun w => Lib.run_eql_slice_nil (P := Try.prog) w 49 _ (some ⟨g, 0, none⟩) n cap 0 0 u_ints
    have h3 := h.zeroRow (e := 3) (size := 1)
    have hnews : ∀ j u, (intsV l)[j]? = some u → (w.alloc (.cells #[] 3)).cell? ((⟨g, 0, none⟩ : Addr).add j) = some u := fun j u hu => h3.right.row.cells (g := g) rfl j u hu
    have H0 := Lib.hid hnews
    have hone : ∀ u ∈ intsV l, u.oneCell' = true := by
      intro u hu
      obtain ⟨z, _, rfl⟩ := List.mem_map.1 hu
      rfl
    clear hg hnews
    go_enter Try.func86, Try.ntmps86
    go_wp2_with (at_builtin; refine wpList_append_bears h3 rfl rfl u_ints hi0 hz0 hz1 hz2 (by simp [Value.cells]) (by decide) rfl (ad := ⟨g, 0, none⟩) (m := n) (c := cap) (news := intsV l) rfl hl' H0.out hone (by unfold maxLen; omega) (by omega) ?_; intro a' c' w3 h4)
    go_ret
    exact ⟨_, rfl, h4.cast (by simp)⟩

theorem HasMap.more {Y Z : Assn} {hl : List (Int × Value)} {ls : List LineM} (h : HasMap Y hl ls) : HasMap (Z * Y) hl ls :=
  ⟨h.no, fun i x hx => by obtain ⟨ad, cap, h1, h2⟩ := h.yes i x hx; exact ⟨ad, cap, h1, h2.right⟩⟩
theorem HasMap.use {Y : Assn} {hl : List (Int × Value)} {ls : List LineM} (h : HasMap Y hl ls) (hn : (ls.map (·.at')).Nodup) (hk : (hl.map Prod.fst).Nodup) {y : LineM} {ad : Option Addr} {cap : Nat}
    (hy : Y.Tells (fun w => BytesIn w (.slice ad y.b.length cap) y.b)) : HasMap Y (putL y.at' (.slice ad y.b.length cap) (delL y.at' hl)) (useL y ls) := by
  refine ⟨fun i hi => ?_, fun i x hi => ?_⟩
  · rw [findL_useL hn] at hi
    rw [getL_putL, getL_delL _ _ hk]
    by_cases e : i = y.at'
    · rw [if_pos e] at hi; cases hi
    · rw [if_neg e] at hi
      rw [if_neg e, if_neg e]
      exact h.no i hi
  · rw [findL_useL hn] at hi
    rw [getL_putL, getL_delL _ _ hk]
    by_cases e : i = y.at'
    · rw [if_pos e] at hi ⊢
      simp only [Option.some.injEq] at hi
      subst hi
      exact ⟨ad, cap, rfl, hy⟩
    · rw [if_neg e] at hi
      rw [if_neg e, if_neg e]
      exact h.yes i x hi
theorem PinMap.use {pl : List (Int × Value)} {ls : List LineM} (h : PinMap pl ls) (hn : (ls.map (·.at')).Nodup) {y : LineM} (hy : pinOf y.at' ls = y.pin) : PinMap pl (useL y ls) := by
  refine ⟨fun i => ?_, ?_⟩
  · rw [h.has, findL_useL hn]
    by_cases e : i = y.at'
    · subst e
      rw [if_pos rfl]
      exact hy
    · rw [if_neg e]
  · rw [h.count]
    unfold useL
    rw [List.filter_append, List.length_append]
    cases hp : y.pin with
    | false =>
      rw [hp] at hy
      rw [filter_forgetL hn hy]
      simp [hp]
    | true =>
      rw [hp] at hy
      clear h
      simp only [List.filter_cons, List.filter_nil, hp, if_true, List.length_cons, List.length_nil]
      induction ls with
      | nil => simp [pinOf, findL] at hy
      | cons z r ih =>
        simp only [List.map_cons, List.nodup_cons] at hn
        unfold pinOf at hy
        simp only [findL] at hy
        simp only [forgetL]
        by_cases e : z.at' = y.at'
        · rw [if_pos e] at hy ⊢
          simp only at hy
          simp [hy]
        · rw [if_neg e] at hy ⊢
          have := ih hn.2 hy
          simp only [List.filter_cons]
          split
          · simp only [List.length_cons]; omega
          · exact this

theorem useL_length {y : LineM} {ls : List LineM} : (useL y ls).length ≤ ls.length + 1 := by
  unfold useL
  have := (forgetL_sub y.at' ls).length_le
  simp
  omega
theorem mem_useL {y z : LineM} {ls : List LineM} (h : z ∈ useL y ls) : z = y ∨ z ∈ ls := by
  unfold useL at h
  rcases List.mem_append.1 h with h | h
  · exact .inr ((forgetL_sub y.at' ls).subset h)
  · simp at h; exact .inl h

/-- A line used, and what is too much let go. -/
def CacheM.used (c : CacheM) (y : LineM) : CacheM := { c with lines := trimL c.most (useL y c.lines).length (useL y c.lines) }
theorem CacheM.WF.used {c : CacheM} (h : c.WF) {y : LineM} (hb : y.b.length = 64) (hp : c.isOpen = false → y.pin = false) (hpl : y.pin = true → 0 ≤ y.at' ∧ y.at' ≤ 8192) : (c.used y).WF := by
  refine ⟨((trimL_sub _ _ _).map _).nodup (useL_nodup h.nodup), fun x hx => ?_, h.most, h.misses, fun ho x hx => ?_, fun x hx => ?_⟩
  · rcases mem_useL ((trimL_sub _ _ _).subset hx) with rfl | hx
    · exact hb
    · exact h.bytes x hx
  · rcases mem_useL ((trimL_sub _ _ _).subset hx) with rfl | hx
    · exact hp ho
    · exact h.closed ho x hx
  · rcases mem_useL ((trimL_sub _ _ _).subset hx) with rfl | hx
    · exact hpl
    · exact h.place x hx

end Go.Proofs.Ytaiobekochhemaa
