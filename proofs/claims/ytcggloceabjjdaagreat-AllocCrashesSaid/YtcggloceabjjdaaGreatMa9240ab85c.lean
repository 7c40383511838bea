/- Texts of this claim, put together: CacheW5, CacheW6, CacheW7, CacheW8, Rows0, CacheW9, CacheW10, Maps3, CacheW11; no condition. -/
import Derived.Test.YtcggloceabjjdaaGreatMfe67365322
import Derived.Laws.IdiomCopy
import Derived.Laws.Append
import Derived.Laws.AppendOwn
import Derived.Maps.RangeRun
import Derived.Maps.RangeWalk

set_option linter.unusedSimpArgs false
set_option linter.unusedVariables false

/- Walks of the cache's functions, part 5: use; no condition. -/
namespace Go.Proofs.YtcggloceabjjdaaGreat
open Go.RowKit Go.MapKept

theorem u_ints : Tryz.prog.underlying 50 = some (.slice 3) := by kernel_rfl
theorem i_int : (Tryz.prog.info? 3).map (fun i => (i.zero, i.size, i.bytes)) = some (some (.int .i64 0), 1, 8) := by kernel_rfl
theorem orderV_snoc (ls : List LineM) (x : LineM) : orderV (ls ++ [x]) = orderV ls ++ [.int .i64 x.at'] := by simp [orderV]

set_option maxRecDepth 100000 in
set_option maxHeartbeats 800000 in
theorem use_any {c p x : Nat} {cm : CacheM} {hb pb : Nat} {ov : Value} {hl : List (Int × Value)} {X : Assn} {w : World} {ls : List LineM} {n : Nat} (hn : n = ls.length) (hlen : ls.length < 1099511627776)
    (h : Bears w (cacheObj c p x cm hb pb ov * (mapA hb hl * (rowA 3 1 ov n (orderV ls) * X)))) (y : LineM) (v : Value) :
    Calls Tryz.prog 94 #[.pointer (some ⟨c, 0, none⟩), .int .i64 y.at', v] w fun e w' => e = .returned (.tuple #[]) ∧ ∃ ov', Bears w' (cacheObj c p x cm hb pb ov' * (mapA hb (putL y.at' v (delL y.at' hl)) *
      (rowA 3 1 ov' (useL y ls).length (orderV (useL y ls)) * X))) := by
  have hfl : (forgetL y.at' ls).length ≤ ls.length := (forgetL_sub y.at' ls).length_le
  obtain ⟨i0, hi0, hz0, hz1, hz2⟩ := info_parts i_int
  go_enter Tryz.func94, Tryz.ntmps94
  go_wp2_with fail
  refine (forget_any hn h y.at').mono ?_
  rintro e w1 ⟨rfl, ov1, h1⟩
  obtain ⟨⟨_, _, _, _, _, c5, _, c7⟩, _⟩ := cache_cells h1
  obtain ⟨a1, cap1, rfl, _⟩ := h1.pull3.rowForm
  go_wp2_with (first
    | (refine wpList_mapUpdate_bears (val := v) h1.pull2 rfl rfl u_has u_int rfl rfl rfl ?_; intro w2 h2; obtain ⟨⟨_, _, _, _, _, _, _, d7⟩, f⟩ := cache_cells h2.pull2; have f7 := f 7; have h3 := (h2.pull3.alloc (.cells #[.int .i64 y.at'] 3)).pull2; have hnews := World.news_of_block (cs := #[.int .i64 y.at']) h3.pull2.obj)
    | (at_builtin; refine wpList_append_bears h3 rfl rfl u_ints hi0 hz0 hz1 hz2 (by simp [Value.cells]) (by decide) rfl (m := 1) rfl rfl hnews (by intro u hu; simp at hu; rcases hu with rfl; rfl) (by unfold maxLen; omega) (by omega) ?_; intro a3 c3 w3 h4; have h5 := h4.pull4; obtain ⟨⟨_, _, _, _, _, _, _, g7⟩, gf⟩ := cache_cells h5; have gf7 := gf 7; have h6 := h5.setCell (i := 7) (.slice a3 ((forgetL y.at' ls).length + 1) c3)))
  go_end0
  refine ⟨rfl, .slice a3 ((forgetL y.at' ls).length + 1) c3, ?_⟩
  unfold useL
  rw [orderV_snoc, List.length_append]
  exact ((h6.cast (by simp [cacheObj]; ac_rfl) : Bears _ (Assn.obj w2.heap.size (.cells #[.int .i64 y.at'] 3 (0, 0)) * (cacheObj c p x cm hb pb (.slice a3 ((forgetL y.at' ls).length + 1) c3) * (mapA hb (putL y.at' v (delL y.at' hl)) *
    (rowA 3 1 (.slice a3 ((forgetL y.at' ls).length + 1) c3) ((forgetL y.at' ls).length + 1) (orderV (forgetL y.at' ls) ++ [.int .i64 y.at']) * X))))).right)

end Go.Proofs.YtcggloceabjjdaaGreat

/- Walks of the cache's functions, part 6: what is not pinned; no condition. -/
namespace Go.Proofs.YtcggloceabjjdaaGreat
open Go.RowKit Go.MapKept

theorem u_pins : Tryz.prog.underlying 103 = some (.map 3 3) := by kernel_rfl

set_option maxRecDepth 100000 in
set_option maxHeartbeats 800000 in
theorem free_any {bx c p x : Nat} {cm : CacheM} {hb pb : Nat} {ov : Value} {pl : List (Int × Value)} {X : Assn} {w : World}
    (h : Bears w (Assn.obj bx (.cells #[.pointer (some ⟨c, 0, none⟩)] 76 (0, 0)) * (cacheObj c p x cm hb pb ov * (mapA pb pl * X)))) (i : Int) :
    Calls Tryz.prog 106 #[.int .i64 i, .pointer (some ⟨bx, 0, none⟩)] w fun e w' => e = .returned (.bool (!(getL i pl).isSome)) ∧ w = w' := by
  have cb := cell_of_obj h.obj 0
  obtain ⟨⟨_, _, _, _, _, _, c6, _⟩, _⟩ := cache_cells h.pull2
  have hz : ∀ w, (zeroValue 3).run Tryz.prog w = .ok (.int .i64 0) w := fun _ => by kernel_rfl
  obtain ⟨b, hbv⟩ : ∃ b, (getL i pl).isSome = b := ⟨_, rfl⟩
  rw [hbv]
  have Hb := Lib.hid hbv
  go_enter Tryz.func106, Tryz.ntmps106
  go_wp2_with (refine wpList_lookup_ok_bears h.pull3 rfl rfl u_pins u_int (hz _) rfl rfl ?_)
  go_ret
  exact ⟨rfl, rfl⟩

end Go.Proofs.YtcggloceabjjdaaGreat

/- Walks of the cache's functions, part 7: the first that is not pinned; no condition. -/
namespace Go.Proofs.YtcggloceabjjdaaGreat
open Go.RowKit Go.MapKept

/-- Where the first stands that the map does not have. -/
def idxFree (pl : List (Int × Value)) : List Int → Option Nat
  | [] => none
  | x :: r => if (getL x pl).isSome = false then some 0 else (idxFree pl r).map (· + 1)
theorem idxFree_some {pl : List (Int × Value)} : ∀ {l : List Int} {k : Nat}, k < l.length → (getL (l.getD k 0) pl).isSome = false → (∀ j, j < k → (getL (l.getD j 0) pl).isSome = true) → idxFree pl l = some k
  | [], _, h, _, _ => absurd h (by simp)
  | x :: r, 0, _, h, _ => by
    simp only [List.getD_cons_zero] at h
    simp only [idxFree]
    rw [if_pos h]
  | x :: r, k + 1, h, h1, h2 => by
    have hx := h2 0 (by omega)
    simp only [List.getD_cons_zero] at hx
    simp only [idxFree]
    rw [if_neg (by simp [hx]), idxFree_some (k := k) (by simpa using h) (by simpa using h1) (fun j hj => by have := h2 (j + 1) (by omega); simpa using this)]
    rfl
theorem idxFree_none {pl : List (Int × Value)} : ∀ {l : List Int}, (∀ j, j < l.length → (getL (l.getD j 0) pl).isSome = true) → idxFree pl l = none
  | [], _ => rfl
  | x :: r, h => by
    have hx := h 0 (by simp)
    simp only [List.getD_cons_zero] at hx
    simp only [idxFree]
    rw [if_neg (by simp [hx]), idxFree_none (fun j hj => by have := h (j + 1) (by simpa using hj); simpa using this)]
    rfl
def idxFV (pl : List (Int × Value)) (l : List Int) : Int := match idxFree pl l with | some k => (k : Int) | none => -1

set_option maxRecDepth 100000 in
set_option maxHeartbeats 800000 in
theorem findex_any {bx c p x : Nat} {cm : CacheM} {hb pb n : Nat} {ov ov' : Value} {pl : List (Int × Value)} {l : List Int} {X : Assn} {w : World} (hn : n = l.length)
    (h : Bears w (Assn.obj bx (.cells #[.pointer (some ⟨c, 0, none⟩)] 76 (0, 0)) * (cacheObj c p x cm hb pb ov' * (mapA pb pl * (rowA 3 1 ov n (intsV l) * X))))) :
    Calls Tryz.prog 107 #[ov, .func (.func 106) #[] #[.pointer (some ⟨bx, 0, none⟩)]] w fun e w' => e = .returned (.int .i64 (idxFV pl l)) ∧ w = w' := by
  subst hn
  obtain ⟨a, cc, rfl, hc, hm, hr⟩ := h.pull4.rowForm
  have hl63 : l.length ≤ 9223372036854775807 := by unfold maxLen at hm; omega
  go_enter Tryz.func107, Tryz.ntmps107
  go_wp2_with fail
  go_loopw [8] (fun t8 wr => ∃ k : Nat, k ≤ l.length ∧ t8 = .int .i64 k ∧ (∀ j, j < k → (getL (l.getD j 0) pl).isSome = true) ∧ wr = w) (fun t8 _ => l.length - (intOf t8).toNat)
  case atStart => exact ⟨0, by omega, rfl, fun j hj => absurd hj (by omega), rfl⟩
  case round =>
    obtain ⟨k, hk, rfl, hno, rfl⟩ := hrel
    by_cases hlt : k < l.length
    · obtain ⟨g, rfl, _⟩ := hr k hlt
      have hcell := (Bears.rowObj' h.pull4 hlt)
      obtain ⟨z, hz⟩ : ∃ z, l.getD k 0 = z := ⟨_, rfl⟩
      rw [hz] at hcell
      have Hz := Lib.hid hz
      have Hno := Lib.hid hno
      clear hz hno hr
      go_wp2_with fail
      refine (free_any h z).mono ?_
      rintro e w' ⟨rfl, rfl⟩
      cases hb : (getL z pl).isSome with
      | true =>
        have Hb := Lib.hid hb
        clear hb
        go_wp2_with fail
        go_roundw
        case rel =>
          refine ⟨k + 1, by omega, by go_num, fun j hj => ?_, by first | rfl | trivial⟩
          rcases Nat.lt_succ_iff_lt_or_eq.1 hj with hj | rfl
          · exact Hno.out j hj
          · rw [Hz.out]; exact Hb.out
        case measure => simp [intOf]; omega
      | false =>
        have Hb := Lib.hid hb
        clear hb
        go_wp2_with fail
        go_ret
        refine ⟨?_, rfl⟩
        unfold idxFV
        rw [idxFree_some hlt (by rw [Hz.out]; exact Hb.out) Hno.out]
        rfl
    · obtain rfl : k = l.length := by omega
      have Hi := Lib.hid (idxFree_none hno)
      clear hno hr
      go_wp2_with fail
      go_ret
      refine ⟨?_, rfl⟩
      unfold idxFV
      rw [Hi.out]
      rfl

end Go.Proofs.YtcggloceabjjdaaGreat

/- Walks of the cache's functions, part 8: trim; no condition. -/
namespace Go.Proofs.YtcggloceabjjdaaGreat
open Go.RowKit Go.MapKept

def pinOf (i : Int) (ls : List LineM) : Bool := match findL i ls with | some x => x.pin | none => false
theorem findL_mem {i : Int} {x : LineM} : ∀ {ls : List LineM}, findL i ls = some x → x ∈ ls ∧ x.at' = i
  | [], h => by simp [findL] at h
  | y :: r, h => by
    simp only [findL] at h
    split at h
    · rename_i e
      simp only [Option.some.injEq] at h
      subst h
      exact ⟨by simp, e⟩
    · obtain ⟨h1, h2⟩ := findL_mem h
      exact ⟨List.mem_cons_of_mem _ h1, h2⟩
theorem findL_of_mem {x : LineM} : ∀ {ls : List LineM}, (ls.map (·.at')).Nodup → x ∈ ls → findL x.at' ls = some x
  | y :: r, hn, h => by
    simp only [List.map_cons, List.nodup_cons] at hn
    simp only [findL]
    rcases List.mem_cons.1 h with rfl | h
    · simp
    · rw [if_neg, findL_of_mem hn.2 h]
      intro e
      exact hn.1 (by rw [e]; exact List.mem_map.2 ⟨x, h, rfl⟩)
theorem PinMap.each {pl : List (Int × Value)} {ls : List LineM} (h : PinMap pl ls) (hn : (ls.map (·.at')).Nodup) : ∀ y ∈ ls, (getL y.at' pl).isSome = y.pin := by
  intro y hy
  rw [h.has, findL_of_mem hn hy]

theorem dropFree_forget {pl : List (Int × Value)} : ∀ {ls : List LineM}, (ls.map (·.at')).Nodup → (∀ y ∈ ls, (getL y.at' pl).isSome = y.pin) →
    (idxFree pl (ls.map (·.at')) = none ∧ dropFree ls = none) ∨ ∃ k z, idxFree pl (ls.map (·.at')) = some k ∧ k < ls.length ∧ (ls.map (·.at')).getD k 0 = z ∧ dropFree ls = some (forgetL z ls) ∧ pinOf z ls = false ∧ (getL z pl).isSome = false
  | [], _, _ => .inl ⟨rfl, rfl⟩
  | y :: r, hn, hp => by
    have hn' := hn
    simp only [List.map_cons, List.nodup_cons] at hn
    have hy := hp y (by simp)
    cases hpin : y.pin with
    | false =>
      rw [hpin] at hy
      refine .inr ⟨0, y.at', ?_, by simp, by simp, ?_, ?_, hy⟩
      · simp [idxFree, hy]
      · simp [dropFree, forgetL, hpin]
      · simp [pinOf, findL, hpin]
    | true =>
      rw [hpin] at hy
      rcases dropFree_forget (ls := r) hn.2 (fun z hz => hp z (List.mem_cons_of_mem _ hz)) with ⟨h1, h2⟩ | ⟨k, z, h1, h2, h3, h4, h5, h6⟩
      · refine .inl ⟨?_, ?_⟩
        · simp [idxFree, hy, h1]
        · simp [dropFree, hpin, h2]
      · have hz : y.at' ≠ z := by intro e; rw [← e, hy] at h6; cases h6
        refine .inr ⟨k + 1, z, ?_, by simp; omega, by simpa using h3, ?_, ?_, h6⟩
        · simp [idxFree, hy, h1]
        · simp [dropFree, hpin, h4, forgetL, hz]
        · unfold pinOf at h5 ⊢
          simp only [findL]
          rw [if_neg hz]
          exact h5

theorem filter_forgetL {z : Int} : ∀ {ls : List LineM}, (ls.map (·.at')).Nodup → pinOf z ls = false → (forgetL z ls).filter (·.pin) = ls.filter (·.pin)
  | [], _, _ => rfl
  | y :: r, hn, h => by
    simp only [List.map_cons, List.nodup_cons] at hn
    unfold pinOf at h
    simp only [findL] at h
    simp only [forgetL]
    by_cases e : y.at' = z
    · rw [if_pos e] at h ⊢
      simp only at h
      simp [h]
    · rw [if_neg e] at h ⊢
      simp only [List.filter_cons]
      rw [filter_forgetL hn.2 h]
theorem PinMap.forget {pl : List (Int × Value)} {ls : List LineM} {z : Int} (h : PinMap pl ls) (hn : (ls.map (·.at')).Nodup) (hz : pinOf z ls = false) : PinMap pl (forgetL z ls) := by
  refine ⟨fun i => ?_, ?_⟩
  · rw [h.has, findL_forgetL _ _ hn]
    by_cases e : i = z
    · subst e
      rw [if_pos rfl]
      exact hz
    · rw [if_neg e]
  · rw [h.count, filter_forgetL hn hz]
theorem HasMap.forget {Y : Assn} {hl : List (Int × Value)} {ls : List LineM} {z : Int} (h : HasMap Y hl ls) (hn : (ls.map (·.at')).Nodup) (hk : (hl.map Prod.fst).Nodup) : HasMap Y (delL z hl) (forgetL z ls) := by
  refine ⟨fun i hi => ?_, fun i x hi => ?_⟩
  · rw [getL_delL _ _ hk]
    rw [findL_forgetL _ _ hn] at hi
    by_cases e : i = z
    · rw [if_pos e]
    · rw [if_neg e] at hi ⊢
      exact h.no i hi
  · rw [getL_delL _ _ hk]
    rw [findL_forgetL _ _ hn] at hi
    by_cases e : i = z
    · rw [if_pos e] at hi
      cases hi
    · rw [if_neg e] at hi ⊢
      exact h.yes i x hi
theorem forgetL_nodup {z : Int} {ls : List LineM} (hn : (ls.map (·.at')).Nodup) : ((forgetL z ls).map (·.at')).Nodup := ((forgetL_sub z ls).map _).nodup hn
theorem Bears.mapNodup {w : World} {b : Nat} {l : List (Int × Value)} {R : Assn} (h : Bears w (mapA b l * R)) : (l.map Prod.fst).Nodup := by
  obtain ⟨es, clock, hm, _⟩ := h.ofMapA
  exact hm.nodup

theorem trimL_stop {most : Int} {ls : List LineM} (h : (ls.length : Int) ≤ most) : trimL most ls.length ls = ls := by
  cases hl : ls.length with
  | zero => rfl
  | succ n =>
    simp only [trimL]
    rw [if_pos h]
theorem trimL_none {most : Int} {ls : List LineM} (h : dropFree ls = none) : trimL most ls.length ls = ls := by
  cases hl : ls.length with
  | zero => rfl
  | succ n =>
    simp only [trimL]
    split
    · rfl
    · rw [h]
theorem trimL_some {most : Int} {ls r : List LineM} (h : ¬ (ls.length : Int) ≤ most) (hd : dropFree ls = some r) : trimL most ls.length ls = trimL most r.length r := by
  have hl := (dropFree_sub hd).2
  rw [← hl]
  simp only [trimL]
  rw [if_neg h, hd]

theorem Bears.rowObjN {w : World} {e : TypeId} {a : Option Addr} {c n : Nat} {l : List Int} {R : Assn} (h : Bears w (rowA e 1 (.slice a n c) n (intsV l) * R)) (hn : n = l.length) {k : Nat} (hk : k < n) :
    ∃ g, a = some ⟨g, 0, none⟩ ∧ w.cell? ⟨g, k, none⟩ = some (.int .i64 (l.getD k 0)) := by
  subst hn
  obtain ⟨g, rfl, _⟩ := h.rowAt hk
  exact ⟨g, rfl, h.rowObj' hk⟩

/-- How many cells the slice in a cell has. -/
def World.sliceLen (w : World) (c k : Nat) : Nat := match w.cell? ⟨c, k, none⟩ with | some (.slice _ n _) => n | _ => 0
theorem sliceLen_eq {w : World} {c k n : Nat} {a : Option Addr} {cap : Nat} (h : w.cell? ⟨c, k, none⟩ = some (.slice a n cap)) : World.sliceLen w c k = n := by unfold World.sliceLen; rw [h]

set_option maxRecDepth 100000 in
set_option maxHeartbeats 1000000 in
theorem trim_any {c p x : Nat} {cm : CacheM} {hb pb n : Nat} {ov : Value} {hl pl : List (Int × Value)} {X : Assn} {w : World} {ls : List LineM} (hn : n = ls.length) (hnd : (ls.map (·.at')).Nodup) (hpm : PinMap pl ls)
    (hm : 1 ≤ cm.most ∧ cm.most ≤ 9223372036854775807)
    (h : Bears w (cacheObj c p x cm hb pb ov * (mapA hb hl * (mapA pb pl * (rowA 3 1 ov n (orderV ls) * X))))) :
    Calls Tryz.prog 92 #[.pointer (some ⟨c, 0, none⟩)] w fun e w' => e = .returned (.tuple #[]) ∧ ∃ ov' hl', (∀ Y, HasMap Y hl ls → HasMap Y hl' (trimL cm.most ls.length ls)) ∧ PinMap pl (trimL cm.most ls.length ls) ∧
      Bears w' (cacheObj c p x cm hb pb ov' * (mapA hb hl' * (mapA pb pl * (rowA 3 1 ov' (trimL cm.most ls.length ls).length (orderV (trimL cm.most ls.length ls)) * X)))) := by
  subst hn
  have h1 := h.alloc (.cells #[.pointer (some ⟨c, 0, none⟩)] 76)
  go_enter Tryz.func92, Tryz.ntmps92
  go_wp2_with fail
  generalize w.alloc (.cells #[.pointer (some ⟨c, 0, none⟩)] 76) = w1 at h1
  generalize w.heap.size = bx at h1
  go_loopw [] (fun wr => ∃ ls' ov' hl', trimL cm.most ls.length ls = trimL cm.most ls'.length ls' ∧ (ls'.map (·.at')).Nodup ∧ PinMap pl ls' ∧ (∀ Y, HasMap Y hl ls → HasMap Y hl' ls') ∧
      Bears wr (Assn.obj bx (.cells #[.pointer (some ⟨c, 0, none⟩)] 76 (0, 0)) * (cacheObj c p x cm hb pb ov' * (mapA hb hl' * (mapA pb pl * (rowA 3 1 ov' ls'.length (orderV ls') * X)))))) (fun wr => World.sliceLen wr c 7)
  case atStart => exact ⟨ls, ov, hl, rfl, hnd, hpm, fun _ h => h, h1⟩
  case round =>
    obtain ⟨ls', ov', hl', e1, hnd', hpm', hhm, h2⟩ := hrel
    obtain ⟨a, cap, rfl, hc, hmm, _⟩ := h2.pull5.rowForm
    have hsl := sliceLen_eq (cache_cells h2.pull2).1.2.2.2.2.2.2.2
    have hl63 : ls'.length ≤ 9223372036854775807 := by unfold maxLen at hmm; omega
    obtain ⟨m1, m2⟩ := hm
    have E1 := Lib.hid e1
    have Hnd := Lib.hid hnd'
    have Hpm := Lib.hid hpm'
    have Hhm := Lib.hid hhm
    have Hsl := Lib.hid hsl
    clear e1 hhm hsl hnd hpm h h1 hnd' hpm'
    obtain ⟨nl, hnl⟩ : ∃ nl, ls'.length = nl := ⟨_, rfl⟩
    have Hnl := Lib.hid hnl
    go_wp2_with fail
    refine wp_region_L (fun w' => ∃ Q, Bears w' (Assn.obj bx (.cells #[.pointer (some ⟨c, 0, none⟩)] 76 (0, 0)) * (cacheObj c p x cm hb pb (.slice a ls'.length cap) * Q))) 10
      [(true, 0), (true, 1), (true, 2), (true, 3), (true, 4), (true, 5), (true, 6), (true, 7), (true, 8), (true, 9)] [] (by kernel_rfl) (by kernel_rfl) ⟨_, h2.drew⟩ ?_
    simp only [pick, List.getElem?_cons_zero, List.getElem?_cons_succ]
    refine wpL_yield (v := ?_) rfl (fun w' hS => ?_) ?_
    rotate_left
    · (obtain ⟨_, hS⟩ := hS; have cb := cell_of_obj hS.obj 0; obtain ⟨⟨_, _, c2, _, _, _, _, c7⟩, _⟩ := cache_cells hS.pull2; try simp at cb; go_simp; try with_reducible rfl)
    simp only [Act.put, List.setIfInBounds_toArray, List.set_cons_zero, List.set_cons_succ]
    refine wpL_yield (v := ?_) rfl (fun w' hS => ?_) ?_
    rotate_left
    · (obtain ⟨_, hS⟩ := hS; have cb := cell_of_obj hS.obj 0; obtain ⟨⟨_, _, c2, _, _, _, _, c7⟩, _⟩ := cache_cells hS.pull2; try simp at cb; go_simp; try with_reducible rfl)
    simp only [Act.put, List.setIfInBounds_toArray, List.set_cons_zero, List.set_cons_succ]
    refine wpL_yield (v := ?_) rfl (fun w' hS => ?_) ?_
    rotate_left
    · (obtain ⟨_, hS⟩ := hS; have cb := cell_of_obj hS.obj 0; obtain ⟨⟨_, _, c2, _, _, _, _, c7⟩, _⟩ := cache_cells hS.pull2; try simp at cb; go_simp; try with_reducible rfl)
    simp only [Act.put, List.setIfInBounds_toArray, List.set_cons_zero, List.set_cons_succ]
    refine wpL_yield (v := ?_) rfl (fun w' hS => ?_) ?_
    rotate_left
    · (obtain ⟨_, hS⟩ := hS; have cb := cell_of_obj hS.obj 0; obtain ⟨⟨_, _, c2, _, _, _, _, c7⟩, _⟩ := cache_cells hS.pull2; try simp at cb; go_simp; try with_reducible rfl)
    simp only [Act.put, List.setIfInBounds_toArray, List.set_cons_zero, List.set_cons_succ]
    refine wpL_yield (v := ?_) rfl (fun w' hS => ?_) ?_
    rotate_left
    · (obtain ⟨_, hS⟩ := hS; have cb := cell_of_obj hS.obj 0; obtain ⟨⟨_, _, c2, _, _, _, _, c7⟩, _⟩ := cache_cells hS.pull2; try simp at cb; go_simp; try with_reducible rfl)
    simp only [Act.put, List.setIfInBounds_toArray, List.set_cons_zero, List.set_cons_succ]
    refine wpL_yield (v := ?_) rfl (fun w' hS => ?_) ?_
    rotate_left
    · (obtain ⟨_, hS⟩ := hS; have cb := cell_of_obj hS.obj 0; obtain ⟨⟨_, _, c2, _, _, _, _, c7⟩, _⟩ := cache_cells hS.pull2; try simp at cb; go_simp; try with_reducible rfl)
    simp only [Act.put, List.setIfInBounds_toArray, List.set_cons_zero, List.set_cons_succ]
    refine wpL_yield (v := ?_) rfl (fun w' hS => ?_) ?_
    rotate_left
    · (obtain ⟨_, hS⟩ := hS; have cb := cell_of_obj hS.obj 0; obtain ⟨⟨_, _, c2, _, _, _, _, c7⟩, _⟩ := cache_cells hS.pull2; try simp at cb; go_simp; try with_reducible rfl)
    simp only [Act.put, List.setIfInBounds_toArray, List.set_cons_zero, List.set_cons_succ]
    refine wpL_yield (v := ?_) rfl (fun w' hS => ?_) ?_
    rotate_left
    · (obtain ⟨_, hS⟩ := hS; have cb := cell_of_obj hS.obj 0; obtain ⟨⟨_, _, c2, _, _, _, _, c7⟩, _⟩ := cache_cells hS.pull2; try simp at cb; go_simp; try with_reducible rfl)
    simp only [Act.put, List.setIfInBounds_toArray, List.set_cons_zero, List.set_cons_succ]
    refine wpL_yield (v := ?_) rfl (fun w' hS => ?_) ?_
    rotate_left
    · (obtain ⟨_, hS⟩ := hS; have cb := cell_of_obj hS.obj 0; obtain ⟨⟨_, _, c2, _, _, _, _, c7⟩, _⟩ := cache_cells hS.pull2; try simp at cb; go_simp; try with_reducible rfl)
    simp only [Act.put, List.setIfInBounds_toArray, List.set_cons_zero, List.set_cons_succ]
    refine wpL_yield (v := ?_) rfl (fun w' hS => ?_) ?_
    rotate_left
    · (obtain ⟨_, hS⟩ := hS; have cb := cell_of_obj hS.obj 0; obtain ⟨⟨_, _, c2, _, _, _, _, c7⟩, _⟩ := cache_cells hS.pull2; try simp at cb; go_simp; try with_reducible rfl)
    simp only [Act.put, List.setIfInBounds_toArray, List.set_cons_zero, List.set_cons_succ]
    refine wpL_nil ?_
    refine wpL_nil ?_
    by_cases hlt : cm.most < (nl : Int)
    · have hd : decide (cm.most < (nl : Int)) = true := decide_eq_true hlt
      have h3 : Bears wr.drew (Assn.obj bx (.cells #[.pointer (some ⟨c, 0, none⟩)] 76 (0, 0)) * (cacheObj c p x cm hb pb (.slice a ls'.length cap) * (mapA pb pl * (rowA 3 1 (.slice a ls'.length cap) ls'.length (intsV (ls'.map (·.at'))) * (mapA hb hl' * X))))) :=
        h2.drew.cast (by rw [orderV_eq]; ac_rfl)
      have c7 := (cache_cells h3.pull2).1.2.2.2.2.2.2.2
      have hcall := findex_any (n := ls'.length) (by simp) h3
      have cb := cell_of_obj h3.obj 0
      simp at cb
      have hnd' := Hnd.out
      have Hpin := Hpm.out.each hnd'
      rcases dropFree_forget hnd' Hpin with ⟨k1, k2⟩ | ⟨k, z, k1, k2, k3, k4, k5, k6⟩
      · have hv : idxFV pl (ls'.map (·.at')) = -1 := by unfold idxFV; rw [k1]
        rw [hv] at hcall
        have K2 := Lib.hid k2
        clear k1 k2 hv hnd' Hpin
        rw [hnl] at hcall c7
        go_wp2_with fail
        refine hcall.mono ?_
        rintro e w4 ⟨rfl, rfl⟩
        go_wp2_with fail
        refine bodyPost_ret (results_none rfl _ _ _) rfl ?_
        refine ⟨rfl, .slice a ls'.length cap, hl', ?_, ?_, ?_⟩
        · rw [E1.out, trimL_none K2.out]; exact Hhm.out
        · rw [E1.out, trimL_none K2.out]; exact Hpm.out
        · rw [E1.out, trimL_none K2.out]; exact h2.right.drew
      · have hv : idxFV pl (ls'.map (·.at')) = (k : Int) := by unfold idxFV; rw [k1]
        rw [hv] at hcall
        obtain ⟨g, rfl, hcell⟩ := h3.pull4.rowObjN (by simp) k2
        rw [k3] at hcell
        have hkl : k < nl := by omega
        have K4 := Lib.hid k4
        have K5 := Lib.hid k5
        clear k1 k3 k4 k5 k6 hv hnd' Hpin
        rw [hnl] at hcall c7
        go_wp2_with fail
        refine hcall.mono ?_
        rintro e w4 ⟨rfl, rfl⟩
        have hk0 : decide ((k : Int) < 0) = false := by simp
        go_wp2_with fail
        have h4 : Bears wr.drew (Assn.obj bx (.cells #[.pointer (some ⟨c, 0, none⟩)] 76 (0, 0)) * (cacheObj c p x cm hb pb (.slice (some ⟨g, 0, none⟩) ls'.length cap) * (rowA 3 1 (.slice (some ⟨g, 0, none⟩) ls'.length cap) ls'.length (intsV (ls'.map (·.at'))) * (mapA pb pl * (mapA hb hl' * X))))) :=
          h3.cast (by ac_rfl)
        have hc' : wr.drew.drew.cell? ⟨g, k, none⟩ = some (.int .i64 z) := hcell
        obtain ⟨⟨_, _, c2, _, _, _, _, c7'⟩, _⟩ := cache_cells h4.drew.pull2
        have cb' := cell_of_obj h4.drew.obj 0
        simp at cb'
        rw [hnl] at c7'
        refine wp_region_tail 8 (by kernel_rfl) (by kernel_rfl) ?_
        simp only [List.take_succ_cons, List.take_zero, List.drop_succ_cons, List.drop_zero]
        iterate 8 still_step
        refine wpStill_nil ?_
        go_wp2_with fail
        have h5 : Bears wr.drew.drew (cacheObj c p x cm hb pb (.slice (some ⟨g, 0, none⟩) ls'.length cap) * (mapA hb hl' * (rowA 3 1 (.slice (some ⟨g, 0, none⟩) ls'.length cap) ls'.length (orderV ls') * (Assn.obj bx (.cells #[.pointer (some ⟨c, 0, none⟩)] 76 (0, 0)) * (mapA pb pl * X))))) :=
          h2.drew.drew.cast (by ac_rfl)
        have hkn := h5.pull2.mapNodup
        refine (forget_any rfl h5 z).mono ?_
        rintro e w5 ⟨rfl, ov2, h6⟩
        go_wp2_with fail
        have hfl := (dropFree_sub K4.out).2
        obtain ⟨a2, cap2, rfl, _⟩ := h6.pull3.rowForm
        have hsl2 := sliceLen_eq (cache_cells h6).1.2.2.2.2.2.2.2
        go_roundw
        case rel =>
          refine ⟨forgetL z ls', _, delL z hl', ?_, forgetL_nodup Hnd.out, Hpm.out.forget Hnd.out K5.out, fun Y hY => (Hhm.out Y hY).forget Hnd.out hkn, h6.cast (by ac_rfl)⟩
          rw [E1.out]
          exact trimL_some (by omega) K4.out
        case measure =>
          rw [hsl2, Hsl.out]
          omega
    · have hd : decide (cm.most < (nl : Int)) = false := decide_eq_false hlt
      go_wp2_with fail
      go_end0
      have hs := trimL_stop (most := cm.most) (ls := ls') (by omega)
      refine ⟨rfl, .slice a ls'.length cap, hl', ?_, ?_, ?_⟩
      · rw [E1.out, hs]; exact Hhm.out
      · rw [E1.out, hs]; exact Hpm.out
      · rw [E1.out, hs]; exact h2.right.drew

end Go.Proofs.YtcggloceabjjdaaGreat

/- Rows of single cells; a slice of bytes that nobody else has; append onto nothing; no condition. -/
namespace Go.Proofs.YtcggloceabjjdaaGreat
open Go.RowKit Go.MapKept

theorem i_byte : (Tryz.prog.info? 5).map (fun i => (i.zero, i.size, i.bytes)) = some (some (.int .u8 0), 1, 1) := by kernel_rfl

theorem rowA_bytes {e : TypeId} {ad : Option Addr} {n cap : Nat} {l : List UInt8} {R : Assn} (hn : n = l.length) : (rowA e 1 (.slice ad n cap) n (cellsV l) * R).Tells (fun w => BytesIn w (.slice ad n cap) l) := by
  intro w h
  subst hn
  refine ⟨ad, cap, rfl, fun hne => ?_⟩
  obtain ⟨g, rfl, _⟩ := h.rowAt (k := 0) (by cases l with | nil => exact absurd rfl hne | cons _ _ => simp)
  refine ⟨g, 0, rfl, fun j v hv => ?_⟩
  have hj : j < l.length := by have := (List.getElem?_eq_some_iff.1 hv).1; simpa using this
  obtain ⟨g', e', hr⟩ := h.rowAt (k := j) hj
  cases e'
  have := hr 0 v (by rw [List.getElem?_take_of_lt (by decide), List.getElem?_drop]; simpa using hv)
  simpa using this

theorem Bears.zeroRow {w : World} {R : Assn} {e : TypeId} {size : Nat} (h : Bears w R) : Bears (w.alloc (.cells #[] e)) (rowA e size (.slice (some ⟨w.heap.size, 0, none⟩) 0 0) 0 [] * R) := by
  have h2 := h.alloc (.cells #[] e)
  obtain ⟨F, G, H, ⟨hb, rfl⟩, hR, hd, rfl⟩ := h2
  exact ⟨_, _, H, ⟨⟨by simp, .inr ⟨w.heap.size, 0, #[], rfl, Nat.zero_le _, hb, Nat.le_refl _, Nat.zero_le _, by simp, by simp⟩⟩, by funext b; simp [Value.ownBlock, eq_comm]⟩, hR, hd, rfl⟩

/-- A cell of a row of single cells: read, and written. -/
theorem Bears.rowCell {w : World} {e : TypeId} {g c n : Nat} {xs : List Value} {R : Assn} (h : Bears w (rowA e 1 (.slice (some ⟨g, 0, none⟩) n c) n xs * R)) {i : Nat} (hi : i < n) {v : Value} (hv : xs[i]? = some v) : w.cell? ⟨g, i, none⟩ = some v := by
  obtain ⟨g', e1, h1⟩ := h.rowAt (k := i) hi
  cases e1
  have := h1 0 v (by rw [List.getElem?_take_of_lt (by decide), List.getElem?_drop]; simpa using hv)
  simpa using this
theorem Bears.rowFrozen {w : World} {e : TypeId} {g c n : Nat} {xs : List Value} {R : Assn} (h : Bears w (rowA e 1 (.slice (some ⟨g, 0, none⟩) n c) n xs * R)) (i : Nat) : w.frozen? ⟨g, i, none⟩ = false := by
  obtain ⟨_, h⟩ := h.row
  rcases h with ⟨h, _⟩ | ⟨g', cap, cur, hv, _, hg, _⟩
  · cases h
  · simp only [Value.slice.injEq, Option.some.injEq, Addr.mk.injEq] at hv
    obtain ⟨⟨rfl, _⟩, _⟩ := hv
    exact frozen_of_obj hg i
theorem Bears.rowSet {w : World} {e : TypeId} {g c n : Nat} {xs : List Value} {R : Assn} (h : Bears w (rowA e 1 (.slice (some ⟨g, 0, none⟩) n c) n xs * R)) {i : Nat} (_hi : i < n) (v : Value) :
    Bears (w.setCell ⟨g, i, none⟩ v) (rowA e 1 (.slice (some ⟨g, 0, none⟩) n c) n (xs.set i v) * R) := by
  obtain ⟨F, G, H, ⟨⟨hl, hr⟩, rfl⟩, hR, hd, rfl⟩ := h
  rcases hr with ⟨h, _⟩ | ⟨g', cap, cur, hv, hb, hg, hn, hm, hs, ht⟩
  · cases h
  · simp only [Value.slice.injEq, Option.some.injEq, Addr.mk.injEq] at hv
    obtain ⟨⟨rfl, _⟩, _, rfl⟩ := hv
    refine ⟨_, _, H, ⟨⟨by simpa using hl, .inr ⟨g, c, cur.setIfInBounds i v, rfl, hb, ?_, hn, hm, by simpa using hs, ?_⟩⟩, rfl⟩, R.loc hR ⟨rfl, rfl, rfl, by simp⟩ (fun b hb => Below.heap_setCell _ _ _ _ (fun e => hd b (by rw [e]; rfl) hb)), hd, rfl⟩
    · simp [World.setCell, Array.getElem?_modify, hg]
    · rw [Array.toList_setIfInBounds, List.take_set, ht]

/-- Cells of a row, written one behind the other. -/
theorem Bears.rowSets {e : TypeId} {g c n : Nat} {R : Assn} : ∀ (vs : List Value) (o : Nat) {w : World} {xs : List Value}, Bears w (rowA e 1 (.slice (some ⟨g, 0, none⟩) n c) n xs * R) → o + vs.length ≤ n →
    Bears (w.setCells g o vs) (rowA e 1 (.slice (some ⟨g, 0, none⟩) n c) n (setList xs.toArray o vs).toList * R)
  | [], _, _, _, h, _ => h
  | v :: r, o, w, xs, h, hl => by
    simp only [List.length_cons] at hl
    have h1 := h.rowSet (i := o) (by omega) v
    have h2 := Bears.rowSets r (o + 1) h1 (by omega)
    have e1 : (setList xs.toArray o (v :: r)) = setList (xs.set o v).toArray (o + 1) r := by simp [setList]
    rw [e1]
    exact h2

/-- The slice v has the bytes l, and lies in a block of its own. -/
def bufA (v : Value) (l : List UInt8) : Assn := Assn.ex fun (z : Option (Nat × Nat × List UInt8 × List UInt8)) => match z with
  | none => Assn.fact (∃ ad c, v = .slice ad 0 c ∧ l = [])
  | some (g, cap, pre, post) => Assn.fact (∃ c, v = .slice (some ⟨g, pre.length, none⟩) l.length c) *
      rowA 5 1 (.slice (some ⟨g, 0, none⟩) (pre ++ l ++ post).length cap) (pre ++ l ++ post).length (cellsV (pre ++ l ++ post))

theorem Bears.bufNil {w : World} {ad : Option Addr} {c : Nat} {R : Assn} (h : Bears w R) : Bears w (bufA (.slice ad 0 c) [] * R) := by
  unfold bufA
  rw [Bears.ex]
  exact ⟨none, Bears.fact.2 ⟨⟨ad, c, rfl, rfl⟩, h⟩⟩
theorem Bears.bufPart {w : World} {g c cap n : Nat} {pre l post : List UInt8} {R : Assn} (h : Bears w (rowA 5 1 (.slice (some ⟨g, 0, none⟩) n cap) n (cellsV (pre ++ l ++ post)) * R)) (hn : n = (pre ++ l ++ post).length) :
    Bears w (bufA (.slice (some ⟨g, pre.length, none⟩) l.length c) l * R) := by
  subst hn
  unfold bufA
  rw [Bears.ex]
  refine ⟨some (g, cap, pre, post), ?_⟩
  simp only [Assn.mul_assoc']
  exact Bears.fact.2 ⟨⟨c, rfl⟩, h⟩
theorem Bears.bufCases {w : World} {v : Value} {l : List UInt8} {R : Assn} (h : Bears w (bufA v l * R)) : (l = [] ∧ ∃ ad c, v = .slice ad 0 c) ∨
    ∃ g cap c pre post, v = .slice (some ⟨g, pre.length, none⟩) l.length c ∧ Bears w (rowA 5 1 (.slice (some ⟨g, 0, none⟩) (pre ++ l ++ post).length cap) (pre ++ l ++ post).length (cellsV (pre ++ l ++ post)) * R) := by
  unfold bufA at h
  rw [Bears.ex] at h
  obtain ⟨z, h⟩ := h
  match z with
  | none =>
    obtain ⟨⟨ad, c, h1, h2⟩, _⟩ := Bears.fact.1 h
    exact .inl ⟨h2, ad, c, h1⟩
  | some (g, cap, pre, post) =>
    simp only [Assn.mul_assoc'] at h
    obtain ⟨⟨c, h1⟩, h2⟩ := Bears.fact.1 h
    exact .inr ⟨g, cap, c, pre, post, h1, h2⟩
theorem Bears.bufRow {w : World} {ad : Option Addr} {n c : Nat} {l : List UInt8} {R : Assn} (h : Bears w (rowA 5 1 (.slice ad n c) n (cellsV l) * R)) : Bears w (bufA (.slice ad n c) l * R) := by
  obtain ⟨hl, hr⟩ := h.row
  rcases hr with ⟨e1, e2⟩ | ⟨g, cap, cur, hv, _⟩
  · subst e2
    have : l = [] := by
      have : l.length = 0 := by simpa using hl
      exact List.length_eq_zero_iff.1 this
    subst this
    cases e1
    exact (h.right).bufNil
  · simp only [Value.slice.injEq] at hv
    obtain ⟨rfl, _, rfl⟩ := hv
    have hn : n = l.length := by simpa using hl.symm
    have := Bears.bufPart (pre := []) (post := []) (c := c) (l := l) (by simpa using h) (by simpa using hn)
    rw [hn]
    exact this
theorem Bears.bufLen {w : World} {ad : Option Addr} {n c : Nat} {l : List UInt8} {R : Assn} (h : Bears w (bufA (.slice ad n c) l * R)) : n = l.length := by
  rcases h.bufCases with ⟨rfl, _, _, e⟩ | ⟨_, _, _, _, _, e, _⟩
  · simp only [Value.slice.injEq] at e; simp [e.2.1]
  · simp only [Value.slice.injEq] at e; exact e.2.1

theorem Bears.bufMax {w : World} {v : Value} {l : List UInt8} {R : Assn} (h : Bears w (bufA v l * R)) : l.length ≤ maxLen := by
  rcases h.bufCases with ⟨rfl, _⟩ | ⟨g, cap, c, pre, post, _, h1⟩
  · exact Nat.zero_le _
  · obtain ⟨_, c', e, h2, h3, _⟩ := h1.rowForm
    simp at h2
    omega

theorem Bears.bufAt {w : World} {ad : Option Addr} {n c : Nat} {l : List UInt8} {R : Assn} (h : Bears w (bufA (.slice ad n c) l * R)) {j : Nat} (hj : j < l.length) :
    ∃ g o, ad = some ⟨g, o, none⟩ ∧ w.cell? ⟨g, o + j, none⟩ = some (byteV (l.getD j 0)) ∧ w.frozen? ⟨g, o + j, none⟩ = false ∧
      ∀ u, Bears (w.setCell ⟨g, o + j, none⟩ (byteV u)) (bufA (.slice ad n c) (l.set j u) * R) := by
  rcases h.bufCases with ⟨rfl, _, _, e⟩ | ⟨g, cap, c', pre, post, e, h1⟩
  · simp at hj
  · simp only [Value.slice.injEq] at e
    obtain ⟨rfl, rfl, rfl⟩ := e
    have hlt : pre.length + j < (pre ++ l ++ post).length := by simp; omega
    refine ⟨g, pre.length, rfl, h1.rowCell hlt ?_, h1.rowFrozen _, fun u => ?_⟩
    · simp [cellsV, List.getElem?_append, hj]
    · have h2 := h1.rowSet hlt (byteV u)
      have e2 : (cellsV (pre ++ l ++ post)).set (pre.length + j) (byteV u) = cellsV (pre ++ l.set j u ++ post) := by
        unfold cellsV
        rw [← List.map_set, List.append_assoc, List.append_assoc, List.set_append_right _ _ (Nat.le_add_right _ _), Nat.add_sub_cancel_left, List.set_append_left _ _ hj]
      rw [e2] at h2
      have := Bears.bufPart (pre := pre) (post := post) (c := c) (l := l.set j u) h2 (by simp)
      simpa using this
theorem buf_tells {ad : Option Addr} {n c : Nat} {l : List UInt8} {R : Assn} : (bufA (.slice ad n c) l * R).Tells (fun w => BytesIn w (.slice ad n c) l) := by
  intro w h
  have hn := h.bufLen
  subst hn
  refine ⟨ad, c, rfl, fun hne => ?_⟩
  have hpos : 0 < l.length := List.length_pos_iff.2 hne
  obtain ⟨g, o, rfl, _⟩ := h.bufAt hpos
  refine ⟨g, o, rfl, fun j v hv => ?_⟩
  have hj : j < l.length := by have := (List.getElem?_eq_some_iff.1 hv).1; simpa using this
  obtain ⟨g', o', e, h1, _⟩ := h.bufAt hj
  cases e
  rw [h1]
  simpa [cellsV, hj] using hv

theorem addr_cells {w : World} {b o : Nat} {vs : List Value} (h : w.rangeAt b o vs) : ∀ j u, vs[j]? = some u → w.cell? ((⟨b, o, none⟩ : Addr).add j) = some u := fun j u hu => by
  have h9 := h j u hu
  unfold Addr.add
  by_cases hj : j = 0
  · subst hj; simpa using h9
  · simpa [hj] using h9
/-- A slice that is made, in a region. -/
theorem wp_make {w w' : World} {o : Oper} {a : Act} {K : Act → World → Prop} {Q : Exit → Act → World → Prop} {ty : TypeId} {x y : Operand} {vx vy v : Value} (ho : o.op = .makeSlice ty x y) (hx : a.eval x = vx) (hy : a.eval y = vy)
    (hrun : (Instr.makeSlice ty vx vy).run Tryz.prog w = .ok v w') (h : K (a.put o.dst v) w') : o.wp Tryz.prog a w K Q := by
  unfold Oper.wp execOp
  simp only [ho, hx, hy, Sem.run_bind, Sem.run_pure, hrun, Result.andThen_ok]
  exact h
/-- 'append([]byte{}, s...)'. -/
theorem run_append_fresh {w : World} {R : Assn} (h : Bears w R) {ad : Option Addr} {n c : Nat} {l : List UInt8} (hs : BytesIn w (.slice ad n c) l) (hl : l.length ≤ 140737488355328) (b0 : Addr) (ty : TypeId) :
    ∃ a' c' w', (Builtin.append_ #[34, 34] ty #[.slice (some b0) 0 0, .slice ad n c]).run Tryz.prog w = .ok (.slice a' n c') w' ∧ Bears w' (bufA (.slice a' n c') l * R) := by
  have hn := hs.len
  subst hn
  obtain ⟨i, hi, hz⟩ : ∃ i, Tryz.prog.info? 5 = some i ∧ (i.zero = some (.int .u8 0) ∧ i.size = 1 ∧ i.bytes = 1) := by
    have : (Tryz.prog.info? 5).map (fun i => (i.zero, i.size, i.bytes)) = some (some (Value.int IntKind.u8 0), 1, 1) := by kernel_rfl
    obtain ⟨i, hi, e⟩ := Option.map_eq_some_iff.1 this
    simp only [Prod.mk.injEq] at e
    exact ⟨i, hi, e⟩
  obtain ⟨hz, hsz, hby⟩ := hz
  by_cases h0 : l = []
  · subst h0
    refine ⟨some b0, 0, w, ?_, h.bufNil⟩
    cases ad <;> simp [Builtin.append_, run_underlying Tryz.underlying34, sizeOf, typeInfo, hi, storeCells, Builtin.lenOf, Builtin.firstCells, loadCells, loadCellsFrom]
  · obtain ⟨b, o, rfl, hr⟩ := hs.at h0
    have hpos : 0 < l.length := List.length_pos_iff.2 h0
    have hg := run_append_grow (P := Tryz.prog) w 34 ty 5 i (.int .u8 0) Tryz.underlying34 hi hz b0 0 0 [] (by simp) (by intro j v hj; simp at hj) ⟨b, o, none⟩ l.length c (cellsV l) (by simp [hsz])
      (addr_cells hr) (by omega) (by omega) (growslice_fits (by omega) (by rw [hby]; omega))
    simp only [Nat.zero_add] at hg
    have hge := grownCap_ge w l.length 0 5
    have hcm : grownCap w l.length 0 5 ≤ maxLen := grownCap_le_maxLen w l.length 0 5 (by unfold maxLen; omega)
    generalize grownCap w l.length 0 5 = cap at hg hge hcm
    refine ⟨_, _, _, hg, Bears.bufRow ?_⟩
    refine (Bears.nilRow.2 h).appended ⟨by simp, .inr ⟨w.heap.size, cap, _, rfl, Nat.zero_le _, heap_alloc_new w.drew _, hge, hcm, ?_, ?_⟩⟩ ⟨rfl, rfl, rfl, by simp, fun k hk _ => heap_alloc_old w.drew _ hk⟩ (.inr rfl)
    · simp [size_zeroCells, Value.cells]
      omega
    · simp only [Array.toList_append, List.append_assoc]
      simp

theorem wpList_append_fresh {w : World} {ops : Array Oper} {rest : List Oper} {o : Oper} {a : Act} {Q : Exit → Act → World → Prop} {s x : Operand} {R : Assn} (h : Bears w R) (hg : o.guard = none)
    (ho : o.op = .call { callee := .builtin .append, args := #[s, x], argTypes := #[34, 34] }) {b0 : Addr} {ad : Option Addr} {n c : Nat} {l : List UInt8} (hs : a.eval s = .slice (some b0) 0 0) (hx : a.eval x = .slice ad n c)
    (hb : BytesIn w (.slice ad n c) l) (hl : l.length ≤ 140737488355328) (hK : ∀ a' c' w', Bears w' (bufA (.slice a' n c') l * R) → wpList Tryz.prog ops Q rest (a.put o.dst (.slice a' n c')) w') : wpList Tryz.prog ops Q (o :: rest) a w :=
  wpList_plain hg fun K hK' => by
    obtain ⟨a', c', w', hr, h'⟩ := run_append_fresh h hb hl b0 o.type
    unfold Oper.wp execOp
    simp only [ho, resolve, invoke, builtin, Sem.run_bind, Sem.run_pure, Result.andThen_ok, List.map_toArray, List.map_cons, List.map_nil, hs, hx, hr]
    exact hK' _ _ (hK a' c' w' h')

end Go.Proofs.YtcggloceabjjdaaGreat

/- Walks of the cache's functions, part 9: copies of rows; Read; no condition. -/
namespace Go.Proofs.YtcggloceabjjdaaGreat
open Go.RowKit Go.MapKept

set_option maxRecDepth 100000 in
set_option maxHeartbeats 400000 in
theorem bclone_any {R : Assn} {w : World} {ad : Option Addr} {n cap : Nat} {l : List UInt8} (h : Bears w R) (hb : R.Tells (fun w => BytesIn w (.slice ad n cap) l)) (hne : l ≠ []) (hl : l.length < 1099511627776) :
    Calls Tryz.prog 95 #[.slice ad n cap] w fun e w' => ∃ ad' cap', e = .returned (.slice ad' n cap') ∧ Bears w' (rowA 5 1 (.slice ad' n cap') n (cellsV l) * R) := by
  obtain ⟨i0, hi0, hz0, hz1, hz2⟩ := info_parts i_byte
  obtain rfl : n = l.length := (hb _ h).len
  obtain ⟨b, o, rfl, hr⟩ := (hb _ h).at hne
  have hq := fun w => Lib.run_eql_slice_nil (P := Tryz.prog) w 34 _ (some ⟨b, o, none⟩) l.length cap 0 0 u_bytes
  have h3 := h.zeroRow (e := 5) (size := 1)
  have hnews : ∀ j u, (cellsV l)[j]? = some u → (w.alloc (.cells #[] 5)).cell? ((⟨b, o, none⟩ : Addr).add j) = some u := fun j u hu => by
    obtain ⟨b', o', e', hr'⟩ := (hb _ h3.right).at hne
    cases e'
    have h9 := hr' j u hu
    unfold Addr.add
    by_cases hj : j = 0
    · subst hj; simpa using h9
    · simpa [hj] using h9
  have h0 := Lib.hid hnews
  clear hr hnews
  go_enter Tryz.func95, Tryz.ntmps95
  go_wp2_with (at_builtin; refine wpList_append_bears h3 rfl rfl u_bytes hi0 hz0 hz1 hz2 (by simp [Value.cells]) (by decide) rfl (ad := ⟨b, o, none⟩) (m := l.length) (c := cap) (news := cellsV l) rfl (by simp) h0.out (oneCell_cellsV l) (by unfold maxLen; omega) (by omega) ?_; intro a' c' w3 h4)
  go_ret
  exact ⟨a', c', by simp, h4.cast (by simp)⟩

theorem HasMap.more {Y Z : Assn} {hl : List (Int × Value)} {ls : List LineM} (h : HasMap Y hl ls) : HasMap (Z * Y) hl ls :=
  ⟨h.no, fun i x hx => by obtain ⟨ad, cap, h1, h2⟩ := h.yes i x hx; exact ⟨ad, cap, h1, h2.right⟩⟩
theorem HasMap.use {Y : Assn} {hl : List (Int × Value)} {ls : List LineM} (h : HasMap Y hl ls) (hn : (ls.map (·.at')).Nodup) (hk : (hl.map Prod.fst).Nodup) {y : LineM} {ad : Option Addr} {cap : Nat}
    (hy : Y.Tells (fun w => BytesIn w (.slice ad y.b.length cap) y.b)) : HasMap Y (putL y.at' (.slice ad y.b.length cap) (delL y.at' hl)) (useL y ls) := by
  refine ⟨fun i hi => ?_, fun i x hi => ?_⟩
  · rw [findL_useL hn] at hi
    rw [getL_putL, getL_delL _ _ hk]
    by_cases e : i = y.at'
    · rw [if_pos e] at hi; cases hi
    · rw [if_neg e] at hi
      rw [if_neg e, if_neg e]
      exact h.no i hi
  · rw [findL_useL hn] at hi
    rw [getL_putL, getL_delL _ _ hk]
    by_cases e : i = y.at'
    · rw [if_pos e] at hi ⊢
      simp only [Option.some.injEq] at hi
      subst hi
      exact ⟨ad, cap, rfl, hy⟩
    · rw [if_neg e] at hi
      rw [if_neg e, if_neg e]
      exact h.yes i x hi
theorem PinMap.use {pl : List (Int × Value)} {ls : List LineM} (h : PinMap pl ls) (hn : (ls.map (·.at')).Nodup) {y : LineM} (hy : pinOf y.at' ls = y.pin) : PinMap pl (useL y ls) := by
  refine ⟨fun i => ?_, ?_⟩
  · rw [h.has, findL_useL hn]
    by_cases e : i = y.at'
    · subst e
      rw [if_pos rfl]
      exact hy
    · rw [if_neg e]
  · rw [h.count]
    unfold useL
    rw [List.filter_append, List.length_append]
    cases hp : y.pin with
    | false =>
      rw [hp] at hy
      rw [filter_forgetL hn hy]
      simp [hp]
    | true =>
      rw [hp] at hy
      clear h
      simp only [List.filter_cons, List.filter_nil, hp, if_true, List.length_cons, List.length_nil]
      induction ls with
      | nil => simp [pinOf, findL] at hy
      | cons z r ih =>
        simp only [List.map_cons, List.nodup_cons] at hn
        unfold pinOf at hy
        simp only [findL] at hy
        simp only [forgetL]
        by_cases e : z.at' = y.at'
        · rw [if_pos e] at hy ⊢
          simp only at hy
          simp [hy]
        · rw [if_neg e] at hy ⊢
          have := ih hn.2 hy
          simp only [List.filter_cons]
          split
          · simp only [List.length_cons]; omega
          · exact this

theorem useL_length {y : LineM} {ls : List LineM} : (useL y ls).length ≤ ls.length + 1 := by
  unfold useL
  have := (forgetL_sub y.at' ls).length_le
  simp
  omega
theorem mem_useL {y z : LineM} {ls : List LineM} (h : z ∈ useL y ls) : z = y ∨ z ∈ ls := by
  unfold useL at h
  rcases List.mem_append.1 h with h | h
  · exact .inr ((forgetL_sub y.at' ls).subset h)
  · simp at h; exact .inl h

/-- A line used, and what is too much let go. -/
def CacheM.used (c : CacheM) (y : LineM) : CacheM := { c with lines := trimL c.most (useL y c.lines).length (useL y c.lines) }
theorem CacheM.WF.used {c : CacheM} (h : c.WF) {y : LineM} (hb : y.b.length = 64) (hp : c.isOpen = false → y.pin = false) (hpl : y.pin = true → 0 ≤ y.at' ∧ y.at' ≤ 8192) : (c.used y).WF := by
  refine ⟨((trimL_sub _ _ _).map _).nodup (useL_nodup h.nodup), fun x hx => ?_, h.most, h.misses, fun ho x hx => ?_, fun x hx => ?_⟩
  · rcases mem_useL ((trimL_sub _ _ _).subset hx) with rfl | hx
    · exact hb
    · exact h.bytes x hx
  · rcases mem_useL ((trimL_sub _ _ _).subset hx) with rfl | hx
    · exact hp ho
    · exact h.closed ho x hx
  · rcases mem_useL ((trimL_sub _ _ _).subset hx) with rfl | hx
    · exact hpl
    · exact h.place x hx

end Go.Proofs.YtcggloceabjjdaaGreat

/- Walks of the cache's functions, part 10: Read, Begin, Write, Held, Pinned; no condition. -/
namespace Go.Proofs.YtcggloceabjjdaaGreat
open Go.RowKit Go.MapKept

theorem pinOf_some {i : Int} {y : LineM} {ls : List LineM} (h : findL i ls = some y) : pinOf i ls = y.pin := by unfold pinOf; rw [h]
theorem pinOf_none {i : Int} {ls : List LineM} (h : findL i ls = none) : pinOf i ls = false := by unfold pinOf; rw [h]

/-- What a cache answers to a reading, and what it is behind it. -/
def CacheM.read (c : CacheM) (d : DiskM) (i : Int) : Int × Sec × CacheM :=
  match findL i c.lines with
  | some y => (0, y.b, c.used y)
  | none => if d.check i ≠ 0 then (d.check i, [], c) else (0, d.now i.toNat, ({ c with misses := wrap64 (c.misses + 1) } : CacheM).used ⟨i, d.now i.toNat, false⟩)

theorem wrap64_bounds (x : Int) : -9223372036854775808 ≤ wrap64 x ∧ wrap64 x ≤ 9223372036854775807 := by unfold wrap64; omega

theorem Bears.diskWF {w : World} {p : Nat} {d : DiskM} {R : Assn} (h : Bears w (diskA p d * R)) : d.WF := by
  obtain ⟨_, _, _, _, _, hd, _⟩ := Bears.disk.1 h
  exact hd
theorem DiskM.WF.now64 {d : DiskM} (h : d.WF) (i : Nat) : (d.now i).length = 64 := settle_length h.sure (fun p hp => (h.waits p hp).2) i

set_option maxRecDepth 100000 in
set_option maxHeartbeats 1000000 in
theorem cread_held {c p x : Nat} {cm : CacheM} {R : Assn} {w : World} {i : Int} {y : LineM} (h : Bears w (cacheA c p x cm * R)) (hf : findL i cm.lines = some y) (hlen : cm.lines.length < 1099511627775) :
    Calls Tryz.prog 62 #[.pointer (some ⟨c, 0, none⟩), .int .i64 i] w fun e w' => ∃ ad cap, e = .returned (.tuple #[.slice ad y.b.length cap, .int .i64 0]) ∧
      Bears w' (rowA 5 1 (.slice ad y.b.length cap) y.b.length (cellsV y.b) * (cacheA c p x (cm.used y) * R)) := by
  obtain ⟨hb, pb, ov, hl, pl, Y, hwf, hhm, hpm, h0⟩ := Bears.cache.1 h
  obtain ⟨⟨c0, c1, c2, c3, c4, c5, c6, c7⟩, _⟩ := cache_cells h0
  obtain ⟨hym, rfl⟩ := findL_mem hf
  obtain ⟨ad, cap, hg, hY⟩ := hhm.yes _ _ hf
  have hy64 := hwf.bytes y hym
  have hz : ∀ w, (zeroValue 34).run Tryz.prog w = .ok (.slice none 0 0) w := fun _ => by kernel_rfl
  have hh := h0.pull2
  have hk := hh.mapNodup
  have hmap' := Lib.hid (hhm.use hwf.nodup hk hY)
  have hpm' := Lib.hid (hpm.use hwf.nodup (pinOf_some hf))
  have hu := use_any rfl (by omega) h0.c34 y (.slice ad y.b.length cap)
  have Hy := Lib.hid hy64
  have Hwf := Lib.hid hwf
  have Hf := Lib.hid hf
  have hul : (useL y cm.lines).length < 1099511627776 := by have := useL_length (y := y) (ls := cm.lines); omega
  clear hf hy64 hwf hhm hpm hym h hk
  go_enter Tryz.func62, Tryz.ntmps62
  go_wp2_with (refine wpList_lookup_ok_bears hh rfl rfl u_has u_int (hz _) rfl rfl ?_; rw [hg]; simp only [Option.getD_some, Option.isSome_some])
  refine hu.mono ?_
  rintro e w1 ⟨rfl, ov1, h1⟩
  go_wp2_with fail
  refine (trim_any rfl (useL_nodup Hwf.out.nodup) hpm'.out Hwf.out.most h1.c34).mono ?_
  rintro e w2 ⟨rfl, ov2, hl2, hm2, hp2, h2⟩
  go_wp2_with fail
  have hY2 : (cacheObj c p x cm hb pb ov2 * (mapA hb hl2 * (mapA pb pl * (rowA 3 1 ov2 (trimL cm.most (useL y cm.lines).length (useL y cm.lines)).length (orderV (trimL cm.most (useL y cm.lines).length (useL y cm.lines))) * (Y * R))))).Tells (fun w => BytesIn w (.slice ad y.b.length cap) y.b) :=
    fun w hw => hY w hw.right.right.right.right.left
  refine (bclone_any h2 hY2 (ne_nil_of_64 Hy.out) (by rw [Hy.out]; decide)).mono ?_
  rintro e w3 ⟨ad', cap', rfl, h3⟩
  go_wp2_with fail
  go_ret2
  refine ⟨ad', cap', rfl, ?_⟩
  have h4 := h3.pull2
  refine Bears.pull2 (Bears.cache.2 ⟨hb, pb, ov2, hl2, pl, Y, Hwf.out.used Hy.out (fun ho => Hwf.out.closed ho y (findL_mem Hf.out).1) (Hwf.out.place y (findL_mem Hf.out).1), hm2 Y hmap'.out, hp2, ?_⟩)
  simp only [CacheM.used]
  exact h4.cast (by ac_rfl)

set_option maxRecDepth 100000 in
set_option maxHeartbeats 1000000 in
theorem cread_disk {c p x : Nat} {cm : CacheM} {d : DiskM} {R : Assn} {w : World} {i : Int} (h : Bears w (cacheA c p x cm * (diskA p d * R))) (hf : findL i cm.lines = none) (hck : d.check i = 0) (hlen : cm.lines.length < 1099511627775) :
    Calls Tryz.prog 62 #[.pointer (some ⟨c, 0, none⟩), .int .i64 i] w fun e w' => ∃ ad cap, e = .returned (.tuple #[.slice ad 64 cap, .int .i64 0]) ∧
      Bears w' (rowA 5 1 (.slice ad 64 cap) 64 (cellsV (d.now i.toNat)) * (cacheA c p x (({ cm with misses := wrap64 (cm.misses + 1) } : CacheM).used ⟨i, d.now i.toNat, false⟩) * (diskA p d * R))) := by
  have hs64 := h.pull2.diskWF.now64 i.toNat
  obtain ⟨hb, pb, ov, hl, pl, Y, hwf, hhm, hpm, h0⟩ := Bears.cache.1 h
  obtain ⟨⟨c0, c1, c2, c3, c4, c5, c6, c7⟩, _⟩ := cache_cells h0
  have hg := hhm.no _ hf
  generalize hs : d.now i.toNat = s at hs64
  have hz : ∀ w, (zeroValue 34).run Tryz.prog w = .ok (.slice none 0 0) w := fun _ => by kernel_rfl
  have hh := h0.pull2
  have hr := read_to (p := p) (s := s) i (h0.cast (by ac_rfl : _ = diskA p d * (cacheObj c p x cm hb pb ov * (mapA hb hl * (mapA pb pl * (rowA 3 1 ov cm.lines.length (orderV cm.lines) * (Y * R))))))) hck hs
  have Hs := Lib.hid hs64
  have Hwf := Lib.hid hwf
  have Hf := Lib.hid hf
  have Hpm := Lib.hid hpm
  have Hhm := Lib.hid hhm
  clear hf hs64 hwf hhm hpm h hs hck
  go_enter Tryz.func62, Tryz.ntmps62
  go_wp2_with (refine wpList_lookup_ok_bears hh rfl rfl u_has u_int (hz _) rfl rfl ?_; rw [hg]; simp only [Option.getD_none, Option.isSome_none])
  refine hr.mono ?_
  rintro e w1 ⟨g, rfl, h1⟩
  have h1' := h1.pull3
  obtain ⟨⟨d0, d1, d2, d3, d4, d5, d6, d7⟩, df⟩ := cache_cells h1'
  have df3 := df 3
  have h2 := h1'.setCell (i := 3) (.int .i64 (wrap64 (cm.misses + 1)))
  simp only [List.setIfInBounds_toArray, List.set_cons_zero, List.set_cons_succ] at h2
  have h3 : Bears (w1.setCell ⟨c, 3, none⟩ (.int .i64 (wrap64 (cm.misses + 1)))) (cacheObj c p x ({ cm with misses := wrap64 (cm.misses + 1) } : CacheM) hb pb ov * (mapA hb hl * (rowA 3 1 ov cm.lines.length (orderV cm.lines) *
      (mapA pb pl * ((Assn.obj g (.cells (cellsV s).toArray 86 (0, 0)) * Y) * (diskA p d * R)))))) := h2.cast (by simp only [cacheObj]; ac_rfl)
  have hmap' := Lib.hid (Hhm.out.more (Z := Assn.obj g (.cells (cellsV s).toArray 86 (0, 0))) |>.use Hwf.out.nodup h3.pull2.mapNodup (y := ⟨i, s, false⟩) (ad := some ⟨g, 0, none⟩) (cap := 64) (BytesIn.tells _ _ rfl))
  have hpm' := Lib.hid (Hpm.out.use Hwf.out.nodup (y := ⟨i, s, false⟩) (pinOf_none Hf.out))
  have hu := use_any rfl (by omega) h3 ⟨i, s, false⟩ (.slice (some ⟨g, 0, none⟩) s.length 64)
  have hul : (useL ⟨i, s, false⟩ cm.lines).length < 1099511627776 := by have := useL_length (y := ⟨i, s, false⟩) (ls := cm.lines); omega
  rw [Hs.out] at hu
  clear h1 h1' h2
  go_wp2_with fail
  refine hu.mono ?_
  rintro e w2 ⟨rfl, ov1, h4⟩
  go_wp2_with fail
  refine (trim_any (cm := { cm with misses := wrap64 (cm.misses + 1) }) rfl (useL_nodup Hwf.out.nodup) hpm'.out Hwf.out.most h4.c34).mono ?_
  rintro e w3 ⟨rfl, ov2, hl2, hm2, hp2, h5⟩
  have hm3 := hm2 _ (by have := hmap'.out; rw [Hs.out] at this; exact this)
  go_wp2_with fail
  have hY2 : (cacheObj c p x ({ cm with misses := wrap64 (cm.misses + 1) } : CacheM) hb pb ov2 * (mapA hb hl2 * (mapA pb pl * (rowA 3 1 ov2 (trimL cm.most (useL ⟨i, s, false⟩ cm.lines).length (useL ⟨i, s, false⟩ cm.lines)).length (orderV (trimL cm.most (useL ⟨i, s, false⟩ cm.lines).length (useL ⟨i, s, false⟩ cm.lines))) *
      ((Assn.obj g (.cells (cellsV s).toArray 86 (0, 0)) * Y) * (diskA p d * R)))))).Tells (fun w => BytesIn w (.slice (some ⟨g, 0, none⟩) 64 64) s) :=
    fun w hw => BytesIn.tells _ _ Hs.out.symm _ hw.right.right.right.right.left
  refine (bclone_any h5 hY2 (ne_nil_of_64 Hs.out) (by rw [Hs.out]; decide)).mono ?_
  rintro e w4 ⟨ad', cap', rfl, h6⟩
  go_wp2_with fail
  go_ret2
  refine ⟨ad', cap', rfl, ?_⟩
  have hw2 : CacheM.WF { cm with misses := wrap64 (cm.misses + 1) } := ⟨Hwf.out.nodup, Hwf.out.bytes, Hwf.out.most, wrap64_bounds _, Hwf.out.closed, Hwf.out.place⟩
  refine Bears.pull2 (Bears.cache.2 ⟨hb, pb, ov2, hl2, pl, _, hw2.used (y := ⟨i, s, false⟩) Hs.out (fun _ => rfl) (fun h => by cases h), hm3, hp2, ?_⟩)
  simp only [CacheM.used]
  exact h6.cast (by ac_rfl)

set_option maxRecDepth 100000 in
set_option maxHeartbeats 1000000 in
theorem cread_no {c p x : Nat} {cm : CacheM} {d : DiskM} {R : Assn} {w : World} {i : Int} (h : Bears w (cacheA c p x cm * (diskA p d * R))) (hf : findL i cm.lines = none) (hck : d.check i ≠ 0) :
    Calls Tryz.prog 62 #[.pointer (some ⟨c, 0, none⟩), .int .i64 i] w fun e w' => e = .returned (.tuple #[.slice none 0 0, .int .i64 (d.check i)]) ∧ w = w' := by
  obtain ⟨hb, pb, ov, hl, pl, Y, hwf, hhm, hpm, h0⟩ := Bears.cache.1 h
  obtain ⟨⟨c0, c1, c2, c3, c4, c5, c6, c7⟩, _⟩ := cache_cells h0
  have hg := hhm.no _ hf
  have hz : ∀ w, (zeroValue 34).run Tryz.prog w = .ok (.slice none 0 0) w := fun _ => by kernel_rfl
  have hr := read_no h.pull2 i hck
  have hh := h0.pull2
  obtain ⟨r, hr0⟩ : ∃ r, d.check i = r := ⟨_, rfl⟩
  rw [hr0] at hr hck ⊢
  have hne : (r == 0) = false := by rw [beq_eq_false_iff_ne]; exact hck
  clear hf hwf hhm h hr0
  go_enter Tryz.func62, Tryz.ntmps62
  go_wp2_with (refine wpList_lookup_ok_bears hh rfl rfl u_has u_int (hz _) rfl rfl ?_; rw [hg]; simp only [Option.getD_none, Option.isSome_none])
  refine hr.mono ?_
  rintro e w1 ⟨rfl, rfl⟩
  go_wp2_with fail
  go_ret2
  exact ⟨rfl, rfl⟩

set_option maxRecDepth 100000 in
set_option maxHeartbeats 400000 in
theorem cbegin_any {c p x : Nat} {cm : CacheM} {R : Assn} {w : World} (h : Bears w (cacheA c p x cm * R)) :
    Calls Tryz.prog 58 #[.pointer (some ⟨c, 0, none⟩)] w fun e w' => e = .returned (.int .i64 cm.begins.1) ∧ Bears w' (cacheA c p x cm.begins.2 * R) := by
  obtain ⟨hb, pb, ov, hl, pl, Y, hwf, hhm, hpm, h0⟩ := Bears.cache.1 h
  obtain ⟨⟨c0, c1, c2, c3, c4, c5, c6, c7⟩, f⟩ := cache_cells h0
  have f4 := f 4
  cases ho : cm.isOpen with
  | true =>
    have e1 : cm.begins = (30, cm) := by simp [CacheM.begins, ho]
    rw [e1]
    rw [ho] at c4
    clear ho e1
    go_enter Tryz.func58, Tryz.ntmps58
    go_wp2_with fail
    go_ret
    exact ⟨rfl, h⟩
  | false =>
    have e1 : cm.begins = (0, { cm with isOpen := true }) := by simp [CacheM.begins, ho]
    rw [e1]
    rw [ho] at c4
    have h2 := h0.setCell (i := 4) (.bool true)
    have Ho := Lib.hid ho
    clear ho e1
    go_enter Tryz.func58, Tryz.ntmps58
    go_wp2_with fail
    go_ret
    refine ⟨rfl, Bears.cache.2 ⟨hb, pb, ov, hl, pl, Y, ⟨hwf.nodup, hwf.bytes, hwf.most, hwf.misses, fun h => (by cases h), hwf.place⟩, hhm, hpm, ?_⟩⟩
    exact h2.cast (by simp [cacheObj])

end Go.Proofs.YtcggloceabjjdaaGreat

/- Loops over a map that the round does not write; no condition. -/
namespace Go.Proofs.YtcggloceabjjdaaGreat
open Go.RowKit Go.MapKept

/-- An iterator over a map: which keys have come. -/
structure IterIs (es : Array MapEntry) (clock since c0 : Nat) (seen : Array Nat) (l : List (Int × Value)) (done : List Int) (left : Nat) : Prop where
  map : MapIs es clock l
  hold : ∀ x ∈ es.toList, x.born < since
  le : since ≤ c0
  le2 : since ≤ clock
  saw : ∀ x ∈ es.toList, ∀ k : Int, x.key = .int .i64 k → (seen.contains x.born = true ↔ k ∈ done)
  left : (leftOf es seen).size = left

/-- A map in block b, and an iterator over it in block r. -/
def rangeA (b r : Nat) (l : List (Int × Value)) (done : List Int) (left : Nat) : Assn :=
  Assn.ex fun (z : Array MapEntry × Nat × Nat × Nat × Array Nat) => Assn.fact (IterIs z.1 z.2.1 z.2.2.1 z.2.2.2.1 z.2.2.2.2 l done left) *
    (Assn.obj b (.map z.1 z.2.1) * Assn.obj r (.mapIter (some b) z.2.2.1 z.2.2.2.2 z.2.2.2.1))

theorem Bears.range {w : World} {b r : Nat} {l : List (Int × Value)} {done : List Int} {left : Nat} {R : Assn} : Bears w (rangeA b r l done left * R) ↔
    ∃ es clock since c0 seen, IterIs es clock since c0 seen l done left ∧ Bears w (Assn.obj b (.map es clock) * (Assn.obj r (.mapIter (some b) since seen c0) * R)) := by
  unfold rangeA
  rw [Bears.ex]
  simp only [Assn.mul_assoc']
  constructor
  · rintro ⟨⟨es, clock, since, c0, seen⟩, h⟩
    obtain ⟨h1, h⟩ := Bears.fact.1 h
    exact ⟨es, clock, since, c0, seen, h1, h⟩
  · rintro ⟨es, clock, since, c0, seen, h1, h⟩
    exact ⟨⟨es, clock, since, c0, seen⟩, Bears.fact.2 ⟨h1, h⟩⟩

theorem Bears.rangeLeft {w : World} {b r : Nat} {l : List (Int × Value)} {done : List Int} {left : Nat} {R : Assn} (h : Bears w (rangeA b r l done left * R)) : w.rangeLeft b r = left := by
  obtain ⟨es, clock, since, c0, seen, hi, h⟩ := Bears.range.1 h
  unfold World.rangeLeft
  rw [h.obj, h.pull2.obj]
  exact hi.left

/-- The loop is over. -/
theorem Bears.rangeEnd {w : World} {b r : Nat} {l : List (Int × Value)} {done : List Int} {left : Nat} {R : Assn} (h : Bears w (rangeA b r l done left * R)) : Bears w (mapA b l * R) := by
  obtain ⟨es, clock, since, c0, seen, hi, h⟩ := Bears.range.1 h
  exact (h.pull2.right).toMapA hi.map

theorem mem_of_getL {α : Type} {k : Int} {v : α} : ∀ {l : List (Int × α)}, getL k l = some v → (k, v) ∈ l
  | [], h => by simp [getL] at h
  | p :: l, h => by
    simp only [getL] at h
    split at h
    · rename_i e
      simp only [Option.some.injEq] at h
      subst e; subst h
      simp
    · exact List.mem_cons_of_mem _ (mem_of_getL h)
theorem getL_of_mem {α : Type} {k : Int} {v : α} : ∀ {l : List (Int × α)}, (l.map Prod.fst).Nodup → (k, v) ∈ l → getL k l = some v
  | p :: l, hn, h => by
    simp only [List.map_cons, List.nodup_cons] at hn
    simp only [getL]
    rcases List.mem_cons.1 h with rfl | h
    · simp
    · rw [if_neg, getL_of_mem hn.2 h]
      intro e
      exact hn.1 (by rw [e]; exact List.mem_map.2 ⟨(k, v), h, rfl⟩)
theorem MapIs.entry {es : Array MapEntry} {clock : Nat} {l : List (Int × Value)} (h : MapIs es clock l) {e : MapEntry} (he : e ∈ es.toList) : ∃ k v, e.key = .int .i64 k ∧ e.val = v ∧ getL k l = some v := by
  have : (e.key, e.val) ∈ es.toList.map (fun e => (e.key, e.val)) := List.mem_map.2 ⟨e, he, rfl⟩
  rw [h.list] at this
  obtain ⟨⟨k, v⟩, hm, e1⟩ := List.mem_map.1 this
  simp only [Prod.mk.injEq] at e1
  exact ⟨k, v, e1.1.symm, e1.2.symm, getL_of_mem h.nodup hm⟩
theorem MapIs.has {es : Array MapEntry} {clock : Nat} {l : List (Int × Value)} (h : MapIs es clock l) {k : Int} {v : Value} (hk : getL k l = some v) : ∃ e ∈ es.toList, e.key = .int .i64 k ∧ e.val = v := by
  have : (Value.int .i64 k, v) ∈ l.map (fun p => (Value.int .i64 p.1, p.2)) := List.mem_map.2 ⟨(k, v), mem_of_getL hk, rfl⟩
  rw [← h.list] at this
  obtain ⟨e, he, e1⟩ := List.mem_map.1 this
  simp only [Prod.mk.injEq] at e1
  exact ⟨e, he, e1.1, e1.2⟩
theorem MapIs.inj {es : Array MapEntry} {clock : Nat} {l : List (Int × Value)} (h : MapIs es clock l) {x y : MapEntry} (hx : x ∈ es.toList) (hy : y ∈ es.toList) (hk : x.key = y.key) : x = y :=
  entry_eq_of_key ((stamped_iff es clock).1 h.stamped).2.2 hx hy hk
theorem MapIs.inj2 {es : Array MapEntry} {clock : Nat} {l : List (Int × Value)} (h : MapIs es clock l) {x y : MapEntry} (hx : x ∈ es.toList) (hy : y ∈ es.toList) (hk : x.born = y.born) : x = y := by
  have hn := ((stamped_iff es clock).1 h.stamped).2.1
  obtain ⟨i, hi, rfl⟩ := List.mem_iff_getElem.1 hx
  obtain ⟨j, hj, rfl⟩ := List.mem_iff_getElem.1 hy
  have h1 : (es.toList.map (·.born))[i]'(by simpa using hi) = (es.toList.map (·.born))[j]'(by simpa using hj) := by simpa using hk
  have := (List.getElem_inj hn).1 h1
  subst this
  rfl

section
variable {P : Program} {R : Assn}

theorem run_range_bears {w : World} {t k e : TypeId} {b : Nat} {l : List (Int × Value)} (ht : P.underlying t = some (.map k e)) (h : Bears w (mapA b l * R)) :
    ∃ w' left, (Instr.range t (.map (some b))).run P w = .ok (.pointer (some ⟨w.heap.size, 0, none⟩)) w' ∧ Bears w' (rangeA b w.heap.size l [] left * R) := by
  obtain ⟨es, clock, hm, h⟩ := h.ofMapA
  have h1 := h.alloc (.mapIter (some b) clock #[] clock)
  exact ⟨_, _, run_range_map w t k e b es clock ht h.obj, Bears.range.2 ⟨es, clock, clock, clock, #[], ⟨hm, ((stamped_iff es clock).1 hm.stamped).1, Nat.le_refl _, Nat.le_refl _, fun x _ k _ => by simp, rfl⟩, h1.pull2⟩⟩

theorem run_next_bears {w : World} {b r : Nat} {l : List (Int × Value)} {done : List Int} {left : Nat} (ty : TypeId) (h : Bears w (rangeA b r l done left * R)) :
    ((∀ k v, getL k l = some v → k ∈ done) ∧ (Instr.next (.pointer (some ⟨r, 0, none⟩)) false ty).run P w = .ok (.tuple #[.bool false]) w) ∨
    ∃ k v w' left', getL k l = some v ∧ k ∉ done ∧ left' < left ∧ (Instr.next (.pointer (some ⟨r, 0, none⟩)) false ty).run P w = .ok (.tuple #[.bool true, .int .i64 k, v]) w' ∧ Bears w' (rangeA b r l (k :: done) left' * R) ∧
      (Instr.entry (.pointer (some ⟨r, 0, none⟩))).run P w' = .ok (.tuple #[.int .i64 k, v]) w' := by
  obtain ⟨es, clock, since, c0, seen, hi, h⟩ := Bears.range.1 h
  rcases run_next_at (P := P) w ty r b since c0 seen es clock h.pull2.obj h.obj hi.hold hi.le with ⟨h0, hrun⟩ | ⟨e, he, w1, hal, hrun⟩
  · refine .inl ⟨fun k v hk => ?_, hrun⟩
    obtain ⟨x, hx, hxk, _⟩ := hi.map.has hk
    refine (hi.saw x hx k hxk).1 ?_
    cases hc : seen.contains x.born with
    | true => rfl
    | false =>
      exfalso
      have : x ∈ (leftOf es seen).toList := by
        unfold leftOf
        have hx' : x ∈ es := Array.mem_toList_iff.1 hx
        simp only [Array.mem_toList_iff, Array.mem_filter]
        exact ⟨hx', by rw [hc]; rfl⟩
      have h2 : (leftOf es seen) = #[] := Array.eq_empty_of_size_eq_zero h0
      rw [h2] at this
      simp at this
  · obtain ⟨hem, hes⟩ := mem_left he
    obtain ⟨k, v, hk, hv, hg⟩ := hi.map.entry hem
    have h1 : Bears w1 (Assn.obj r (.mapIter (some b) since seen c0) * (Assn.obj b (.map es clock) * R)) := by
      rcases hal with rfl | rfl
      · exact h.pull2
      · exact h.drew.pull2
    have h2 : Bears (ChangeMaps.setBlock w1 r (.mapIter (some b) since (seen.push e.born) clock)) (Assn.obj r (.mapIter (some b) since (seen.push e.born) clock) * (Assn.obj b (.map es clock) * R)) := h1.setObj _
    refine .inr ⟨k, v, _, _, hg, fun hd => ?_, ?_, by rw [hrun, hk, hv], Bears.range.2 ⟨es, clock, since, clock, seen.push e.born, ⟨hi.map, hi.hold, hi.le2, hi.le2, fun x hx j hj => ?_, rfl⟩, h2.pull2⟩, ?_⟩
    · rw [(hi.saw e hem k hk).2 hd] at hes
      cases hes
    · rw [← hi.left]
      exact left_shrinks es seen e he
    · rw [contains_push, Bool.or_eq_true, hi.saw x hx j hj, List.mem_cons, beq_iff_eq]
      constructor
      · rintro (h3 | h3)
        · exact .inr h3
        · have := hi.map.inj2 hx hem h3
          subst this
          rw [hk] at hj
          simp only [Value.int.injEq, true_and] at hj
          exact .inl hj.symm
      · rintro (rfl | h3)
        · exact .inr (by rw [hi.map.inj hx hem (hj.trans hk.symm)])
        · exact .inl h3
    · have := run_entry_at (P := P) (ChangeMaps.setBlock w1 r (.mapIter (some b) since (seen.push e.born) clock)) r b since seen es clock e h2.obj h2.pull2.obj hem ((stamped_iff es clock).1 hi.map.stamped).2.1
      rw [this, hk, hv]
end

section
variable {P : Program} {w : World} {ops : Array Oper} {rest : List Oper} {o : Oper} {a : Act} {Q : Exit → Act → World → Prop} {R : Assn}

theorem wpList_range_bears {m : Operand} {t k e : TypeId} {b : Nat} {l : List (Int × Value)} (h : Bears w (mapA b l * R)) (hg : o.guard = none) (hop : o.op = .range t m) (ht : P.underlying t = some (.map k e))
    (hm : a.eval m = .map (some b))
    (hK : ∀ w' left, Bears w' (rangeA b w.heap.size l [] left * R) → wpList P ops Q rest (a.put o.dst (.pointer (some ⟨w.heap.size, 0, none⟩))) w') : wpList P ops Q (o :: rest) a w := by
  obtain ⟨w', left, hrun, h'⟩ := run_range_bears (P := P) ht h
  refine wpList_plain hg fun _ hK' => ?_
  unfold Oper.wp
  simp [execOp, hop, hm, hrun, Result.andThen]
  exact hK' _ _ (hK _ _ h')

theorem wpList_next_bears {it : Operand} {b r : Nat} {l : List (Int × Value)} {done : List Int} {left : Nat} (h : Bears w (rangeA b r l done left * R)) (hg : o.guard = none) (hop : o.op = .next it false)
    (hit : a.eval it = .pointer (some ⟨r, 0, none⟩))
    (hDone : (∀ k v, getL k l = some v → k ∈ done) → wpList P ops Q rest (a.put o.dst (.tuple #[.bool false])) w)
    (hMore : ∀ k v w' left', getL k l = some v → k ∉ done → left' < left → Bears w' (rangeA b r l (k :: done) left' * R) → (Instr.entry (.pointer (some ⟨r, 0, none⟩))).run P w' = .ok (.tuple #[.int .i64 k, v]) w' →
      wpList P ops Q rest (a.put o.dst (.tuple #[.bool true, .int .i64 k, v])) w') : wpList P ops Q (o :: rest) a w := by
  refine wpList_plain hg fun _ hK' => ?_
  unfold Oper.wp
  rcases run_next_bears (P := P) o.type h with ⟨hd, hrun⟩ | ⟨k, v, w', left', hk, hn, hlt, hrun, h', hen⟩
  · simp [execOp, hop, hit, hrun, Result.andThen]
    exact hK' _ _ (hDone hd)
  · simp [execOp, hop, hit, hrun, Result.andThen]
    exact hK' _ _ (hMore k v w' left' hk hn hlt h' hen)
end

end Go.Proofs.YtcggloceabjjdaaGreat

/- Walks of the cache's functions, part 11: Write, Abort; no condition. -/
namespace Go.Proofs.YtcggloceabjjdaaGreat
open Go.RowKit Go.MapKept

def CacheM.write (c : CacheM) (len : Nat) (i : Int) (b : Sec) : Int × CacheM :=
  if c.isOpen = false then (30, c) else if i < 0 ∨ (len : Int) ≤ i then (10, c) else if b.length ≠ 64 then (11, c) else (0, { c with lines := useL ⟨i, b, true⟩ c.lines })
def CacheM.abort (c : CacheM) : Int × CacheM :=
  if c.isOpen = false then (30, c) else (0, { c with isOpen := false, lines := c.lines.filter fun y => !y.pin })

theorem putL_length {α : Type} {k : Int} {v : α} : ∀ {l : List (Int × α)}, (putL k v l).length = l.length + (!(getL k l).isSome).toNat
  | [] => rfl
  | p :: l => by
    by_cases h : p.1 = k
    · have e1 : getL k (p :: l) = some p.2 := by simp [getL, h]
      rw [e1]
      simp [putL, h]
    · have e1 : getL k (p :: l) = getL k l := by simp [getL, h]
      have e2 : putL k v (p :: l) = p :: putL k v l := by simp [putL, h]
      rw [e1, e2, List.length_cons, putL_length (l := l), List.length_cons]
      omega
theorem filter_forgetL' {z : Int} : ∀ {ls : List LineM}, (ls.map (·.at')).Nodup → ((forgetL z ls).filter (·.pin)).length + (pinOf z ls).toNat = (ls.filter (·.pin)).length
  | [], _ => rfl
  | y :: r, hn => by
    simp only [List.map_cons, List.nodup_cons] at hn
    by_cases e : y.at' = z
    · have e1 : pinOf z (y :: r) = y.pin := by simp [pinOf, findL, e]
      have e2 : forgetL z (y :: r) = r := by simp [forgetL, e]
      rw [e1, e2]
      simp only [List.filter_cons]
      cases y.pin <;> simp
    · have e1 : pinOf z (y :: r) = pinOf z r := by simp [pinOf, findL, e]
      have e2 : forgetL z (y :: r) = y :: forgetL z r := by simp [forgetL, e]
      have ih := filter_forgetL' (z := z) (ls := r) hn.2
      rw [e1, e2]
      simp only [List.filter_cons]
      cases y.pin
      · simpa using ih
      · simp only [if_true, List.length_cons]
        omega
theorem PinMap.pin {pl : List (Int × Value)} {ls : List LineM} (h : PinMap pl ls) (hn : (ls.map (·.at')).Nodup) {y : LineM} (hy : y.pin = true) (v : Value) : PinMap (putL y.at' v pl) (useL y ls) := by
  refine ⟨fun i => ?_, ?_⟩
  · rw [getL_putL, findL_useL hn]
    by_cases e : i = y.at'
    · rw [if_pos e, if_pos e]
      simp [hy]
    · rw [if_neg e, if_neg e]
      exact h.has i
  · rw [putL_length, h.count, h.has]
    unfold useL
    rw [List.filter_append, List.length_append]
    have h2 := filter_forgetL' (z := y.at') hn
    change (ls.filter (·.pin)).length + (!pinOf y.at' ls).toNat = _
    simp only [List.filter_cons, hy, if_true, List.filter_nil, List.length_cons, List.length_nil]
    cases hp : pinOf y.at' ls
    · rw [hp] at h2
      simp at h2 ⊢
      omega
    · rw [hp] at h2
      simp at h2 ⊢
      omega

theorem forgetL_filter {z : Int} : ∀ {ls : List LineM}, (ls.map (·.at')).Nodup → forgetL z ls = ls.filter fun y => !(y.at' == z)
  | [], _ => rfl
  | y :: r, hn => by
    simp only [List.map_cons, List.nodup_cons] at hn
    simp only [forgetL, List.filter_cons]
    by_cases e : y.at' = z
    · rw [if_pos e]
      simp only [e, beq_self_eq_true, Bool.not_true, Bool.false_eq_true, if_false]
      symm
      rw [List.filter_eq_self]
      intro x hx
      have : x.at' ≠ z := fun e2 => hn.1 (by rw [e, ← e2]; exact List.mem_map.2 ⟨x, hx, rfl⟩)
      simp [this]
    · rw [if_neg e, forgetL_filter hn.2]
      simp [e]
/-- The lines of which none stands in a row of numbers. -/
def leftL (done : List Int) (ls : List LineM) : List LineM := ls.filter fun y => !done.contains y.at'
theorem leftL_nil (ls : List LineM) : leftL [] ls = ls := by
  unfold leftL
  rw [List.filter_eq_self]
  intro y _
  simp
theorem leftL_cons {k : Int} {done : List Int} {ls : List LineM} (hn : (ls.map (·.at')).Nodup) : forgetL k (leftL done ls) = leftL (k :: done) ls := by
  have h2 : ((leftL done ls).map (·.at')).Nodup := (List.filter_sublist.map _).nodup hn
  rw [forgetL_filter h2]
  unfold leftL
  rw [List.filter_filter]
  congr 1
  funext y
  simp only [List.contains_cons]
  cases y.at' == k <;> cases done.contains y.at' <;> rfl
theorem leftL_nodup {done : List Int} {ls : List LineM} (hn : (ls.map (·.at')).Nodup) : ((leftL done ls).map (·.at')).Nodup := (List.filter_sublist.map _).nodup hn

set_option maxRecDepth 100000 in
set_option maxHeartbeats 1000000 in
theorem cwrite_any {c p x : Nat} {cm : CacheM} {d : DiskM} {R : Assn} {w : World} {i : Int} {b : Sec} {ad : Option Addr} {n cap : Nat} (h : Bears w (cacheA c p x cm * (diskA p d * R))) (hb : R.Tells (fun w => BytesIn w (.slice ad n cap) b)) (hlen : cm.lines.length < 1099511627775) :
    Calls Tryz.prog 69 #[.pointer (some ⟨c, 0, none⟩), .int .i64 i, .slice ad n cap] w fun e w' => e = .returned (.int .i64 (cm.write d.len i b).1) ∧ Bears w' (cacheA c p x (cm.write d.len i b).2 * (diskA p d * R)) := by
  have hdl := h.pull2.diskWF.len
  obtain rfl : n = b.length := (hb _ h.right.right).len
  obtain ⟨hbk, pb, ov, hl, pl, Y, hwf, hhm, hpm, h0⟩ := Bears.cache.1 h
  obtain ⟨⟨c0, c1, c2, c3, c4, c5, c6, c7⟩, _⟩ := cache_cells h0
  have hlen1 := len_any (h.pull2)
  have hl63 : (d.len : Int) ≤ 9223372036854775807 := by omega
  generalize hdn : d.len = dn at hlen1 hdl hl63
  have Hdn := Lib.hid hdn
  clear hdn
  cases ho : cm.isOpen with
  | false =>
    have e1 : cm.write dn i b = (30, cm) := by simp [CacheM.write, ho]
    rw [e1]
    rw [ho] at c4
    clear ho e1 hpm hhm hwf
    go_enter Tryz.func69, Tryz.ntmps69
    go_wp2_with fail
    go_ret
    exact ⟨rfl, h⟩
  | true =>
    rw [ho] at c4
    have Ho := Lib.hid ho
    clear ho
    have Hwf := Lib.hid hwf
    have Hpm := Lib.hid hpm
    have Hhm := Lib.hid hhm
    clear hwf hpm hhm
    by_cases h1 : i < 0
    · have e1 : cm.write dn i b = (10, cm) := by simp [CacheM.write, Ho.out, h1]
      rw [e1]
      have hd1 : decide (i < 0) = true := decide_eq_true h1
      clear e1
      go_enter Tryz.func69, Tryz.ntmps69
      go_wp2_with fail
      go_ret
      exact ⟨rfl, h⟩
    · have hd1 : decide (i < 0) = false := decide_eq_false h1
      by_cases h2 : (dn : Int) ≤ i
      · have e1 : cm.write dn i b = (10, cm) := by simp [CacheM.write, Ho.out, h2]
        rw [e1]
        have hd2 : decide (i ≥ (dn : Int)) = true := decide_eq_true h2
        clear e1
        go_enter Tryz.func69, Tryz.ntmps69
        go_wp2_with (refine hlen1.mono ?_; rintro e w1 ⟨rfl, rfl⟩)
        go_ret
        exact ⟨rfl, h⟩
      · have hd2 : decide (i ≥ (dn : Int)) = false := decide_eq_false h2
        by_cases h3 : b.length = 64
        · have e1 : cm.write dn i b = (0, { cm with lines := useL ⟨i, b, true⟩ cm.lines }) := by simp [CacheM.write, Ho.out, h1, h2, h3]
          rw [e1]
          have Hb := Lib.hid h3
          rw [h3] at hb ⊢
          clear e1 h3
          have hbc := bclone_any h (fun w hw => hb w hw.right.right) (ne_nil_of_64 Hb.out) (by rw [Hb.out]; decide)
          go_enter Tryz.func69, Tryz.ntmps69
          go_wp2_with (refine hlen1.mono ?_; rintro e w1 ⟨rfl, rfl⟩)
          refine hbc.mono ?_
          rintro e w2 ⟨ad', cap', rfl, h4⟩
          obtain ⟨hbk, pb, ov, hl, pl, Y, hwf, hhm, hpm, h5⟩ := Bears.cache.1 h4.pull2
          have hu := use_any (n := cm.lines.length) rfl (by omega) h5.c34 ⟨i, b, true⟩ (.slice ad' b.length cap')
          have h5k := h5.pull2.mapNodup
          rw [Hb.out] at hu
          go_wp2_with fail
          refine hu.mono ?_
          rintro e w3 ⟨rfl, ov1, h6⟩
          go_wp2_with fail
          obtain ⟨a1, cap1, rfl, _⟩ := h6.pull3.rowForm
          have h7 := h6.drew
          obtain ⟨⟨_, _, _, _, _, _, k6, k7⟩, _⟩ := cache_cells h7
          refine wp_region_tail 10 (by kernel_rfl) (by kernel_rfl) ?_
          simp only [List.take_succ_cons, List.take_zero, List.drop_succ_cons, List.drop_zero]
          iterate 10 still_step
          refine wpStill_nil ?_
          refine wpList_mapUpdate_bears (val := .int .i64 (useL ⟨i, b, true⟩ cm.lines).length) h7.pull4 rfl rfl u_pins u_int rfl rfl (by go_simp; try rfl) ?_
          intro w4 h8
          go_wp2_with fail
          go_ret
          refine ⟨rfl, Bears.cache.2 ⟨hbk, pb, .slice a1 (useL ⟨i, b, true⟩ cm.lines).length cap1, _, _, _, ⟨useL_nodup Hwf.out.nodup, fun y hy => ?_, Hwf.out.most, Hwf.out.misses, fun ho => ?_, fun y hy hp => ?_⟩, ((hhm.more (Z := rowA 5 1 (.slice ad' 64 cap') 64 (cellsV b))).use hwf.nodup h5k (y := ⟨i, b, true⟩) (ad := ad') (cap := cap') ?_), hpm.pin hwf.nodup (y := ⟨i, b, true⟩) rfl (.int .i64 (useL ⟨i, b, true⟩ cm.lines).length), ?_⟩⟩
          · rcases mem_useL hy with rfl | hy
            · exact Hb.out
            · exact Hwf.out.bytes y hy
          · simp only at ho
            rw [Ho.out] at ho
            cases ho
          · rcases mem_useL hy with rfl | hy
            · exact ⟨by simp only; omega, by simp only; omega⟩
            · exact Hwf.out.place y hy hp
          · rw [Hb.out]
            exact rowA_bytes Hb.out.symm
          · rw [Hb.out]
            exact h8.cast (by ac_rfl)
        · have e1 : cm.write dn i b = (11, cm) := by simp [CacheM.write, Ho.out, h1, h2, h3]
          rw [e1]
          have hn3 : ((b.length : Int) != 64) = true := by rw [bne_iff_ne]; omega
          have hbl : (b.length : Int) ≤ 9223372036854775807 ∨ True := .inr trivial
          clear e1
          go_enter Tryz.func69, Tryz.ntmps69
          go_wp2_with (refine hlen1.mono ?_; rintro e w1 ⟨rfl, rfl⟩)
          go_ret
          exact ⟨rfl, h⟩

set_option maxRecDepth 100000 in
set_option maxHeartbeats 1000000 in
theorem cabort_any {c p x : Nat} {cm : CacheM} {R : Assn} {w : World} (h : Bears w (cacheA c p x cm * R)) :
    Calls Tryz.prog 55 #[.pointer (some ⟨c, 0, none⟩)] w fun e w' => e = .returned (.int .i64 cm.abort.1) ∧ Bears w' (cacheA c p x cm.abort.2 * R) := by
  obtain ⟨hb, pb, ov, hl, pl, Y, hwf, hhm, hpm, h0⟩ := Bears.cache.1 h
  obtain ⟨⟨c0, c1, c2, c3, c4, c5, c6, c7⟩, _⟩ := cache_cells h0
  cases ho : cm.isOpen with
  | false =>
    have e1 : cm.abort = (30, cm) := by simp [CacheM.abort, ho]
    rw [e1]
    rw [ho] at c4
    clear ho e1 hpm hhm hwf
    go_enter Tryz.func55, Tryz.ntmps55
    go_wp2_with fail
    go_ret
    exact ⟨rfl, h⟩
  | true =>
    have e1 : cm.abort = (0, { cm with isOpen := false, lines := cm.lines.filter fun y => !y.pin }) := by simp [CacheM.abort, ho]
    rw [e1]
    rw [ho] at c4
    have Ho := Lib.hid ho
    have Hwf := Lib.hid hwf
    have Hpm := Lib.hid hpm
    have Hhm := Lib.hid hhm
    clear ho hwf hpm hhm e1 h
    go_enter Tryz.func55, Tryz.ntmps55
    go_wp2_with (refine wpList_range_bears h0.pull3 rfl rfl u_pins rfl ?_; intro w1 left1 h1)
    generalize w.heap.size = r at h1
    go_wp2_with fail
    simp only [Act.put, List.setIfInBounds_toArray, List.set_cons_zero, List.set_cons_succ]
    go_loopw [] (fun wr => ∃ done left hl' ov', (∀ k ∈ done, (getL k pl).isSome = true) ∧ HasMap Y hl' (leftL done cm.lines) ∧
      Bears wr (rangeA pb r pl done left * (cacheObj c p x cm hb pb ov' * (mapA hb hl' * (rowA 3 1 ov' (leftL done cm.lines).length (orderV (leftL done cm.lines)) * (Y * R)))))) (fun wr => wr.rangeLeft pb r)
    case atStart =>
      refine ⟨[], left1, hl, ov, by simp, ?_, ?_⟩
      · rw [leftL_nil]; exact Hhm.out
      · rw [leftL_nil]; exact h1
    case round =>
      obtain ⟨done, left, hl', ov', hdone, hm', h2⟩ := hrel
      have Hdone := Lib.hid hdone
      have Hm' := Lib.hid hm'
      clear hdone hm'
      have hlf := Lib.hid h2.rangeLeft
      have h2e := h2.rangeEnd
      obtain ⟨⟨_, _, _, _, _, _, k6, _⟩, kf⟩ := cache_cells h2e.pull2
      have kf4 := kf 4
      have h5 := h2e.pull2.setCell (i := 4) (.bool false)
      have k6' := cell_of_obj h5.obj 6
      simp only [List.setIfInBounds_toArray, List.set_cons_zero, List.set_cons_succ, List.getElem?_toArray, List.getElem?_cons_zero, List.getElem?_cons_succ] at k6' h5
      go_wp2_with (first
        | (refine wpList_next_bears h2 rfl rfl rfl (fun hd => ?_) (fun k v w3 left3 hk hn hlt h3 hen => ?_))
        | (refine wpList_clear_bears h5.pull2 rfl rfl u_pins rfl ?_; intro w7 h7))
      · go_ret
        have he : leftL done cm.lines = cm.lines.filter fun y => !y.pin := by
          unfold leftL
          refine List.filter_congr fun y hy => ?_
          have h1 := Hpm.out.each Hwf.out.nodup y hy
          congr 1
          rw [← h1, Bool.eq_iff_iff, List.contains_iff_mem]
          refine ⟨fun hm => Hdone.out _ hm, fun hs => ?_⟩
          obtain ⟨v, hv⟩ := Option.isSome_iff_exists.1 hs
          exact hd _ v hv
        have hm2 := Hm'.out
        rw [he] at hm2 h7
        refine ⟨rfl, Bears.cache.2 ⟨hb, pb, ov', hl', [], Y, ⟨(List.filter_sublist.map _).nodup Hwf.out.nodup, fun y hy => Hwf.out.bytes y (List.mem_filter.1 hy).1, Hwf.out.most, Hwf.out.misses, fun _ y hy => ?_, fun y hy hp => Hwf.out.place y (List.mem_filter.1 hy).1 hp⟩, hm2, ⟨fun i => ?_, ?_⟩, ?_⟩⟩
        · have := (List.mem_filter.1 hy).2
          simpa using this
        · simp only [getL, Option.isSome_none]
          cases hf : findL i (cm.lines.filter fun y => !y.pin) with
          | none => rfl
          | some y =>
            have := (List.mem_filter.1 (findL_mem hf).1).2
            simp only [Bool.not_eq_true'] at this
            simp [this]
        · have : (cm.lines.filter fun y => !y.pin).filter (·.pin) = [] := by
            rw [List.filter_eq_nil_iff]
            intro y hy
            have := (List.mem_filter.1 hy).2
            simpa using this
          simp only [this, List.length_nil]
        · exact h7.cast (by simp only [cacheObj]; ac_rfl)
      · have h8 := h3.push4
        refine (forget_any rfl h8 k).mono ?_
        rintro e w5 ⟨rfl, ov2, h6⟩
        go_wp2_with fail
        go_roundw
        case rel =>
          refine ⟨k :: done, left3, delL k hl', ov2, ?_, ?_, ?_⟩
          · intro j hj
            rcases List.mem_cons.1 hj with rfl | hj
            · rw [hk]; rfl
            · exact Hdone.out j hj
          · rw [← leftL_cons Hwf.out.nodup]
            exact Hm'.out.forget (leftL_nodup Hwf.out.nodup) h8.pull2.mapNodup
          · rw [← leftL_cons Hwf.out.nodup]
            exact h6.cast (by ac_rfl)
        case measure =>
          rw [h6.pull4.rangeLeft, hlf.out]
          exact hlt

end Go.Proofs.YtcggloceabjjdaaGreat
