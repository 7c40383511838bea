/- Walks of the cache's functions, part 8: trim; no condition. -/
import Derived.Test.YtaiobekochhemaaCacheW7
namespace Go.Proofs.Ytaiobekochhemaa
open Go.RowKit Go.MapKept

def pinOf (i : Int) (ls : List LineM) : Bool := match findL i ls with | some x => x.pin | none => false
theorem findL_mem {i : Int} {x : LineM} : ∀ {ls : List LineM}, findL i ls = some x → x ∈ ls ∧ x.at' = i
  | [], h => by simp [findL] at h
  | y :: r, h => by
    simp only [findL] at h
    split at h
    · rename_i e
      simp only [Option.some.injEq] at h
      subst h
      exact ⟨by simp, e⟩
    · obtain ⟨h1, h2⟩ := findL_mem h
      exact ⟨List.mem_cons_of_mem _ h1, h2⟩
theorem findL_of_mem {x : LineM} : ∀ {ls : List LineM}, (ls.map (·.at')).Nodup → x ∈ ls → findL x.at' ls = some x
  | y :: r, hn, h => by
    simp only [List.map_cons, List.nodup_cons] at hn
    simp only [findL]
    rcases List.mem_cons.1 h with rfl | h
    · simp
    · rw [if_neg, findL_of_mem hn.2 h]
      intro e
      exact hn.1 (by rw [e]; exact List.mem_map.2 ⟨x, h, rfl⟩)
theorem PinMap.each {pl : List (Int × Value)} {ls : List LineM} (h : PinMap pl ls) (hn : (ls.map (·.at')).Nodup) : ∀ y ∈ ls, (getL y.at' pl).isSome = y.pin := by
  intro y hy
  rw [h.has, findL_of_mem hn hy]

theorem dropFree_forget {pl : List (Int × Value)} : ∀ {ls : List LineM}, (ls.map (·.at')).Nodup → (∀ y ∈ ls, (getL y.at' pl).isSome = y.pin) →
    (idxFree pl (ls.map (·.at')) = none ∧ dropFree ls = none) ∨ ∃ k z, idxFree pl (ls.map (·.at')) = some k ∧ k < ls.length ∧ (ls.map (·.at')).getD k 0 = z ∧ dropFree ls = some (forgetL z ls) ∧ pinOf z ls = false ∧ (getL z pl).isSome = false
  | [], _, _ => .inl ⟨rfl, rfl⟩
  | y :: r, hn, hp => by
    have hn' := hn
    simp only [List.map_cons, List.nodup_cons] at hn
    have hy := hp y (by simp)
    cases hpin : y.pin with
    | false =>
      rw [hpin] at hy
      refine .inr ⟨0, y.at', ?_, by simp, by simp, ?_, ?_, hy⟩
      · simp [idxFree, hy]
      · simp [dropFree, forgetL, hpin]
      · simp [pinOf, findL, hpin]
    | true =>
      rw [hpin] at hy
      rcases dropFree_forget (ls := r) hn.2 (fun z hz => hp z (List.mem_cons_of_mem _ hz)) with ⟨h1, h2⟩ | ⟨k, z, h1, h2, h3, h4, h5, h6⟩
      · refine .inl ⟨?_, ?_⟩
        · simp [idxFree, hy, h1]
        · simp [dropFree, hpin, h2]
      · have hz : y.at' ≠ z := by intro e; rw [← e, hy] at h6; cases h6
        refine .inr ⟨k + 1, z, ?_, by simp; omega, by simpa using h3, ?_, ?_, h6⟩
        · simp [idxFree, hy, h1]
        · simp [dropFree, hpin, h4, forgetL, hz]
        · unfold pinOf at h5 ⊢
          simp only [findL]
          rw [if_neg hz]
          exact h5

theorem filter_forgetL {z : Int} : ∀ {ls : List LineM}, (ls.map (·.at')).Nodup → pinOf z ls = false → (forgetL z ls).filter (·.pin) = ls.filter (·.pin)
  | [], _, _ => rfl
  | y :: r, hn, h => by
    simp only [List.map_cons, List.nodup_cons] at hn
    unfold pinOf at h
    simp only [findL] at h
    simp only [forgetL]
    by_cases e : y.at' = z
    · rw [if_pos e] at h ⊢
      simp only at h
      simp [h]
    · rw [if_neg e] at h ⊢
      simp only [List.filter_cons]
      rw [filter_forgetL hn.2 h]
theorem PinMap.forget {pl : List (Int × Value)} {ls : List LineM} {z : Int} (h : PinMap pl ls) (hn : (ls.map (·.at')).Nodup) (hz : pinOf z ls = false) : PinMap pl (forgetL z ls) := by
  refine ⟨fun i => ?_, ?_⟩
  · rw [h.has, findL_forgetL _ _ hn]
    by_cases e : i = z
    · subst e
      rw [if_pos rfl]
      exact hz
    · rw [if_neg e]
  · rw [h.count, filter_forgetL hn hz]
theorem HasMap.forget {Y : Assn} {hl : List (Int × Value)} {ls : List LineM} {z : Int} (h : HasMap Y hl ls) (hn : (ls.map (·.at')).Nodup) (hk : (hl.map Prod.fst).Nodup) : HasMap Y (delL z hl) (forgetL z ls) := by
  refine ⟨fun i hi => ?_, fun i x hi => ?_⟩
  · rw [getL_delL _ _ hk]
    rw [findL_forgetL _ _ hn] at hi
    by_cases e : i = z
    · rw [if_pos e]
    · rw [if_neg e] at hi ⊢
      exact h.no i hi
  · rw [getL_delL _ _ hk]
    rw [findL_forgetL _ _ hn] at hi
    by_cases e : i = z
    · rw [if_pos e] at hi
      cases hi
    · rw [if_neg e] at hi ⊢
      exact h.yes i x hi
theorem forgetL_nodup {z : Int} {ls : List LineM} (hn : (ls.map (·.at')).Nodup) : ((forgetL z ls).map (·.at')).Nodup := ((forgetL_sub z ls).map _).nodup hn
theorem Bears.mapNodup {w : World} {b : Nat} {l : List (Int × Value)} {R : Assn} (h : Bears w (mapA b l * R)) : (l.map Prod.fst).Nodup := by
  obtain ⟨es, clock, hm, _⟩ := h.ofMapA
  exact hm.nodup

theorem trimL_stop {most : Int} {ls : List LineM} (h : (ls.length : Int) ≤ most) : trimL most ls.length ls = ls := by
  cases hl : ls.length with
  | zero => rfl
  | succ n =>
    simp only [trimL]
    rw [if_pos h]
theorem trimL_none {most : Int} {ls : List LineM} (h : dropFree ls = none) : trimL most ls.length ls = ls := by
  cases hl : ls.length with
  | zero => rfl
  | succ n =>
    simp only [trimL]
    split
    · rfl
    · rw [h]
theorem trimL_some {most : Int} {ls r : List LineM} (h : ¬ (ls.length : Int) ≤ most) (hd : dropFree ls = some r) : trimL most ls.length ls = trimL most r.length r := by
  have hl := (dropFree_sub hd).2
  rw [← hl]
  simp only [trimL]
  rw [if_neg h, hd]

theorem Bears.rowObjN {w : World} {e : TypeId} {a : Option Addr} {c n : Nat} {l : List Int} {R : Assn} (h : Bears w (rowA e 1 (.slice a n c) n (intsV l) * R)) (hn : n = l.length) {k : Nat} (hk : k < n) :
    ∃ g, a = some ⟨g, 0, none⟩ ∧ w.cell? ⟨g, k, none⟩ = some (.int .i64 (l.getD k 0)) := by
  subst hn
  obtain ⟨g, rfl, _⟩ := h.rowAt hk
  exact ⟨g, rfl, h.rowObj' hk⟩

/-- How many cells the slice in a cell has. -/
def World.sliceLen (w : World) (c k : Nat) : Nat := match w.cell? ⟨c, k, none⟩ with | some (.slice _ n _) => n | _ => 0
theorem sliceLen_eq {w : World} {c k n : Nat} {a : Option Addr} {cap : Nat} (h : w.cell? ⟨c, k, none⟩ = some (.slice a n cap)) : World.sliceLen w c k = n := by unfold World.sliceLen; rw [h]

set_option maxRecDepth 100000 in
set_option maxHeartbeats 1000000 in
theorem trim_any {c p x : Nat} {cm : CacheM} {hb pb n : Nat} {ov : Value} {hl pl : List (Int × Value)} {X : Assn} {w : World} {ls : List LineM} (hn : n = ls.length) (hnd : (ls.map (·.at')).Nodup) (hpm : PinMap pl ls)
    (hm : 1 ≤ cm.most ∧ cm.most ≤ 9223372036854775807)
    (h : Bears w (cacheObj c p x cm hb pb ov * (mapA hb hl * (mapA pb pl * (rowA 3 1 ov n (orderV ls) * X))))) :
    Calls Try.prog 74 #[.pointer (some ⟨c, 0, none⟩)] w fun e w' => e = .returned (.tuple #[]) ∧ ∃ ov' hl', (∀ Y, HasMap Y hl ls → HasMap Y hl' (trimL cm.most ls.length ls)) ∧ PinMap pl (trimL cm.most ls.length ls) ∧
      Bears w' (cacheObj c p x cm hb pb ov' * (mapA hb hl' * (mapA pb pl * (rowA 3 1 ov' (trimL cm.most ls.length ls).length (orderV (trimL cm.most ls.length ls)) * X)))) := by
  subst hn
  have h1 := h.alloc (.cells #[.pointer (some ⟨c, 0, none⟩)] 36)
  go_enter Try.func74, Try.ntmps74
  go_wp2_with fail
  generalize w.alloc (.cells #[.pointer (some ⟨c, 0, none⟩)] 36) = w1 at h1
  generalize w.heap.size = bx at h1
  go_loopw [] (fun wr => ∃ ls' ov' hl', trimL cm.most ls.length ls = trimL cm.most ls'.length ls' ∧ (ls'.map (·.at')).Nodup ∧ PinMap pl ls' ∧ (∀ Y, HasMap Y hl ls → HasMap Y hl' ls') ∧
      Bears wr (Assn.obj bx (.cells #[.pointer (some ⟨c, 0, none⟩)] 36 (0, 0)) * (cacheObj c p x cm hb pb ov' * (mapA hb hl' * (mapA pb pl * (rowA 3 1 ov' ls'.length (orderV ls') * X)))))) (fun wr => World.sliceLen wr c 7)
  case atStart => exact ⟨ls, ov, hl, rfl, hnd, hpm, fun _ h => h, h1⟩
  case round =>
    obtain ⟨ls', ov', hl', e1, hnd', hpm', hhm, h2⟩ := hrel
    obtain ⟨a, cap, rfl, hc, hmm, _⟩ := h2.pull5.rowForm
    have hsl := sliceLen_eq (cache_cells h2.pull2).1.2.2.2.2.2.2.2
    have hl63 : ls'.length ≤ 9223372036854775807 := by unfold maxLen at hmm; omega
    obtain ⟨m1, m2⟩ := hm
    have E1 := Lib.hid e1
    have Hnd := Lib.hid hnd'
    have Hpm := Lib.hid hpm'
    have Hhm := Lib.hid hhm
    have Hsl := Lib.hid hsl
    clear e1 hhm hsl hnd hpm h h1 hnd' hpm'
    obtain ⟨nl, hnl⟩ : ∃ nl, ls'.length = nl := ⟨_, rfl⟩
    have Hnl := Lib.hid hnl
    go_wp2_with fail
    refine wp_region_L (fun w' => ∃ Q, Bears w' (Assn.obj bx (.cells #[.pointer (some ⟨c, 0, none⟩)] 36 (0, 0)) * (cacheObj c p x cm hb pb (.slice a ls'.length cap) * Q))) 10
      [(true, 0), (true, 1), (true, 2), (true, 3), (true, 4), (true, 5), (true, 6), (true, 7), (true, 8), (true, 9)] [] (by kernel_rfl) (by kernel_rfl) ⟨_, h2.drew⟩ ?_
    simp only [pick, List.getElem?_cons_zero, List.getElem?_cons_succ]
    refine wpL_yield (v := ?_) rfl (fun w' hS => ?_) ?_
    rotate_left
    · (obtain ⟨_, hS⟩ := hS; have cb := cell_of_obj hS.obj 0; obtain ⟨⟨_, _, c2, _, _, _, _, c7⟩, _⟩ := cache_cells hS.pull2; try simp at cb; go_simp; try with_reducible rfl)
    simp only [Act.put, List.setIfInBounds_toArray, List.set_cons_zero, List.set_cons_succ]
    refine wpL_yield (v := ?_) rfl (fun w' hS => ?_) ?_
    rotate_left
    · (obtain ⟨_, hS⟩ := hS; have cb := cell_of_obj hS.obj 0; obtain ⟨⟨_, _, c2, _, _, _, _, c7⟩, _⟩ := cache_cells hS.pull2; try simp at cb; go_simp; try with_reducible rfl)
    simp only [Act.put, List.setIfInBounds_toArray, List.set_cons_zero, List.set_cons_succ]
    refine wpL_yield (v := ?_) rfl (fun w' hS => ?_) ?_
    rotate_left
    · (obtain ⟨_, hS⟩ := hS; have cb := cell_of_obj hS.obj 0; obtain ⟨⟨_, _, c2, _, _, _, _, c7⟩, _⟩ := cache_cells hS.pull2; try simp at cb; go_simp; try with_reducible rfl)
    simp only [Act.put, List.setIfInBounds_toArray, List.set_cons_zero, List.set_cons_succ]
    refine wpL_yield (v := ?_) rfl (fun w' hS => ?_) ?_
    rotate_left
    · (obtain ⟨_, hS⟩ := hS; have cb := cell_of_obj hS.obj 0; obtain ⟨⟨_, _, c2, _, _, _, _, c7⟩, _⟩ := cache_cells hS.pull2; try simp at cb; go_simp; try with_reducible rfl)
    simp only [Act.put, List.setIfInBounds_toArray, List.set_cons_zero, List.set_cons_succ]
    refine wpL_yield (v := ?_) rfl (fun w' hS => ?_) ?_
    rotate_left
    · (obtain ⟨_, hS⟩ := hS; have cb := cell_of_obj hS.obj 0; obtain ⟨⟨_, _, c2, _, _, _, _, c7⟩, _⟩ := cache_cells hS.pull2; try simp at cb; go_simp; try with_reducible rfl)
    simp only [Act.put, List.setIfInBounds_toArray, List.set_cons_zero, List.set_cons_succ]
    refine wpL_yield (v := ?_) rfl (fun w' hS => ?_) ?_
    rotate_left
    · (obtain ⟨_, hS⟩ := hS; have cb := cell_of_obj hS.obj 0; obtain ⟨⟨_, _, c2, _, _, _, _, c7⟩, _⟩ := cache_cells hS.pull2; try simp at cb; go_simp; try with_reducible rfl)
    simp only [Act.put, List.setIfInBounds_toArray, List.set_cons_zero, List.set_cons_succ]
    refine wpL_yield (v := ?_) rfl (fun w' hS => ?_) ?_
    rotate_left
    · (obtain ⟨_, hS⟩ := hS; have cb := cell_of_obj hS.obj 0; obtain ⟨⟨_, _, c2, _, _, _, _, c7⟩, _⟩ := cache_cells hS.pull2; try simp at cb; go_simp; try with_reducible rfl)
    simp only [Act.put, List.setIfInBounds_toArray, List.set_cons_zero, List.set_cons_succ]
    refine wpL_yield (v := ?_) rfl (fun w' hS => ?_) ?_
    rotate_left
    · (obtain ⟨_, hS⟩ := hS; have cb := cell_of_obj hS.obj 0; obtain ⟨⟨_, _, c2, _, _, _, _, c7⟩, _⟩ := cache_cells hS.pull2; try simp at cb; go_simp; try with_reducible rfl)
    simp only [Act.put, List.setIfInBounds_toArray, List.set_cons_zero, List.set_cons_succ]
    refine wpL_yield (v := ?_) rfl (fun w' hS => ?_) ?_
    rotate_left
    · (obtain ⟨_, hS⟩ := hS; have cb := cell_of_obj hS.obj 0; obtain ⟨⟨_, _, c2, _, _, _, _, c7⟩, _⟩ := cache_cells hS.pull2; try simp at cb; go_simp; try with_reducible rfl)
    simp only [Act.put, List.setIfInBounds_toArray, List.set_cons_zero, List.set_cons_succ]
    refine wpL_yield (v := ?_) rfl (fun w' hS => ?_) ?_
    rotate_left
    · (obtain ⟨_, hS⟩ := hS; have cb := cell_of_obj hS.obj 0; obtain ⟨⟨_, _, c2, _, _, _, _, c7⟩, _⟩ := cache_cells hS.pull2; try simp at cb; go_simp; try with_reducible rfl)
    simp only [Act.put, List.setIfInBounds_toArray, List.set_cons_zero, List.set_cons_succ]
    refine wpL_nil ?_
    refine wpL_nil ?_
    by_cases hlt : cm.most < (nl : Int)
    · have hd : decide (cm.most < (nl : Int)) = true := decide_eq_true hlt
      have h3 : Bears wr.drew (Assn.obj bx (.cells #[.pointer (some ⟨c, 0, none⟩)] 36 (0, 0)) * (cacheObj c p x cm hb pb (.slice a ls'.length cap) * (mapA pb pl * (rowA 3 1 (.slice a ls'.length cap) ls'.length (intsV (ls'.map (·.at'))) * (mapA hb hl' * X))))) :=
        h2.drew.cast (by rw [orderV_eq]; ac_rfl)
      have c7 := (cache_cells h3.pull2).1.2.2.2.2.2.2.2
      have hcall := findex_any (n := ls'.length) (by simp) h3
      have cb := cell_of_obj h3.obj 0
      simp at cb
      have hnd' := Hnd.out
      have Hpin := Hpm.out.each hnd'
      rcases dropFree_forget hnd' Hpin with ⟨k1, k2⟩ | ⟨k, z, k1, k2, k3, k4, k5, k6⟩
      · have hv : idxFV pl (ls'.map (·.at')) = -1 := by unfold idxFV; rw [k1]
        rw [hv] at hcall
        have K2 := Lib.hid k2
        clear k1 k2 hv hnd' Hpin
        rw [hnl] at hcall c7
        go_wp2_with fail
        refine hcall.mono ?_
        rintro e w4 ⟨rfl, rfl⟩
        go_wp2_with fail
        refine bodyPost_ret (results_none rfl _ _ _) rfl ?_
        refine ⟨rfl, .slice a ls'.length cap, hl', ?_, ?_, ?_⟩
        · rw [E1.out, trimL_none K2.out]; exact Hhm.out
        · rw [E1.out, trimL_none K2.out]; exact Hpm.out
        · rw [E1.out, trimL_none K2.out]; exact h2.right.drew
      · have hv : idxFV pl (ls'.map (·.at')) = (k : Int) := by unfold idxFV; rw [k1]
        rw [hv] at hcall
        obtain ⟨g, rfl, hcell⟩ := h3.pull4.rowObjN (by simp) k2
        rw [k3] at hcell
        have hkl : k < nl := by omega
        have K4 := Lib.hid k4
        have K5 := Lib.hid k5
        clear k1 k3 k4 k5 k6 hv hnd' Hpin
        rw [hnl] at hcall c7
        go_wp2_with fail
        refine hcall.mono ?_
        rintro e w4 ⟨rfl, rfl⟩
        have hk0 : decide ((k : Int) < 0) = false := by simp
        go_wp2_with fail
        have h4 : Bears wr.drew (Assn.obj bx (.cells #[.pointer (some ⟨c, 0, none⟩)] 36 (0, 0)) * (cacheObj c p x cm hb pb (.slice (some ⟨g, 0, none⟩) ls'.length cap) * (rowA 3 1 (.slice (some ⟨g, 0, none⟩) ls'.length cap) ls'.length (intsV (ls'.map (·.at'))) * (mapA pb pl * (mapA hb hl' * X))))) :=
          h3.cast (by ac_rfl)
        have hc' : wr.drew.drew.cell? ⟨g, k, none⟩ = some (.int .i64 z) := hcell
        obtain ⟨⟨_, _, c2, _, _, _, _, c7'⟩, _⟩ := cache_cells h4.drew.pull2
        have cb' := cell_of_obj h4.drew.obj 0
        simp at cb'
        rw [hnl] at c7'
        refine wp_region_tail 8 (by kernel_rfl) (by kernel_rfl) ?_
        simp only [List.take_succ_cons, List.take_zero, List.drop_succ_cons, List.drop_zero]
        iterate 8 still_step
        refine wpStill_nil ?_
        go_wp2_with fail
        have h5 : Bears wr.drew.drew (cacheObj c p x cm hb pb (.slice (some ⟨g, 0, none⟩) ls'.length cap) * (mapA hb hl' * (rowA 3 1 (.slice (some ⟨g, 0, none⟩) ls'.length cap) ls'.length (orderV ls') * (Assn.obj bx (.cells #[.pointer (some ⟨c, 0, none⟩)] 36 (0, 0)) * (mapA pb pl * X))))) :=
          h2.drew.drew.cast (by ac_rfl)
        have hkn := h5.pull2.mapNodup
        refine (forget_any rfl h5 z).mono ?_
        rintro e w5 ⟨rfl, ov2, h6⟩
        go_wp2_with fail
        have hfl := (dropFree_sub K4.out).2
        obtain ⟨a2, cap2, rfl, _⟩ := h6.pull3.rowForm
        have hsl2 := sliceLen_eq (cache_cells h6).1.2.2.2.2.2.2.2
        go_roundw
        case rel =>
          refine ⟨forgetL z ls', _, delL z hl', ?_, forgetL_nodup Hnd.out, Hpm.out.forget Hnd.out K5.out, fun Y hY => (Hhm.out Y hY).forget Hnd.out hkn, h6.cast (by ac_rfl)⟩
          rw [E1.out]
          exact trimL_some (by omega) K4.out
        case measure =>
          rw [hsl2, Hsl.out]
          omega
    · have hd : decide (cm.most < (nl : Int)) = false := decide_eq_false hlt
      go_wp2_with fail
      go_end0
      have hs := trimL_stop (most := cm.most) (ls := ls') (by omega)
      refine ⟨rfl, .slice a ls'.length cap, hl', ?_, ?_, ?_⟩
      · rw [E1.out, hs]; exact Hhm.out
      · rw [E1.out, hs]; exact Hpm.out
      · rw [E1.out, hs]; exact h2.right.drew

end Go.Proofs.Ytaiobekochhemaa
