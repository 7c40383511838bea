/- Walks of the cache's functions, part 4: forget; no condition. -/
import Derived.Test.YtaiobekochhemaaCacheW3
namespace Go.Proofs.Ytaiobekochhemaa
open Go.RowKit Go.MapKept

theorem orderV_eq (ls : List LineM) : orderV ls = intsV (ls.map (·.at')) := by simp [orderV, intsV, Function.comp_def]
theorem forgetL_idx {i : Int} : ∀ {ls : List LineM} {k : Nat}, idxL i (ls.map (·.at')) = some k → k < ls.length ∧ (forgetL i ls).map (·.at') = (ls.map (·.at')).eraseIdx k
  | [], _, h => by simp [idxL] at h
  | x :: r, k, h => by
    simp only [List.map_cons, idxL] at h
    simp only [forgetL]
    by_cases e : x.at' = i
    · rw [if_pos e] at h ⊢
      simp only [Option.some.injEq] at h
      subst h
      exact ⟨by simp, rfl⟩
    · rw [if_neg e] at h ⊢
      cases hi : idxL i (r.map (·.at')) with
      | none => simp [hi] at h
      | some j =>
        simp only [hi, Option.map_some, Option.some.injEq] at h
        subst h
        obtain ⟨h1, h2⟩ := forgetL_idx hi
        exact ⟨by simp; omega, by simp [h2]⟩
theorem findL_idx {i : Int} : ∀ {ls : List LineM}, idxL i (ls.map (·.at')) = none → findL i ls = none
  | [], _ => rfl
  | x :: r, h => by
    simp only [List.map_cons, idxL] at h
    by_cases e : x.at' = i
    · rw [if_pos e] at h; cases h
    · rw [if_neg e] at h
      simp only [findL]
      rw [if_neg e]
      exact findL_idx (by simpa using h)

theorem u_has : Try.prog.underlying 105 = some (.map 3 43) := by kernel_rfl

set_option maxRecDepth 100000 in
set_option maxHeartbeats 800000 in
theorem forget_any {c p x : Nat} {cm : CacheM} {hb pb : Nat} {ov : Value} {hl : List (Int × Value)} {X : Assn} {w : World} {ls : List LineM} {n : Nat} (hn : n = ls.length)
    (h : Bears w (cacheObj c p x cm hb pb ov * (mapA hb hl * (rowA 3 1 ov n (orderV ls) * X)))) (i : Int) :
    Calls Try.prog 85 #[.pointer (some ⟨c, 0, none⟩), .int .i64 i] w fun e w' => e = .returned (.tuple #[]) ∧ ∃ ov', Bears w' (cacheObj c p x cm hb pb ov' * (mapA hb (delL i hl) *
      (rowA 3 1 ov' (forgetL i ls).length (orderV (forgetL i ls)) * X))) := by
  subst hn
  obtain ⟨⟨c0, c1, c2, c3, c4, c5, c6, c7⟩, _⟩ := cache_cells h
  obtain ⟨a, cap, rfl, hc, hm, _⟩ := h.pull3.rowForm
  have hlen : ls.length ≤ 9223372036854775806 ∨ True := .inr trivial
  go_enter Try.func85, Try.ntmps85
  go_wp2_with (refine wpList_delete_bears h.pull2 rfl rfl u_has u_int rfl rfl ?_; intro w2 h2; obtain ⟨⟨_, _, _, _, _, _, _, d7⟩, f⟩ := cache_cells h2.pull2; have f7 := f 7)
  have h3 := h2.pull3
  rw [orderV_eq] at h3
  refine (sindex_any h3 (by simp) i).mono ?_
  rintro e w' ⟨rfl, rfl⟩
  cases hk : idxL i (ls.map (·.at')) with
  | none =>
    have e1 : idxV i (ls.map (·.at')) = -1 := by unfold idxV; rw [hk]
    rw [e1]
    have hf := forgetL_none (findL_idx hk)
    have Hf := Lib.hid hf
    clear hk e1 hf
    go_wp2_with fail
    go_end0
    refine ⟨rfl, .slice a ls.length cap, ?_⟩
    rw [Hf.out]
    exact h2.pull2
  | some k =>
    have e1 : idxV i (ls.map (·.at')) = (k : Int) := by unfold idxV; rw [hk]
    rw [e1]
    obtain ⟨hkl, hfe⟩ := forgetL_idx hk
    have Hfe := Lib.hid hfe
    have hk63 : (k : Int) + 1 ≤ 9223372036854775807 := by unfold maxLen at hm; omega
    have hk0 : (0 : Int) ≤ (k : Int) := by omega
    have hwr : wrap64 ((k : Int) + 1) = (k : Int) + 1 := by unfold wrap64; omega
    have hdel := sdelete_any (k := k) h3 (by simp) (by simpa using hkl)
    rw [show ((k + 1 : Nat) : Int) = (k : Int) + 1 by omega] at hdel
    clear hk e1 hfe
    go_wp2_with fail
    refine hdel.mono ?_
    rintro e w4 ⟨ov', rfl, h4⟩
    have h5 := h4.pull3
    obtain ⟨a2, cap2, rfl, _⟩ := h4.rowForm
    have g7 := (cache_cells h5).1.2.2.2.2.2.2.2
    have gf7 := (cache_cells h5).2 7
    have h6 := h5.setCell (i := 7) (.slice a2 (ls.length - 1) cap2)
    go_wp2_with fail
    go_end0
    refine ⟨rfl, .slice a2 (ls.length - 1) cap2, ?_⟩
    rw [orderV_eq, Hfe.out]
    have hlen2 : (forgetL i ls).length = ls.length - 1 := by
      have := congrArg List.length Hfe.out
      simp [List.length_eraseIdx, hkl] at this
      exact this
    rw [hlen2]
    exact (h6.cast (by simp [cacheObj]; ac_rfl))

end Go.Proofs.Ytaiobekochhemaa
