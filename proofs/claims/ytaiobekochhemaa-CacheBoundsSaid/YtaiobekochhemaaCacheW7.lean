/- Walks of the cache's functions, part 7: the first that is not pinned; no condition. -/
import Derived.Test.YtaiobekochhemaaCacheW6
namespace Go.Proofs.Ytaiobekochhemaa
open Go.RowKit Go.MapKept

/-- Where the first stands that the map does not have. -/
def idxFree (pl : List (Int × Value)) : List Int → Option Nat
  | [] => none
  | x :: r => if (getL x pl).isSome = false then some 0 else (idxFree pl r).map (· + 1)
theorem idxFree_some {pl : List (Int × Value)} : ∀ {l : List Int} {k : Nat}, k < l.length → (getL (l.getD k 0) pl).isSome = false → (∀ j, j < k → (getL (l.getD j 0) pl).isSome = true) → idxFree pl l = some k
  | [], _, h, _, _ => absurd h (by simp)
  | x :: r, 0, _, h, _ => by
    simp only [List.getD_cons_zero] at h
    simp only [idxFree]
    rw [if_pos h]
  | x :: r, k + 1, h, h1, h2 => by
    have hx := h2 0 (by omega)
    simp only [List.getD_cons_zero] at hx
    simp only [idxFree]
    rw [if_neg (by simp [hx]), idxFree_some (k := k) (by simpa using h) (by simpa using h1) (fun j hj => by have := h2 (j + 1) (by omega); simpa using this)]
    rfl
theorem idxFree_none {pl : List (Int × Value)} : ∀ {l : List Int}, (∀ j, j < l.length → (getL (l.getD j 0) pl).isSome = true) → idxFree pl l = none
  | [], _ => rfl
  | x :: r, h => by
    have hx := h 0 (by simp)
    simp only [List.getD_cons_zero] at hx
    simp only [idxFree]
    rw [if_neg (by simp [hx]), idxFree_none (fun j hj => by have := h (j + 1) (by simpa using hj); simpa using this)]
    rfl
def idxFV (pl : List (Int × Value)) (l : List Int) : Int := match idxFree pl l with | some k => (k : Int) | none => -1

set_option maxRecDepth 100000 in
set_option maxHeartbeats 800000 in
theorem findex_any {bx c p x : Nat} {cm : CacheM} {hb pb n : Nat} {ov ov' : Value} {pl : List (Int × Value)} {l : List Int} {X : Assn} {w : World} (hn : n = l.length)
    (h : Bears w (Assn.obj bx (.cells #[.pointer (some ⟨c, 0, none⟩)] 36 (0, 0)) * (cacheObj c p x cm hb pb ov' * (mapA pb pl * (rowA 3 1 ov n (intsV l) * X))))) :
    Calls Try.prog 105 #[ov, .func (.func 104) #[] #[.pointer (some ⟨bx, 0, none⟩)]] w fun e w' => e = .returned (.int .i64 (idxFV pl l)) ∧ w = w' := by
  subst hn
  obtain ⟨a, cc, rfl, hc, hm, hr⟩ := h.pull4.rowForm
  have hl63 : l.length ≤ 9223372036854775807 := by unfold maxLen at hm; omega
  go_enter Try.func105, Try.ntmps105
  go_wp2_with fail
  go_loopw [8] (fun t8 wr => ∃ k : Nat, k ≤ l.length ∧ t8 = .int .i64 k ∧ (∀ j, j < k → (getL (l.getD j 0) pl).isSome = true) ∧ wr = w) (fun t8 _ => l.length - (intOf t8).toNat)
  case atStart => exact ⟨0, by omega, rfl, fun j hj => absurd hj (by omega), rfl⟩
  case round =>
    obtain ⟨k, hk, rfl, hno, rfl⟩ := hrel
    by_cases hlt : k < l.length
    · obtain ⟨g, rfl, _⟩ := hr k hlt
      have hcell := (Bears.rowObj' h.pull4 hlt)
      obtain ⟨z, hz⟩ : ∃ z, l.getD k 0 = z := ⟨_, rfl⟩
      rw [hz] at hcell
      have Hz := Lib.hid hz
      have Hno := Lib.hid hno
      clear hz hno hr
      go_wp2_with fail
      refine (free_any h z).mono ?_
      rintro e w' ⟨rfl, rfl⟩
      cases hb : (getL z pl).isSome with
      | true =>
        have Hb := Lib.hid hb
        clear hb
        go_wp2_with fail
        go_roundw
        case rel =>
          refine ⟨k + 1, by omega, by go_num, fun j hj => ?_, by first | rfl | trivial⟩
          rcases Nat.lt_succ_iff_lt_or_eq.1 hj with hj | rfl
          · exact Hno.out j hj
          · rw [Hz.out]; exact Hb.out
        case measure => simp [intOf]; omega
      | false =>
        have Hb := Lib.hid hb
        clear hb
        go_wp2_with fail
        go_ret
        refine ⟨?_, rfl⟩
        unfold idxFV
        rw [idxFree_some hlt (by rw [Hz.out]; exact Hb.out) Hno.out]
        rfl
    · obtain rfl : k = l.length := by omega
      have Hi := Lib.hid (idxFree_none hno)
      clear hno hr
      go_wp2_with fail
      go_ret
      refine ⟨?_, rfl⟩
      unfold idxFV
      rw [Hi.out]
      rfl

end Go.Proofs.Ytaiobekochhemaa
