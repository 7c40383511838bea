/- Walks of the cache's functions, part 2: where a number stands in a row; no condition. -/
import Derived.Test.YtaiobekochhemaaCacheW1
namespace Go.Proofs.Ytaiobekochhemaa
open Go.RowKit Go.MapKept

theorem idxL_none {i : Int} : ∀ {l : List Int}, idxL i l = none ↔ i ∉ l
  | [] => by simp [idxL]
  | x :: r => by
    simp only [idxL]
    by_cases h : x = i
    · simp [h]
    · rw [if_neg h]
      have := idxL_none (i := i) (l := r)
      simp [this, Ne.symm h]
theorem idxL_some {i : Int} : ∀ {l : List Int} {k : Nat}, k < l.length → l.getD k 0 = i → (∀ j, j < k → l.getD j 0 ≠ i) → idxL i l = some k
  | [], _, h, _, _ => absurd h (by simp)
  | x :: r, 0, _, h, _ => by
    simp only [List.getD_cons_zero] at h
    simp [idxL, h]
  | x :: r, k + 1, h, h1, h2 => by
    have hx : x ≠ i := by have := h2 0 (by omega); simpa using this
    simp only [idxL]
    rw [if_neg hx, idxL_some (k := k) (by simpa using h) (by simpa using h1) (fun j hj => by have := h2 (j + 1) (by omega); simpa using this)]
    rfl
def idxV (i : Int) (l : List Int) : Int := match idxL i l with | some k => (k : Int) | none => -1
abbrev intsV (l : List Int) : List Value := l.map (Value.int .i64)

theorem Bears.rowObj' {w : World} {e : TypeId} {g c : Nat} {l : List Int} {R : Assn} (h : Bears w (rowA e 1 (.slice (some ⟨g, 0, none⟩) l.length c) l.length (intsV l) * R)) {k : Nat} (hk : k < l.length) :
    w.cell? ⟨g, k, none⟩ = some (.int .i64 (l.getD k 0)) := by
  obtain ⟨_, h⟩ := h.row
  rcases h with ⟨h, _⟩ | ⟨g', cap, cur, hv, _, hg, hn, hm, hs, ht⟩
  · cases h
  · simp only [Value.slice.injEq, Option.some.injEq, Addr.mk.injEq] at hv
    obtain ⟨⟨rfl, _⟩, _, rfl⟩ := hv
    rw [cell_of_obj hg]
    have e1 : cur[k]? = (cur.toList.take (l.length * 1))[k]? := by rw [List.getElem?_take_of_lt (by omega)]; simp
    rw [e1, ht]
    simp [hk]

set_option maxRecDepth 100000 in
set_option maxHeartbeats 400000 in
theorem sindex_any {ov : Value} {n : Nat} {l : List Int} {R : Assn} {w : World} (h : Bears w (rowA 3 1 ov n (intsV l) * R)) (hn : n = l.length) (i : Int) :
    Calls Try.prog 114 #[ov, .int .i64 i] w fun e w' => e = .returned (.int .i64 (idxV i l)) ∧ w = w' := by
  subst hn
  obtain ⟨a, c, rfl, hc, hm, hr⟩ := h.rowForm
  have hl63 : l.length ≤ 9223372036854775807 := by unfold maxLen at hm; omega
  go_enter Try.func114, Try.ntmps114
  go_wp2_with fail
  go_loopw [8] (fun t8 wr => ∃ k : Nat, k ≤ l.length ∧ t8 = .int .i64 k ∧ (∀ j, j < k → l.getD j 0 ≠ i) ∧ wr = w) (fun t8 _ => l.length - (intOf t8).toNat)
  case atStart => exact ⟨0, by omega, rfl, fun j hj => absurd hj (by omega), rfl⟩
  case round =>
    obtain ⟨k, hk, rfl, hno, rfl⟩ := hrel
    by_cases hlt : k < l.length
    · obtain ⟨g, rfl, _⟩ := hr k hlt
      have hcell := (Bears.rowObj' h hlt)
      obtain ⟨z, hz⟩ : ∃ z, l.getD k 0 = z := ⟨_, rfl⟩
      rw [hz] at hcell
      have Hz := Lib.hid hz
      have Hno := Lib.hid hno
      clear hz hno hr
      by_cases he : i = z
      · subst he
        go_wp2_with fail
        go_ret
        refine ⟨?_, rfl⟩
        unfold idxV
        rw [idxL_some hlt Hz.out Hno.out]
        rfl
      · have he1 : (i == z) = false := by rw [beq_eq_false_iff_ne]; exact he
        go_wp2_with fail
        go_roundw
        case rel =>
          refine ⟨k + 1, by omega, by go_num, fun j hj => ?_, by first | rfl | trivial⟩
          rcases Nat.lt_succ_iff_lt_or_eq.1 hj with hj | rfl
          · exact Hno.out j hj
          · rw [Hz.out]; exact Ne.symm he
        case measure => simp [intOf]; omega
    · obtain rfl : k = l.length := by omega
      have hi : idxL i l = none := by
        rw [idxL_none]
        intro hm
        obtain ⟨j, hj, rfl⟩ := List.mem_iff_getElem.1 hm
        exact hno j hj (by simp [hj])
      have Hi := Lib.hid hi
      clear hi hno hr
      go_wp2_with fail
      go_ret
      refine ⟨?_, rfl⟩
      unfold idxV
      rw [Hi.out]
      rfl

end Go.Proofs.Ytaiobekochhemaa
