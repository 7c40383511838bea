/- Walks of the cache's functions, part 3: an element taken out of a row; no condition. -/
import Derived.Test.YtaiobekochhemaaCacheW2
import Derived.Test.YtaiobekochhemaaShelf
namespace Go.Proofs.Ytaiobekochhemaa
open Go.RowKit Go.MapKept Go.Sort Go.Lib

theorem heap_putRow {w : World} {g q : Nat} {d : Array Int} {cur : Array Value} {t : TypeId} {fz : Nat × Nat} (hg : w.heap[g]? = some (.cells cur t fz)) :
    (putRow (Value.int .i64) (Sort.ahead w q) g 0 d).heap[g]? = some (.cells (putCells (Value.int .i64) 0 d cur) t fz) := by
  unfold putRow mapBlock
  show (w.heap.modify g _)[g]? = _
  rw [Array.getElem?_modify, if_pos rfl, hg]
  rfl
theorem heap_putRow_other {w : World} {g q b : Nat} {d : Array Int} (hb : b ≠ g) : (putRow (Value.int .i64) (Sort.ahead w q) g 0 d).heap[b]? = w.heap[b]? := by
  unfold putRow mapBlock
  show (w.heap.modify g _)[b]? = _
  rw [Array.getElem?_modify, if_neg (Ne.symm hb)]
  try rfl

set_option maxRecDepth 100000 in
set_option maxHeartbeats 400000 in
theorem sdelete_any {ov : Value} {n : Nat} {l : List Int} {R : Assn} {w : World} (h : Bears w (rowA 3 1 ov n (intsV l) * R)) (hn : n = l.length) {k : Nat} (hk : k < l.length) :
    Calls Try.prog 115 #[ov, .int .i64 k, .int .i64 ((k + 1 : Nat) : Int)] w fun e w' => ∃ ov', e = .returned ov' ∧ Bears w' (rowA 3 1 ov' (n - 1) (intsV (l.eraseIdx k)) * R) := by
  subst hn
  obtain ⟨a, c, rfl, hc, hm, hr⟩ := h.rowForm
  obtain ⟨g, rfl, _⟩ := hr k hk
  clear hr
  have hcell := fun j (hj : j < l.length) => h.rowObj' hj
  obtain ⟨hl, hx⟩ := h.row
  rcases hx with ⟨hx, _⟩ | ⟨g', cap, cur, hv, _, hg, hn, hm', hs, ht⟩
  · cases hx
  simp only [Value.slice.injEq, Option.some.injEq, Addr.mk.injEq] at hv
  obtain ⟨⟨rfl, _⟩, _, rfl⟩ := hv
  have hH : Holds (Value.int .i64) w g 0 l.toArray := by
    intro j hj
    have hj' : j < l.length := by simpa using hj
    refine ⟨?_, frozen_of_obj hg _⟩
    rw [Nat.zero_add, hcell j hj']
    simp [hj']
  refine (Go.Proofs.Try.slices_Delete_int g 0 c k (k + 1) l w hH hc (by unfold maxLen at hm; omega) (by omega) (by omega)).mono ?_
  rintro e w' ⟨rfl, q, rfl⟩
  rw [show k + 1 - k = 1 by omega]
  refine ⟨_, rfl, ?_⟩
  obtain ⟨F, G, H, ⟨h1, rfl⟩, hR, hd, rfl⟩ := h
  refine ⟨_, _, H, ⟨⟨?_, .inr ⟨g, c, _, rfl, Nat.zero_le _, heap_putRow hg, by omega, hm, ?_, ?_⟩⟩, rfl⟩, R.loc hR ⟨rfl, rfl, rfl, ?_⟩ (fun b hb => heap_putRow_other (fun e => hd b (by rw [e]; rfl) hb)), hd, rfl⟩
  · simp [List.length_eraseIdx, hk]
  · simp [putCells, hs]
  · rw [List.eraseIdx_eq_take_drop_succ]
    have hel : (l.take k ++ l.drop (k + 1)).length = l.length - 1 := by simp; omega
    generalize l.take k ++ l.drop (k + 1) = e at hel
    apply List.ext_getElem
    · simp [putCells, hs, hel]
      omega
    · intro j h1 h2
      have hj : j < e.length := by simpa using h2
      simp only [List.getElem_take, Array.getElem_toList, putCells, Array.getElem_mapIdx, intsV, List.getElem_map]
      rw [if_pos ⟨Nat.zero_le _, by simp; omega⟩]
      congr 1
      simp only [Nat.sub_zero]
      rw [getElem!_pos _ j (by simp; omega)]
      simp [hj]
  · simp [putRow, mapBlock, Sort.ahead]

end Go.Proofs.Ytaiobekochhemaa
