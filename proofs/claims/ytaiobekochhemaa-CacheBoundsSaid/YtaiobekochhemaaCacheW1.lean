/- Walks of the cache's functions, part 1: New, Begin, Pinned, Misses; where a number stands in a row; no condition. -/
import Derived.Test.YtaiobekochhemaaCacheA
namespace Go.Proofs.Ytaiobekochhemaa
open Go.RowKit Go.MapKept

def CacheM.new (most : Int) : CacheM := ⟨most, 0, false, []⟩

set_option maxHeartbeats 400000 in
theorem cnew_ok {R : Assn} {w : World} (h : Bears w R) (p x : Nat) (most : Int) (h1 : 1 ≤ most) (h2 : most ≤ 9223372036854775807) :
    Calls Try.prog 43 #[.pointer (some ⟨p, 0, none⟩), .pointer (some ⟨x, 0, none⟩), .int .i64 most] w fun e w' => ∃ c, e = .returned (.tuple #[.pointer (some ⟨c, 0, none⟩), .int .i64 0]) ∧ Bears w' (cacheA c p x (CacheM.new most) * R) := by
  have hmm := @run_makeMap Try.prog
  go_enter Try.func43, Try.ntmps43
  go_wp2
  go_ret2
  have h3 := (h.alloc (.map #[] 0)).toMapA (l := []) ⟨rfl, stamped_empty 0⟩
  have h4 := (h3.alloc (.map #[] 0)).toMapA (l := []) ⟨rfl, stamped_empty 0⟩
  have h5 := h4.alloc (.cells #[.pointer (some ⟨p, 0, none⟩), .pointer (some ⟨x, 0, none⟩), .int .i64 most, .int .i64 0, .bool false, .map (some w.heap.size), .map (some (w.heap.size + 1)), .slice none 0 0] 108)
  refine ⟨w.heap.size + 1 + 1, rfl, Bears.cache.2 ⟨w.heap.size, w.heap.size + 1, .slice none 0 0, [], [], Assn.emp, ⟨by simp [CacheM.new], by simp [CacheM.new], ⟨h1, h2⟩, by simp [CacheM.new], by simp [CacheM.new], by simp [CacheM.new]⟩, ⟨fun i _ => rfl, fun i x hx => by simp [CacheM.new, findL] at hx⟩, ⟨fun i => rfl, rfl⟩, ?_⟩⟩
  have h6 := Bears.pull2 ((Bears.nilRow (e := 3) (size := 1)).2 h5)
  refine h6.cast ?_
  simp only [CacheM.new, orderV, List.length_nil, List.map_nil, Assn.emp_mul, cacheObj]
  simp
  ac_rfl

theorem cache_cells {w : World} {c p x : Nat} {cm : CacheM} {hb pb : Nat} {ov : Value} {R : Assn} (h : Bears w (cacheObj c p x cm hb pb ov * R)) :
    (w.cell? ⟨c, 0, none⟩ = some (.pointer (some ⟨p, 0, none⟩)) ∧ w.cell? ⟨c, 1, none⟩ = some (.pointer (some ⟨x, 0, none⟩)) ∧ w.cell? ⟨c, 2, none⟩ = some (.int .i64 cm.most) ∧ w.cell? ⟨c, 3, none⟩ = some (.int .i64 cm.misses) ∧
      w.cell? ⟨c, 4, none⟩ = some (.bool cm.isOpen) ∧ w.cell? ⟨c, 5, none⟩ = some (.map (some hb)) ∧ w.cell? ⟨c, 6, none⟩ = some (.map (some pb)) ∧ w.cell? ⟨c, 7, none⟩ = some ov) ∧ ∀ i, w.frozen? ⟨c, i, none⟩ = false :=
  ⟨⟨cell_of_obj h.obj 0, cell_of_obj h.obj 1, cell_of_obj h.obj 2, cell_of_obj h.obj 3, cell_of_obj h.obj 4, cell_of_obj h.obj 5, cell_of_obj h.obj 6, cell_of_obj h.obj 7⟩, fun i => frozen_of_obj h.obj i⟩

theorem cmisses_any {c p x : Nat} {cm : CacheM} {R : Assn} {w : World} (h : Bears w (cacheA c p x cm * R)) :
    Calls Try.prog 39 #[.pointer (some ⟨c, 0, none⟩)] w fun e w' => e = .returned (.int .i64 cm.misses) ∧ w = w' := by
  obtain ⟨hb, pb, ov, hl, pl, Y, _, _, _, h0⟩ := Bears.cache.1 h
  obtain ⟨⟨c0, c1, c2, c3, c4, c5, c6, c7⟩, _⟩ := cache_cells h0
  go_enter Try.func39, Try.ntmps39
  go_wp2
  go_ret
  exact ⟨rfl, rfl⟩

def CacheM.begins (c : CacheM) : Int × CacheM := if c.isOpen = true then (30, c) else (0, { c with isOpen := true })

/-- Where a number stands first. -/
def idxL (i : Int) : List Int → Option Nat
  | [] => none
  | x :: r => if x = i then some 0 else (idxL i r).map (· + 1)

end Go.Proofs.Ytaiobekochhemaa
