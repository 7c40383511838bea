/- Walks of the cache's functions, part 5: use; no condition. -/
import Derived.Test.YtaiobekochhemaaCacheW4
namespace Go.Proofs.Ytaiobekochhemaa
open Go.RowKit Go.MapKept

theorem u_ints : Try.prog.underlying 49 = some (.slice 3) := by kernel_rfl
theorem i_int : (Try.prog.info? 3).map (fun i => (i.zero, i.size, i.bytes)) = some (some (.int .i64 0), 1, 8) := by kernel_rfl
theorem orderV_snoc (ls : List LineM) (x : LineM) : orderV (ls ++ [x]) = orderV ls ++ [.int .i64 x.at'] := by simp [orderV]

set_option maxRecDepth 100000 in
set_option maxHeartbeats 800000 in
theorem use_any {c p x : Nat} {cm : CacheM} {hb pb : Nat} {ov : Value} {hl : List (Int × Value)} {X : Assn} {w : World} {ls : List LineM} {n : Nat} (hn : n = ls.length) (hlen : ls.length < 1099511627776)
    (h : Bears w (cacheObj c p x cm hb pb ov * (mapA hb hl * (rowA 3 1 ov n (orderV ls) * X)))) (y : LineM) (v : Value) :
    Calls Try.prog 73 #[.pointer (some ⟨c, 0, none⟩), .int .i64 y.at', v] w fun e w' => e = .returned (.tuple #[]) ∧ ∃ ov', Bears w' (cacheObj c p x cm hb pb ov' * (mapA hb (putL y.at' v (delL y.at' hl)) *
      (rowA 3 1 ov' (useL y ls).length (orderV (useL y ls)) * X))) := by
  have hfl : (forgetL y.at' ls).length ≤ ls.length := (forgetL_sub y.at' ls).length_le
  obtain ⟨i0, hi0, hz0, hz1, hz2⟩ := info_parts i_int
  go_enter Try.func73, Try.ntmps73
  go_wp2_with fail
  refine (forget_any hn h y.at').mono ?_
  rintro e w1 ⟨rfl, ov1, h1⟩
  obtain ⟨⟨_, _, _, _, _, c5, _, c7⟩, _⟩ := cache_cells h1
  obtain ⟨a1, cap1, rfl, _⟩ := h1.pull3.rowForm
  go_wp2_with (first
    | (refine wpList_mapUpdate_bears (val := v) h1.pull2 rfl rfl u_has u_int rfl rfl rfl ?_; intro w2 h2; obtain ⟨⟨_, _, _, _, _, _, _, d7⟩, f⟩ := cache_cells h2.pull2; have f7 := f 7; have h3 := (h2.pull3.alloc (.cells #[.int .i64 y.at'] 3)).pull2; have hnews := World.news_of_block (cs := #[.int .i64 y.at']) h3.pull2.obj)
    | (at_builtin; refine wpList_append_bears h3 rfl rfl u_ints hi0 hz0 hz1 hz2 (by simp [Value.cells]) (by decide) rfl (m := 1) rfl rfl hnews (by intro u hu; simp at hu; rcases hu with rfl; rfl) (by unfold maxLen; omega) (by omega) ?_; intro a3 c3 w3 h4; have h5 := h4.pull4; obtain ⟨⟨_, _, _, _, _, _, _, g7⟩, gf⟩ := cache_cells h5; have gf7 := gf 7; have h6 := h5.setCell (i := 7) (.slice a3 ((forgetL y.at' ls).length + 1) c3)))
  go_end0
  refine ⟨rfl, .slice a3 ((forgetL y.at' ls).length + 1) c3, ?_⟩
  unfold useL
  rw [orderV_snoc, List.length_append]
  exact ((h6.cast (by simp [cacheObj]; ac_rfl) : Bears _ (Assn.obj w2.heap.size (.cells #[.int .i64 y.at'] 3 (0, 0)) * (cacheObj c p x cm hb pb (.slice a3 ((forgetL y.at' ls).length + 1) c3) * (mapA hb (putL y.at' v (delL y.at' hl)) *
    (rowA 3 1 (.slice a3 ((forgetL y.at' ls).length + 1) c3) ((forgetL y.at' ls).length + 1) (orderV (forgetL y.at' ls) ++ [.int .i64 y.at']) * X))))).right)

end Go.Proofs.Ytaiobekochhemaa
