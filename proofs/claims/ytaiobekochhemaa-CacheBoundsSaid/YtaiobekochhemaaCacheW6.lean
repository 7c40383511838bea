/- Walks of the cache's functions, part 6: what is not pinned; no condition. -/
import Derived.Test.YtaiobekochhemaaCacheW5
namespace Go.Proofs.Ytaiobekochhemaa
open Go.RowKit Go.MapKept

theorem u_pins : Try.prog.underlying 106 = some (.map 3 3) := by kernel_rfl

set_option maxRecDepth 100000 in
set_option maxHeartbeats 800000 in
theorem free_any {bx c p x : Nat} {cm : CacheM} {hb pb : Nat} {ov : Value} {pl : List (Int × Value)} {X : Assn} {w : World}
    (h : Bears w (Assn.obj bx (.cells #[.pointer (some ⟨c, 0, none⟩)] 36 (0, 0)) * (cacheObj c p x cm hb pb ov * (mapA pb pl * X)))) (i : Int) :
    Calls Try.prog 104 #[.int .i64 i, .pointer (some ⟨bx, 0, none⟩)] w fun e w' => e = .returned (.bool (!(getL i pl).isSome)) ∧ w = w' := by
  have cb := cell_of_obj h.obj 0
  obtain ⟨⟨_, _, _, _, _, _, c6, _⟩, _⟩ := cache_cells h.pull2
  have hz : ∀ w, (zeroValue 3).run Try.prog w = .ok (.int .i64 0) w := fun _ => by kernel_rfl
  obtain ⟨b, hbv⟩ : ∃ b, (getL i pl).isSome = b := ⟨_, rfl⟩
  rw [hbv]
  have Hb := Lib.hid hbv
  go_enter Try.func104, Try.ntmps104
  go_wp2_with (refine wpList_lookup_ok_bears h.pull3 rfl rfl u_pins u_int (hz _) rfl rfl ?_)
  go_ret
  exact ⟨rfl, rfl⟩

end Go.Proofs.Ytaiobekochhemaa
