/- Rows of puts; no condition. -/
import Derived.Test.YtaiobekochhemaaWLawB
namespace Go.Proofs.Ytaiobekochhemaa
open Go.RowKit Go.MapKept

theorem drop_take_cells : ∀ (l : List PutM) (k : Nat), k < l.length → ((putCells l).drop (k * 2)).take 2 = [.int .i64 (l.getD k default).sector, (l.getD k default).val]
  | [], _, h => absurd h (by simp)
  | p :: l, 0, _ => rfl
  | p :: l, k + 1, h => by
    have := drop_take_cells l k (by simpa using h)
    rw [show (k + 1) * 2 = k * 2 + 1 + 1 by omega]
    simpa [putCells] using this

theorem PutsIn.row {w : World} {v : Value} {n : Nat} {l : List PutM} {R : Assn} (h : Bears w (rowA 121 2 v n (putCells l) * R)) (hn : n = l.length) (hb : ∀ p ∈ l, R.Tells (fun w => BytesIn w p.val p.bytes)) : PutsIn w v l := by
  subst hn
  obtain ⟨a, c, rfl, hc, _, hr⟩ := h.rowForm
  refine ⟨a, c, rfl, hc, fun hne => ?_⟩
  obtain ⟨g, rfl, _⟩ := hr 0 (List.length_pos_iff.2 hne)
  refine ⟨g, 0, rfl, fun k hk => ?_⟩
  obtain ⟨g', he, h2⟩ := hr k hk
  cases he
  rw [drop_take_cells l k hk] at h2
  refine ⟨by rw [Nat.zero_add]; exact h2 0 _ rfl, by rw [Nat.zero_add]; exact h2 1 _ rfl, hb _ (getD_mem hk) w h.right⟩

theorem putCells_snoc (l : List PutM) (p : PutM) : putCells (l ++ [p]) = putCells l ++ [.int .i64 p.sector, p.val] := by simp [putCells]
theorem wMayTo_snoc {n a s : Nat} (p : PutM) : ∀ (l seen : List PutM), wMayTo n a s seen (l ++ [p]) = (wMayTo n a s seen l && wOk n a s (seen ++ l) p)
  | [], seen => by simp [wMayTo]
  | q :: l, seen => by
    simp only [List.cons_append, wMayTo]
    rw [wMayTo_snoc p l (seen ++ [q]), List.append_assoc, Bool.and_assoc]
    rfl
theorem u_puts : Try.prog.underlying 113 = some (.slice 121) := by kernel_rfl
theorem i_put : (Try.prog.info? 121).map (fun i => (i.zero, i.size, i.bytes)) = some (some (.agg #[.int .i64 0, .slice none 0 0]), 2, 32) := by kernel_rfl

end Go.Proofs.Ytaiobekochhemaa
