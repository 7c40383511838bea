/- Calls of WalCrashes that came in: their cells; no condition. -/
import Derived.Test.YtadefdmoijkclaaWOps
namespace Go.Proofs.Ytadefdmoijkclaa
open Go.RowKit Go.ChangeShapes Go.WideShapes Go.Deep

/-- A call of WalCrashes. -/
structure WOpM where
  kind : Int
  n : Int
  oad : Option Addr
  ocap : Nat
  puts : List PutM
  kad : Option Addr
  kcap : Nat
  keep : List Int
instance : Inhabited WOpM := ⟨⟨0, 0, none, 0, [], none, 0, []⟩⟩
def WOpM.row (o : WOpM) : List Value := [.int .i64 o.kind, .int .i64 o.n, .slice o.oad o.puts.length o.ocap, .slice o.kad o.keep.length o.kcap]
structure WOpM.Fine (R : Assn) (o : WOpM) : Prop where
  kind : -9223372036854775808 ≤ o.kind ∧ o.kind ≤ 9223372036854775807
  n : -9223372036854775808 ≤ o.n ∧ o.n ≤ 9223372036854775807
  puts : R.Tells fun w => PutsIn w (.slice o.oad o.puts.length o.ocap) o.puts
  putsLen : o.puts.length ≤ 9223372036854775807
  keep : R.Tells fun w => IntsIn w (.slice o.kad o.keep.length o.kcap) o.keep
  keepLen : o.keep.length ≤ 9223372036854775807
  keeps : ∀ x ∈ o.keep, -9223372036854775808 ≤ x ∧ x ≤ 9223372036854775807
def WOpsIn (w : World) (v : Value) (ops : List WOpM) : Prop :=
  ∃ ad cap, v = .slice ad ops.length cap ∧ (ops ≠ [] → ∃ b o, ad = some ⟨b, o, none⟩ ∧ ∀ i j u, i < ops.length → (ops.getD i default).row[j]? = some u → w.cell? ⟨b, o + i * 4 + j, none⟩ = some u)
theorem WOpsIn.cells {w : World} {ad : Option Addr} {n cap : Nat} {ops : List WOpM} (h : WOpsIn w (.slice ad n cap) ops) {k : Nat} (hk : k < ops.length) :
    ∃ b o, ad = some ⟨b, o, none⟩ ∧ w.cell? ⟨b, o + k * 4, none⟩ = some (.int .i64 (ops.getD k default).kind) ∧ w.cell? ⟨b, o + k * 4 + 1, none⟩ = some (.int .i64 (ops.getD k default).n) ∧
      w.cell? ⟨b, o + k * 4 + 2, none⟩ = some (.slice (ops.getD k default).oad (ops.getD k default).puts.length (ops.getD k default).ocap) ∧
      w.cell? ⟨b, o + k * 4 + 3, none⟩ = some (.slice (ops.getD k default).kad (ops.getD k default).keep.length (ops.getD k default).kcap) := by
  obtain ⟨ad', cap', hv, hr⟩ := h
  simp only [Value.slice.injEq] at hv
  obtain ⟨rfl, _, _⟩ := hv
  obtain ⟨b, o, e, hc⟩ := hr (by intro e; simp [e] at hk)
  exact ⟨b, o, e, hc k 0 _ hk rfl, hc k 1 _ hk rfl, hc k 2 _ hk rfl, hc k 3 _ hk rfl⟩

theorem row_wops {H : Type} {enc : TypeId × Value → H} {W : World} {held : Bool} {a : Option Addr} {len cap fuel : Nat} {x : DataW H × List MemPlace}
    (h : DataW.trod enc Try.prog W 0 (fun _ => true) held fuel 55 [.slice a len cap] = some x) :
    ∃ ops : List WOpM, ops.length = len ∧ (Assn.old W.heap.size W).Tells (fun w => WOpsIn w (.slice a len cap) ops) ∧ len ≤ 9223372036854775807 ∧ ∀ k, k < ops.length → (ops.getD k default).Fine (Assn.old W.heap.size W) := by
  obtain ⟨hm, rows, hcell, hrow⟩ := trod_rows (P := Try.prog) (e := 60) Try.underlying55 Try.underlying60 (by kernel_rfl) (by kernel_rfl) (by decide) h
  have hop : ∀ i, i < len → ∃ o : WOpM, rows i = o.row ∧ o.Fine (Assn.old W.heap.size W) := by
    intro i hi
    obtain ⟨hl, hf⟩ := hrow i hi
    obtain ⟨v0, n0, y0, g0, h0⟩ := hf 0 _ rfl
    obtain ⟨v1, n1, y1, g1, h1⟩ := hf 1 _ rfl
    obtain ⟨v2, n2, y2, g2, h2⟩ := hf 2 _ rfl
    obtain ⟨v3, n3, y3, g3, h3⟩ := hf 3 _ rfl
    obtain ⟨z0, rfl, b0⟩ := trod_i64 (by kernel_rfl) h0
    obtain ⟨z1, rfl, b1⟩ := trod_i64 (by kernel_rfl) h1
    obtain ⟨pa, pc, pl, e2, p2, p3⟩ := row_puts h2
    obtain ⟨ka, kl, kc, zs, rfl, hr⟩ := trod_row (k := .i64) (e := 3) (by kernel_rfl) (by kernel_rfl) (by kernel_rfl) h3
    obtain ⟨l, rfl, ht, hb, hx⟩ := row_ints hr
    subst e2
    refine ⟨⟨z0, z1, pa, pc, pl, ka, kc, l⟩, ?_, ⟨b0, b1, p2, p3, ht, hb, hx⟩⟩
    match hq : rows i, hl with
    | [u0, u1, u2, u3], _ =>
      rw [hq] at g0 g1 g2 g3
      simp only [List.getElem?_cons_zero, List.getElem?_cons_succ, Option.some.injEq] at g0 g1 g2 g3
      subst g0; subst g1; subst g2; subst g3
      rfl
  obtain ⟨f, hf⟩ := choose_lt hop
  have hget : ∀ i, i < len → ((List.range len).map f).getD i default = f i := by
    intro i hi
    simp [hi]
  refine ⟨(List.range len).map f, by simp, ?_, by unfold maxLen at hm; omega, fun k hk => ?_⟩
  · intro w hB
    have hw := old_heap hB
    refine ⟨a, cap, by simp, fun hne => ?_⟩
    have hpos : 0 < len := by
      rcases Nat.eq_zero_or_pos len with e | e
      · subst e; simp at hne
      · exact e
    obtain ⟨b, o, ha, hb, hc⟩ := hcell hpos
    refine ⟨b, o, ha, fun i j u hi hu => ?_⟩
    simp only [List.length_map, List.length_range] at hi
    rw [hget i hi] at hu
    have hj : j < 4 := by
      have := (List.getElem?_eq_some_iff.1 hu).1
      simpa [WOpM.row] using this
    have h1 := hc i j hi hj
    rw [(hf i hi).1, hu] at h1
    exact cell_old h1 hb hw
  · simp only [List.length_map, List.length_range] at hk
    rw [hget k hk]
    exact (hf k hk).2

end Go.Proofs.Ytadefdmoijkclaa
