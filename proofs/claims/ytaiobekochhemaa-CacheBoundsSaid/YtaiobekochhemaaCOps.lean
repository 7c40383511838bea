/- A slice of the cache's calls (structs of four cells) that came in; no condition. -/
import Derived.Test.YtaiobekochhemaaOps
namespace Go.Proofs.Ytaiobekochhemaa
open Go.RowKit Go.ChangeShapes Go.WideShapes Go.Deep

structure COpM where
  kind : Int
  at' : Int
  n : Int
  byte : UInt8
instance : Inhabited COpM := ⟨⟨0, 0, 0, 0⟩⟩
def COpM.row (o : COpM) : List Value := [.int .i64 o.kind, .int .i64 o.at', .int .i64 o.n, byteV o.byte]
structure COpM.Fine (o : COpM) : Prop where
  kind : -9223372036854775808 ≤ o.kind ∧ o.kind ≤ 9223372036854775807
  at' : -9223372036854775808 ≤ o.at' ∧ o.at' ≤ 9223372036854775807
  n : -9223372036854775808 ≤ o.n ∧ o.n ≤ 9223372036854775807

def COpsIn (w : World) (v : Value) (ops : List COpM) : Prop :=
  ∃ ad cap, v = .slice ad ops.length cap ∧ (ops ≠ [] → ∃ b o, ad = some ⟨b, o, none⟩ ∧ ∀ i j u, i < ops.length → (ops.getD i default).row[j]? = some u → w.cell? ⟨b, o + i * 4 + j, none⟩ = some u)

theorem COpsIn.range {w : World} {ad : Option Addr} {n cap : Nat} {ops : List COpM} (h : COpsIn w (.slice ad n cap) ops) {k : Nat} (hk : k < ops.length) :
    ∃ b o, ad = some ⟨b, o, none⟩ ∧ w.rangeAt b (o + k * 4) (ops.getD k default).row := by
  obtain ⟨ad', cap', hv, hr⟩ := h
  simp only [Value.slice.injEq] at hv
  obtain ⟨rfl, _, _⟩ := hv
  obtain ⟨b, o, e, hc⟩ := hr (by intro e; simp [e] at hk)
  exact ⟨b, o, e, fun j u hu => hc k j u hk hu⟩

theorem COpsIn.cells {w : World} {ad : Option Addr} {n cap : Nat} {ops : List COpM} (h : COpsIn w (.slice ad n cap) ops) {k : Nat} (hk : k < ops.length) :
    ∃ b o, ad = some ⟨b, o, none⟩ ∧ w.cell? ⟨b, o + k * 4, none⟩ = some (.int .i64 (ops.getD k default).kind) ∧ w.cell? ⟨b, o + k * 4 + 1, none⟩ = some (.int .i64 (ops.getD k default).at') ∧
      w.cell? ⟨b, o + k * 4 + 2, none⟩ = some (.int .i64 (ops.getD k default).n) ∧ w.cell? ⟨b, o + k * 4 + 3, none⟩ = some (byteV (ops.getD k default).byte) := by
  obtain ⟨b, o, e, hr⟩ := h.range hk
  exact ⟨b, o, e, hr 0 _ rfl, hr 1 _ rfl, hr 2 _ rfl, hr 3 _ rfl⟩

theorem row_cops {H : Type} {enc : TypeId × Value → H} {W : World} {held : Bool} {a : Option Addr} {len cap fuel : Nat} {x : DataW H × List MemPlace}
    (h : DataW.trod enc Try.prog W 0 (fun _ => true) held fuel 34 [.slice a len cap] = some x) :
    ∃ ops : List COpM, ops.length = len ∧ (Assn.old W.heap.size W).Tells (fun w => COpsIn w (.slice a len cap) ops) ∧ len ≤ 9223372036854775807 ∧ ∀ k, k < ops.length → (ops.getD k default).Fine := by
  obtain ⟨hm, rows, hcell, hrow⟩ := trod_rows (P := Try.prog) (e := 42) Try.underlying34 Try.underlying42 (by kernel_rfl) (by kernel_rfl) (by decide) h
  have hop : ∀ i, i < len → ∃ o : COpM, rows i = o.row ∧ o.Fine := by
    intro i hi
    obtain ⟨hl, hf⟩ := hrow i hi
    obtain ⟨v0, n0, y0, g0, h0⟩ := hf 0 _ rfl
    obtain ⟨v1, n1, y1, g1, h1⟩ := hf 1 _ rfl
    obtain ⟨v2, n2, y2, g2, h2⟩ := hf 2 _ rfl
    obtain ⟨v3, n3, y3, g3, h3⟩ := hf 3 _ rfl
    obtain ⟨z0, rfl, b0⟩ := trod_i64 (by kernel_rfl) h0
    obtain ⟨z1, rfl, b1⟩ := trod_i64 (by kernel_rfl) h1
    obtain ⟨z2, rfl, b2⟩ := trod_i64 (by kernel_rfl) h2
    obtain ⟨c, rfl⟩ := trod_u8 (by kernel_rfl) h3
    refine ⟨⟨z0, z1, z2, c⟩, ?_, ⟨b0, b1, b2⟩⟩
    match hq : rows i, hl with
    | [u0, u1, u2, u3], _ =>
      rw [hq] at g0 g1 g2 g3
      simp only [List.getElem?_cons_zero, List.getElem?_cons_succ, Option.some.injEq] at g0 g1 g2 g3
      subst g0; subst g1; subst g2; subst g3
      rfl
  obtain ⟨f, hf⟩ := choose_lt hop
  have hget : ∀ i, i < len → ((List.range len).map f).getD i default = f i := by
    intro i hi
    simp [hi]
  refine ⟨(List.range len).map f, by simp, ?_, by unfold maxLen at hm; omega, fun k hk => ?_⟩
  · intro w hw
    refine ⟨a, cap, by simp, fun hne => ?_⟩
    have hpos : 0 < len := by
      rcases Nat.eq_zero_or_pos len with e | e
      · subst e; simp at hne
      · exact e
    obtain ⟨b, o, ha, hb, hc⟩ := hcell hpos
    refine ⟨b, o, ha, fun i j u hi hu => ?_⟩
    simp only [List.length_map, List.length_range] at hi
    rw [hget i hi] at hu
    have hj : j < 4 := by
      have := (List.getElem?_eq_some_iff.1 hu).1
      simpa [COpM.row] using this
    have h1 := hc i j hi hj
    rw [(hf i hi).1, hu] at h1
    have h2 : w.rangeAt b (o + i * 4 + j) [u] := old_tells (p := fun w => w.rangeAt b (o + i * 4 + j) [u]) (fun w hw => range_old (fun j' v' hv' => by
      cases j' with
      | zero => simp only [List.getElem?_cons_zero, Option.some.injEq] at hv'; subst hv'; exact h1
      | succ n => simp at hv') hb hw) w hw
    exact h2 0 u rfl
  · simp only [List.length_map, List.length_range] at hk
    rw [hget k hk]
    exact (hf k hk).2

end Go.Proofs.Ytaiobekochhemaa
