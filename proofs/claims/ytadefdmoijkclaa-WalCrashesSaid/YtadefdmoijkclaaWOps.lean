/- Puts, groups and rows of bytes that came in: their cells; no condition. -/
import Derived.Test.YtadefdmoijkclaaOps
import Derived.Test.YtadefdmoijkclaaWLawB
namespace Go.Proofs.Ytadefdmoijkclaa
open Go.RowKit Go.ChangeShapes Go.WideShapes Go.Deep

section
variable {H : Type} {enc : TypeId × Value → H} {P : Program} {W : World} {held : Bool}

/-- A slice whose elements are of one cell each. -/
theorem trod_ones {t e : TypeId} (ht : P.underlying t = some (.slice e)) (hC : P.cellsOf e = 1) {v : Value} {fuel : Nat} {x : DataW H × List MemPlace} (h : DataW.trod enc P W 0 (fun _ => true) held fuel t [v] = some x) :
    ∃ a len cap, v = .slice a len cap ∧ len ≤ cap ∧ cap ≤ maxLen ∧ ∃ V : Nat → Value, (0 < len → ∃ b o, a = some ⟨b, o, none⟩ ∧ b < W.heap.size ∧ ∀ i, i < len → W.cell? ⟨b, o + i, none⟩ = some (V i)) ∧
      ∀ i, i < len → ∃ n y, DataW.trod enc P W 0 (fun _ => true) held n e [V i] = some y := by
  rcases open_slice1 ht hC h with ⟨hcs, _⟩ | ⟨a, len, cap, m, n, V, D, Pl, hcs, _, hl, hm, hmm, _, hi⟩
  · simp only [List.cons.injEq, and_true] at hcs
    exact ⟨none, 0, 0, hcs, Nat.le_refl _, by unfold maxLen; omega, fun _ => undef, fun h => absurd h (by omega), fun i h => absurd h (by omega)⟩
  · simp only [List.cons.injEq, and_true] at hcs
    have hlm : len ≤ m := by rw [hmm]; split <;> omega
    refine ⟨some a, len, cap, hcs, hl, hm, V, fun h0 => ?_, fun i h0 => ⟨n, _, (hi i (by omega)).2⟩⟩
    have h3 := (hi 0 (by omega)).1
    have e0 : a.add 0 = a := by simp [Addr.add]
    rw [e0] at h3
    have ex := addr_of_cell h3
    refine ⟨a.block, a.off, by rw [← ex], World.block_lt_of_cell? W a h3, fun i h0 => ?_⟩
    have h4 := (hi i (by omega)).1
    rw [ex, Addr.add_mid] at h4
    exact h4
end

theorem cell_old {W w : World} {b o : Nat} {v : Value} (h : W.cell? ⟨b, o, none⟩ = some v) (hb : b < W.heap.size) (hw : ∀ b, b < W.heap.size → w.heap[b]? = W.heap[b]?) : w.cell? ⟨b, o, none⟩ = some v := by
  rw [World.cell?_of_block (a := ⟨b, o, none⟩) (hw b hb)]
  exact h

theorem old_heap {W w : World} (h : Bears w (Assn.old W.heap.size W)) : ∀ b, b < W.heap.size → w.heap[b]? = W.heap[b]? := by
  obtain ⟨F, rfl, h0, _, _, _, h4⟩ := h
  exact h4

theorem row_puts {H : Type} {enc : TypeId × Value → H} {W : World} {held : Bool} {v : Value} {fuel : Nat} {x : DataW H × List MemPlace}
    (h : DataW.trod enc Try.prog W 0 (fun _ => true) held fuel 33 [v] = some x) :
    ∃ (a : Option Addr) (cap : Nat) (l : List PutM), v = .slice a l.length cap ∧ (Assn.old W.heap.size W).Tells (fun w => PutsIn w v l) ∧ l.length ≤ 9223372036854775807 := by
  obtain ⟨a, len, cap, rfl, hcap⟩ : ∃ a len cap, v = .slice a len cap ∧ len ≤ cap := by
    rcases open_slice Try.underlying33 h with ⟨hcs, _⟩ | ⟨a, len, cap, m, n, D, Pl, hcs, _, hl, _⟩
    · simp only [List.cons.injEq, and_true] at hcs
      exact ⟨_, _, _, hcs, Nat.le_refl _⟩
    · simp only [List.cons.injEq, and_true] at hcs
      exact ⟨_, _, _, hcs, hl⟩
  obtain ⟨hm, rows, hcell, hrow⟩ := trod_rows (P := Try.prog) (e := 37) Try.underlying33 Try.underlying37 (by kernel_rfl) (by kernel_rfl) (by decide) h
  have hop : ∀ i, i < len → ∃ p : PutM, rows i = [.int .i64 p.sector, p.val] ∧ (Assn.old W.heap.size W).Tells (fun w => BytesIn w p.val p.bytes) := by
    intro i hi
    obtain ⟨hl, hf⟩ := hrow i hi
    obtain ⟨v0, n0, y0, g0, h0⟩ := hf 0 _ rfl
    obtain ⟨v1, n1, y1, g1, h1⟩ := hf 1 _ rfl
    obtain ⟨z0, rfl, b0⟩ := trod_i64 (by kernel_rfl) h0
    obtain ⟨ka, kl, kc, zs, rfl, hr⟩ := trod_row (k := .u8) (e := 5) (by kernel_rfl) (by kernel_rfl) (by kernel_rfl) h1
    obtain ⟨l, rfl, ht, hb⟩ := row_bytes hr
    refine ⟨⟨z0, l, ka, kc⟩, ?_, ht⟩
    match hq : rows i, hl with
    | [u0, u1], _ =>
      rw [hq] at g0 g1
      simp only [List.getElem?_cons_zero, List.getElem?_cons_succ, Option.some.injEq] at g0 g1
      subst g0; subst g1
      rfl
  obtain ⟨f, hf⟩ := choose_lt hop
  have hget : ∀ i, i < len → ((List.range len).map f).getD i default = f i := by
    intro i hi
    simp [hi]
  refine ⟨a, cap, (List.range len).map f, by simp, fun w hB => ?_, by simp; unfold maxLen at hm; omega⟩
  have hw := old_heap hB
  refine ⟨a, cap, by simp, by simpa using hcap, fun hne => ?_⟩
  have hpos : 0 < len := by
    rcases Nat.eq_zero_or_pos len with e | e
    · subst e; simp at hne
    · exact e
  obtain ⟨b, o, ha, hb, hc⟩ := hcell hpos
  refine ⟨b, o, ha, fun k hk => ?_⟩
  simp only [List.length_map, List.length_range] at hk
  rw [hget k hk]
  have h0 := hc k 0 hk (by decide)
  have h1 := hc k 1 hk (by decide)
  rw [(hf k hk).1] at h0 h1
  refine ⟨cell_old h0 hb hw, cell_old h1 hb hw, (hf k hk).2 w hB⟩

/-- A slice of puts, and where it lies. -/
structure GroupM where
  ad : Option Addr
  cap : Nat
  puts : List PutM
instance : Inhabited GroupM := ⟨⟨none, 0, []⟩⟩
abbrev GroupM.val (g : GroupM) : Value := .slice g.ad g.puts.length g.cap
def GroupsIn (w : World) (v : Value) (gs : List GroupM) : Prop :=
  ∃ ad cap, v = .slice ad gs.length cap ∧ (gs ≠ [] → ∃ b o, ad = some ⟨b, o, none⟩ ∧ ∀ k, k < gs.length → w.cell? ⟨b, o + k, none⟩ = some (gs.getD k default).val) ∧
    ∀ k, k < gs.length → PutsIn w (gs.getD k default).val (gs.getD k default).puts
theorem GroupsIn.cell {w : World} {ad : Option Addr} {n cap : Nat} {gs : List GroupM} (h : GroupsIn w (.slice ad n cap) gs) {k : Nat} (hk : k < gs.length) :
    ∃ b o, ad = some ⟨b, o, none⟩ ∧ w.cell? ⟨b, o + k, none⟩ = some (gs.getD k default).val := by
  obtain ⟨ad', cap', hv, hr, _⟩ := h
  simp only [Value.slice.injEq] at hv
  obtain ⟨rfl, _, _⟩ := hv
  obtain ⟨b, o, e, hc⟩ := hr (by intro e; simp [e] at hk)
  exact ⟨b, o, e, hc k hk⟩
theorem GroupsIn.puts {R : Assn} {v : Value} {gs : List GroupM} (h : R.Tells (fun w => GroupsIn w v gs)) {k : Nat} (hk : k < gs.length) : R.Tells (fun w => PutsIn w (gs.getD k default).val (gs.getD k default).puts) := by
  intro w hw
  obtain ⟨_, _, _, _, h⟩ := h w hw
  exact h k hk

theorem row_groups {H : Type} {enc : TypeId × Value → H} {W : World} {held : Bool} {a : Option Addr} {len cap fuel : Nat} {x : DataW H × List MemPlace}
    (h : DataW.trod enc Try.prog W 0 (fun _ => true) held fuel 66 [.slice a len cap] = some x) :
    ∃ gs : List GroupM, gs.length = len ∧ (Assn.old W.heap.size W).Tells (fun w => GroupsIn w (.slice a len cap) gs) ∧ len ≤ 9223372036854775807 ∧ ∀ k, k < gs.length → (gs.getD k default).puts.length ≤ 9223372036854775807 := by
  obtain ⟨a', len', cap', hv, hlc, hm, V, hcell, hel⟩ := trod_ones Try.underlying66 (by kernel_rfl) h
  simp only [Value.slice.injEq] at hv
  obtain ⟨rfl, rfl, rfl⟩ := hv
  have hop : ∀ i, i < len → ∃ g : GroupM, V i = g.val ∧ (Assn.old W.heap.size W).Tells (fun w => PutsIn w g.val g.puts) ∧ g.puts.length ≤ 9223372036854775807 := by
    intro i hi
    obtain ⟨n, y, hy⟩ := hel i hi
    obtain ⟨b, c, l, h1, h2, h3⟩ := row_puts hy
    rw [h1] at h2
    exact ⟨⟨b, c, l⟩, h1, h2, h3⟩
  obtain ⟨f, hf⟩ := choose_lt hop
  have hget : ∀ i, i < len → ((List.range len).map f).getD i default = f i := by
    intro i hi
    simp [hi]
  refine ⟨(List.range len).map f, by simp, fun w hB => ?_, by unfold maxLen at hm; omega, fun k hk => ?_⟩
  · have hw := old_heap hB
    refine ⟨a, cap, by simp, fun hne => ?_, fun k hk => ?_⟩
    · have hpos : 0 < len := by
        rcases Nat.eq_zero_or_pos len with e | e
        · subst e; simp at hne
        · exact e
      obtain ⟨b, o, ha, hb, hc⟩ := hcell hpos
      refine ⟨b, o, ha, fun k hk => ?_⟩
      simp only [List.length_map, List.length_range] at hk
      rw [hget k hk, ← (hf k hk).1]
      exact cell_old (hc k hk) hb hw
    · simp only [List.length_map, List.length_range] at hk
      rw [hget k hk]
      exact (hf k hk).2.1 w hB
  · simp only [List.length_map, List.length_range] at hk
    rw [hget k hk]
    exact (hf k hk).2.2

/-- A slice of bytes, and where it lies. -/
structure RowM where
  ad : Option Addr
  cap : Nat
  bytes : List UInt8
instance : Inhabited RowM := ⟨⟨none, 0, []⟩⟩
abbrev RowM.val (g : RowM) : Value := .slice g.ad g.bytes.length g.cap
def RowsIn (w : World) (v : Value) (gs : List RowM) : Prop :=
  ∃ ad cap, v = .slice ad gs.length cap ∧ (gs ≠ [] → ∃ b o, ad = some ⟨b, o, none⟩ ∧ ∀ k, k < gs.length → w.cell? ⟨b, o + k, none⟩ = some (gs.getD k default).val) ∧
    ∀ k, k < gs.length → BytesIn w (gs.getD k default).val (gs.getD k default).bytes
theorem RowsIn.cell {w : World} {ad : Option Addr} {n cap : Nat} {gs : List RowM} (h : RowsIn w (.slice ad n cap) gs) {k : Nat} (hk : k < gs.length) :
    ∃ b o, ad = some ⟨b, o, none⟩ ∧ w.cell? ⟨b, o + k, none⟩ = some (gs.getD k default).val := by
  obtain ⟨ad', cap', hv, hr, _⟩ := h
  simp only [Value.slice.injEq] at hv
  obtain ⟨rfl, _, _⟩ := hv
  obtain ⟨b, o, e, hc⟩ := hr (by intro e; simp [e] at hk)
  exact ⟨b, o, e, hc k hk⟩
theorem RowsIn.bytes {w : World} {v : Value} {gs : List RowM} (h : RowsIn w v gs) {k : Nat} (hk : k < gs.length) : BytesIn w (gs.getD k default).val (gs.getD k default).bytes := by
  obtain ⟨_, _, _, _, h⟩ := h
  exact h k hk

theorem row_rows {H : Type} {enc : TypeId × Value → H} {W : World} {held : Bool} {a : Option Addr} {len cap fuel : Nat} {x : DataW H × List MemPlace}
    (h : DataW.trod enc Try.prog W 0 (fun _ => true) held fuel 42 [.slice a len cap] = some x) :
    ∃ gs : List RowM, gs.length = len ∧ (Assn.old W.heap.size W).Tells (fun w => RowsIn w (.slice a len cap) gs) ∧ len ≤ 9223372036854775807 ∧ ∀ k, k < gs.length → (gs.getD k default).bytes.length ≤ 9223372036854775807 := by
  obtain ⟨a', len', cap', hv, hlc, hm, V, hcell, hel⟩ := trod_ones Try.underlying42 (by kernel_rfl) h
  simp only [Value.slice.injEq] at hv
  obtain ⟨rfl, rfl, rfl⟩ := hv
  have hop : ∀ i, i < len → ∃ g : RowM, V i = g.val ∧ (Assn.old W.heap.size W).Tells (fun w => BytesIn w g.val g.bytes) ∧ g.bytes.length ≤ 9223372036854775807 := by
    intro i hi
    obtain ⟨n, y, hy⟩ := hel i hi
    obtain ⟨ka, kl, kc, zs, h1, hr⟩ := trod_row (k := .u8) (e := 5) (by kernel_rfl) (by kernel_rfl) (by kernel_rfl) hy
    obtain ⟨l, rfl, ht, hb⟩ := row_bytes hr
    exact ⟨⟨ka, kc, l⟩, h1, ht, hb⟩
  obtain ⟨f, hf⟩ := choose_lt hop
  have hget : ∀ i, i < len → ((List.range len).map f).getD i default = f i := by
    intro i hi
    simp [hi]
  refine ⟨(List.range len).map f, by simp, fun w hB => ?_, by unfold maxLen at hm; omega, fun k hk => ?_⟩
  · have hw := old_heap hB
    refine ⟨a, cap, by simp, fun hne => ?_, fun k hk => ?_⟩
    · have hpos : 0 < len := by
        rcases Nat.eq_zero_or_pos len with e | e
        · subst e; simp at hne
        · exact e
      obtain ⟨b, o, ha, hb, hc⟩ := hcell hpos
      refine ⟨b, o, ha, fun k hk => ?_⟩
      simp only [List.length_map, List.length_range] at hk
      rw [hget k hk, ← (hf k hk).1]
      exact cell_old (hc k hk) hb hw
    · simp only [List.length_map, List.length_range] at hk
      rw [hget k hk]
      exact (hf k hk).2.1 w hB
  · simp only [List.length_map, List.length_range] at hk
    rw [hget k hk]
    exact (hf k hk).2.2

end Go.Proofs.Ytadefdmoijkclaa
