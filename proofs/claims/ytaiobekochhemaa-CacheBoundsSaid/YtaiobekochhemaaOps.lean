/- A slice of calls (structs of five cells) that came in: its cells; no condition. -/
import Derived.Test.YtaiobekochhemaaRowB
import Derived.Test.YtaiobekochhemaaChecked
import Derived.Deep.Slices
import Derived.Deep.Fields
namespace Go.Proofs.Ytaiobekochhemaa
open Go.RowKit Go.ChangeShapes Go.WideShapes Go.Deep

section
variable {H : Type} {enc : TypeId × Value → H} {P : Program} {W : World} {spare : Nat → Bool} {held : Bool}

/-- The cells of a slice of structs whose fields are of one cell each, row by row. -/
theorem trod_rows {t e : TypeId} {fs : Array Field} (ht : P.underlying t = some (.slice e)) (he : P.underlying e = some (.struct fs)) (hone : oneCellFields P fs = true) (hC : P.cellsOf e = fs.size) (hpos : 0 < fs.size)
    {a : Option Addr} {len cap fuel : Nat} {x : DataW H × List MemPlace} (h : DataW.trod enc P W 0 spare held fuel t [.slice a len cap] = some x) :
    len ≤ maxLen ∧ ∃ rows : Nat → List Value, (0 < len → ∃ b o, a = some ⟨b, o, none⟩ ∧ b < W.heap.size ∧ ∀ i j, i < len → j < fs.size → W.cell? ⟨b, o + i * fs.size + j, none⟩ = (rows i)[j]?) ∧
      ∀ i, i < len → (rows i).length = fs.size ∧ ∀ (j : Nat) (f : Field), fs[j]? = some f → ∃ v n y, (rows i)[j]? = some v ∧ DataW.trod enc P W 0 spare held n f.type [v] = some y := by
  rcases open_slice ht h with ⟨hcs, _⟩ | ⟨a', len', cap', m, n, D, Pl, hcs, hb, hl, hm, hmm, hx, hi⟩
  · simp only [List.cons.injEq, Value.slice.injEq, and_true] at hcs
    obtain ⟨_, rfl, _⟩ := hcs
    exact ⟨by omega, fun _ => [], fun h => absurd h (by omega), fun i h => absurd h (by omega)⟩
  · simp only [List.cons.injEq, Value.slice.injEq, and_true] at hcs
    obtain ⟨rfl, rfl, rfl⟩ := hcs
    have hlm : len ≤ m := by rw [hmm]; split <;> omega
    obtain ⟨rows, hr⟩ := choose_lt hi
    have hrow : ∀ i, i < len → (rows i).length = fs.size ∧ ∀ j, j < fs.size → W.cell? (a'.add (i * fs.size + j)) = (rows i)[j]? := by
      intro i hi
      obtain ⟨h1, _⟩ := hr i (by omega)
      rw [hC] at h1
      obtain ⟨_, h2, h3⟩ := World.cells?_some h1
      exact ⟨h2, fun j hj => by rw [← add_add]; exact h3 j hj⟩
    refine ⟨by omega, rows, fun h0 => ?_, fun i hi => ⟨(hrow i hi).1, fun j f hj => ?_⟩⟩
    · obtain ⟨h1, h2⟩ := hrow 0 h0
      have h3 := h2 0 hpos
      rw [List.getElem?_eq_getElem (by omega)] at h3
      have e0 : a'.add (0 * fs.size + 0) = a' := by simp [Addr.add]
      rw [e0] at h3
      have ex := addr_of_cell h3
      refine ⟨a'.block, a'.off, by rw [← ex], World.block_lt_of_cell? W a' h3, fun i j hi hj => ?_⟩
      have h4 := (hrow i hi).2 j hj
      rw [ex, Addr.add_mid] at h4
      rw [← h4, Nat.add_assoc]
    · obtain ⟨hcl, h2⟩ := hrow i hi
      obtain ⟨_, h1⟩ := hr i (by omega)
      obtain ⟨ys, n', hn', hy, hlen, hyl, hf⟩ := DataW.trod_struct he h1
      obtain ⟨ho, hk⟩ := hone_of hone j f hj
      have hjl : j < fs.size := (Array.getElem?_eq_some_iff.1 hj).1
      have h4 := hf j f hj
      rw [ho, hk] at h4
      have h5 : ((rows i).drop j).take 1 = [(rows i)[j]'(by omega)] := by
        rw [List.drop_eq_getElem_cons (by omega)]
        rfl
      rw [h5, List.getElem?_eq_getElem (by omega)] at h4
      exact ⟨_, _, _, List.getElem?_eq_getElem (by omega), h4⟩

theorem trod_i64 {t : TypeId} {v : Value} {n : Nat} {y : DataW H × List MemPlace} (ht : P.underlying t = some (.int .i64)) (h : DataW.trod enc P W 0 spare held n t [v] = some y) :
    ∃ z, v = .int .i64 z ∧ -9223372036854775808 ≤ z ∧ z ≤ 9223372036854775807 := by
  obtain ⟨z, h1, _, h2⟩ := DataW.trod_int ht h
  simp only [List.cons.injEq, and_true] at h1
  simp [Lit.wf, IntKind.min, IntKind.max, IntKind.signed, IntKind.bits] at h2
  exact ⟨z, h1, by omega, by omega⟩
theorem trod_u8 {t : TypeId} {v : Value} {n : Nat} {y : DataW H × List MemPlace} (ht : P.underlying t = some (.int .u8)) (h : DataW.trod enc P W 0 spare held n t [v] = some y) : ∃ c, v = byteV c := by
  obtain ⟨z, h1, _, h2⟩ := DataW.trod_int ht h
  simp only [List.cons.injEq, and_true] at h1
  simp [Lit.wf, IntKind.min, IntKind.max, IntKind.signed, IntKind.bits] at h2
  refine ⟨UInt8.ofNat z.toNat, ?_⟩
  rw [h1]
  unfold byteV
  congr 1
  rw [UInt8.toNat_ofNat_of_lt' (by show z.toNat < 256; omega)]
  omega
theorem trod_row {t e : TypeId} {k : IntKind} {v : Value} {n : Nat} {y : DataW H × List MemPlace} (ht : P.underlying t = some (.slice e)) (he : P.underlying e = some (.int k)) (hc : P.cellsOf e = 1)
    (h : DataW.trod enc P W 0 (fun _ => true) held n t [v] = some y) : ∃ a len cap zs, v = .slice a len cap ∧ RowIn k W a len cap zs := by
  rcases open_ints ht he hc h with ⟨hcs, _⟩ | ⟨x, l, c, zs, hcs, _, hl, hm, hz, _, hcell, hwz⟩
  · simp only [List.cons.injEq, and_true] at hcs
    exact ⟨none, 0, 0, [], hcs, .inl ⟨rfl, rfl, rfl, rfl⟩⟩
  · simp only [List.cons.injEq, and_true] at hcs
    exact ⟨_, _, _, zs, hcs, .inr ⟨_, rfl, hl, hm, by simpa using hz, hcell, hwz⟩⟩
end

/-- A call of the disk's laws. -/
structure OpM where
  kind : Int
  at' : Int
  n : Int
  byte : UInt8
  kad : Option Addr
  kcap : Nat
  keep : List Int
instance : Inhabited OpM := ⟨⟨0, 0, 0, 0, none, 0, []⟩⟩
def OpM.row (o : OpM) : List Value := [.int .i64 o.kind, .int .i64 o.at', .int .i64 o.n, byteV o.byte, .slice o.kad o.keep.length o.kcap]
structure OpM.Fine (o : OpM) : Prop where
  kind : -9223372036854775808 ≤ o.kind ∧ o.kind ≤ 9223372036854775807
  at' : -9223372036854775808 ≤ o.at' ∧ o.at' ≤ 9223372036854775807
  n : -9223372036854775808 ≤ o.n ∧ o.n ≤ 9223372036854775807
  keeps : o.keep.length ≤ 9223372036854775807
  keep : ∀ x ∈ o.keep, -9223372036854775808 ≤ x ∧ x ≤ 9223372036854775807

def OpsIn (w : World) (v : Value) (ops : List OpM) : Prop :=
  ∃ ad cap, v = .slice ad ops.length cap ∧ (ops ≠ [] → ∃ b o, ad = some ⟨b, o, none⟩ ∧ ∀ i j u, i < ops.length → (ops.getD i default).row[j]? = some u → w.cell? ⟨b, o + i * 5 + j, none⟩ = some u) ∧
    ∀ k, k < ops.length → IntsIn w (.slice (ops.getD k default).kad (ops.getD k default).keep.length (ops.getD k default).kcap) (ops.getD k default).keep

theorem OpsIn.cells {w : World} {ad : Option Addr} {n cap : Nat} {ops : List OpM} (h : OpsIn w (.slice ad n cap) ops) {k : Nat} (hk : k < ops.length) :
    ∃ b o, ad = some ⟨b, o, none⟩ ∧ w.cell? ⟨b, o + k * 5, none⟩ = some (.int .i64 (ops.getD k default).kind) ∧ w.cell? ⟨b, o + k * 5 + 1, none⟩ = some (.int .i64 (ops.getD k default).at') ∧
      w.cell? ⟨b, o + k * 5 + 2, none⟩ = some (.int .i64 (ops.getD k default).n) ∧ w.cell? ⟨b, o + k * 5 + 3, none⟩ = some (byteV (ops.getD k default).byte) ∧
      w.cell? ⟨b, o + k * 5 + 4, none⟩ = some (.slice (ops.getD k default).kad (ops.getD k default).keep.length (ops.getD k default).kcap) := by
  obtain ⟨ad', cap', hv, hr, _⟩ := h
  simp only [Value.slice.injEq] at hv
  obtain ⟨rfl, _, _⟩ := hv
  obtain ⟨b, o, e, hc⟩ := hr (by intro e; simp [e] at hk)
  exact ⟨b, o, e, hc k 0 _ hk rfl, hc k 1 _ hk rfl, hc k 2 _ hk rfl, hc k 3 _ hk rfl, hc k 4 _ hk rfl⟩
theorem OpsIn.keep {w : World} {v : Value} {ops : List OpM} (h : OpsIn w v ops) {k : Nat} (hk : k < ops.length) :
    IntsIn w (.slice (ops.getD k default).kad (ops.getD k default).keep.length (ops.getD k default).kcap) (ops.getD k default).keep := by
  obtain ⟨ad', cap', hv, hr, h⟩ := h
  exact h k hk

end Go.Proofs.Ytaiobekochhemaa
