/- Texts of this claim, put together: Ops, OpsZ, DOpsZ, DPlaysW; no condition. -/
import Derived.Test.YtfhigibdeeeiaaaMe690282cc7
import Derived.Test.YtfhigibdeeeiaaaChecked
import Derived.Deep.Slices
import Derived.Deep.Fields
import Derived.SizedLaws
import Derived.ChangeMaps5
import Derived.Deep.DeepCutAuto
import Derived.Deep.CutBlock

set_option linter.unusedSimpArgs false
set_option linter.unusedVariables false

/- A slice of calls (structs of five cells) that came in: its cells; no condition. -/
namespace Go.Proofs.Ytfhigibdeeeiaaa
open Go.RowKit Go.ChangeShapes Go.WideShapes Go.Deep

section
variable {H : Type} {enc : TypeId × Value → H} {P : Program} {W : World} {spare : Nat → Bool} {held : Bool}

/-- The cells of a slice of structs whose fields are of one cell each, row by row. -/
theorem trod_rows {t e : TypeId} {fs : Array Field} (ht : P.underlying t = some (.slice e)) (he : P.underlying e = some (.struct fs)) (hone : oneCellFields P fs = true) (hC : P.cellsOf e = fs.size) (hpos : 0 < fs.size)
    {a : Option Addr} {len cap fuel : Nat} {x : DataW H × List MemPlace} (h : DataW.trod enc P W 0 spare held fuel t [.slice a len cap] = some x) :
    len ≤ maxLen ∧ ∃ rows : Nat → List Value, (0 < len → ∃ b o, a = some ⟨b, o, none⟩ ∧ b < W.heap.size ∧ ∀ i j, i < len → j < fs.size → W.cell? ⟨b, o + i * fs.size + j, none⟩ = (rows i)[j]?) ∧
      ∀ i, i < len → (rows i).length = fs.size ∧ ∀ (j : Nat) (f : Field), fs[j]? = some f → ∃ v n y, (rows i)[j]? = some v ∧ DataW.trod enc P W 0 spare held n f.type [v] = some y := by
  rcases open_slice ht h with ⟨hcs, _⟩ | ⟨a', len', cap', m, n, D, Pl, hcs, hb, hl, hm, hmm, hx, hi⟩
  · simp only [List.cons.injEq, Value.slice.injEq, and_true] at hcs
    obtain ⟨_, rfl, _⟩ := hcs
    exact ⟨by omega, fun _ => [], fun h => absurd h (by omega), fun i h => absurd h (by omega)⟩
  · simp only [List.cons.injEq, Value.slice.injEq, and_true] at hcs
    obtain ⟨rfl, rfl, rfl⟩ := hcs
    have hlm : len ≤ m := by rw [hmm]; split <;> omega
    obtain ⟨rows, hr⟩ := choose_lt hi
    have hrow : ∀ i, i < len → (rows i).length = fs.size ∧ ∀ j, j < fs.size → W.cell? (a'.add (i * fs.size + j)) = (rows i)[j]? := by
      intro i hi
      obtain ⟨h1, _⟩ := hr i (by omega)
      rw [hC] at h1
      obtain ⟨_, h2, h3⟩ := World.cells?_some h1
      exact ⟨h2, fun j hj => by rw [← add_add]; exact h3 j hj⟩
    refine ⟨by omega, rows, fun h0 => ?_, fun i hi => ⟨(hrow i hi).1, fun j f hj => ?_⟩⟩
    · obtain ⟨h1, h2⟩ := hrow 0 h0
      have h3 := h2 0 hpos
      rw [List.getElem?_eq_getElem (by omega)] at h3
      have e0 : a'.add (0 * fs.size + 0) = a' := by simp [Addr.add]
      rw [e0] at h3
      have ex := addr_of_cell h3
      refine ⟨a'.block, a'.off, by rw [← ex], World.block_lt_of_cell? W a' h3, fun i j hi hj => ?_⟩
      have h4 := (hrow i hi).2 j hj
      rw [ex, Addr.add_mid] at h4
      rw [← h4, Nat.add_assoc]
    · obtain ⟨hcl, h2⟩ := hrow i hi
      obtain ⟨_, h1⟩ := hr i (by omega)
      obtain ⟨ys, n', hn', hy, hlen, hyl, hf⟩ := DataW.trod_struct he h1
      obtain ⟨ho, hk⟩ := hone_of hone j f hj
      have hjl : j < fs.size := (Array.getElem?_eq_some_iff.1 hj).1
      have h4 := hf j f hj
      rw [ho, hk] at h4
      have h5 : ((rows i).drop j).take 1 = [(rows i)[j]'(by omega)] := by
        rw [List.drop_eq_getElem_cons (by omega)]
        rfl
      rw [h5, List.getElem?_eq_getElem (by omega)] at h4
      exact ⟨_, _, _, List.getElem?_eq_getElem (by omega), h4⟩

theorem trod_i64 {t : TypeId} {v : Value} {n : Nat} {y : DataW H × List MemPlace} (ht : P.underlying t = some (.int .i64)) (h : DataW.trod enc P W 0 spare held n t [v] = some y) :
    ∃ z, v = .int .i64 z ∧ -9223372036854775808 ≤ z ∧ z ≤ 9223372036854775807 := by
  obtain ⟨z, h1, _, h2⟩ := DataW.trod_int ht h
  simp only [List.cons.injEq, and_true] at h1
  simp [Lit.wf, IntKind.min, IntKind.max, IntKind.signed, IntKind.bits] at h2
  exact ⟨z, h1, by omega, by omega⟩
theorem trod_u8 {t : TypeId} {v : Value} {n : Nat} {y : DataW H × List MemPlace} (ht : P.underlying t = some (.int .u8)) (h : DataW.trod enc P W 0 spare held n t [v] = some y) : ∃ c, v = byteV c := by
  obtain ⟨z, h1, _, h2⟩ := DataW.trod_int ht h
  simp only [List.cons.injEq, and_true] at h1
  simp [Lit.wf, IntKind.min, IntKind.max, IntKind.signed, IntKind.bits] at h2
  refine ⟨UInt8.ofNat z.toNat, ?_⟩
  rw [h1]
  unfold byteV
  congr 1
  rw [UInt8.toNat_ofNat_of_lt' (by show z.toNat < 256; omega)]
  omega
theorem trod_row {t e : TypeId} {k : IntKind} {v : Value} {n : Nat} {y : DataW H × List MemPlace} (ht : P.underlying t = some (.slice e)) (he : P.underlying e = some (.int k)) (hc : P.cellsOf e = 1)
    (h : DataW.trod enc P W 0 (fun _ => true) held n t [v] = some y) : ∃ a len cap zs, v = .slice a len cap ∧ RowIn k W a len cap zs := by
  rcases open_ints ht he hc h with ⟨hcs, _⟩ | ⟨x, l, c, zs, hcs, _, hl, hm, hz, _, hcell, hwz⟩
  · simp only [List.cons.injEq, and_true] at hcs
    exact ⟨none, 0, 0, [], hcs, .inl ⟨rfl, rfl, rfl, rfl⟩⟩
  · simp only [List.cons.injEq, and_true] at hcs
    exact ⟨_, _, _, zs, hcs, .inr ⟨_, rfl, hl, hm, by simpa using hz, hcell, hwz⟩⟩
end

/-- A call of the disk's laws. -/
structure OpM where
  kind : Int
  at' : Int
  n : Int
  byte : UInt8
  kad : Option Addr
  kcap : Nat
  keep : List Int
instance : Inhabited OpM := ⟨⟨0, 0, 0, 0, none, 0, []⟩⟩
def OpM.row (o : OpM) : List Value := [.int .i64 o.kind, .int .i64 o.at', .int .i64 o.n, byteV o.byte, .slice o.kad o.keep.length o.kcap]
structure OpM.Fine (o : OpM) : Prop where
  kind : -9223372036854775808 ≤ o.kind ∧ o.kind ≤ 9223372036854775807
  at' : -9223372036854775808 ≤ o.at' ∧ o.at' ≤ 9223372036854775807
  n : -9223372036854775808 ≤ o.n ∧ o.n ≤ 9223372036854775807
  keeps : o.keep.length ≤ 9223372036854775807
  keep : ∀ x ∈ o.keep, -9223372036854775808 ≤ x ∧ x ≤ 9223372036854775807

def OpsIn (w : World) (v : Value) (ops : List OpM) : Prop :=
  ∃ ad cap, v = .slice ad ops.length cap ∧ (ops ≠ [] → ∃ b o, ad = some ⟨b, o, none⟩ ∧ ∀ i j u, i < ops.length → (ops.getD i default).row[j]? = some u → w.cell? ⟨b, o + i * 5 + j, none⟩ = some u) ∧
    ∀ k, k < ops.length → IntsIn w (.slice (ops.getD k default).kad (ops.getD k default).keep.length (ops.getD k default).kcap) (ops.getD k default).keep

theorem OpsIn.cells {w : World} {ad : Option Addr} {n cap : Nat} {ops : List OpM} (h : OpsIn w (.slice ad n cap) ops) {k : Nat} (hk : k < ops.length) :
    ∃ b o, ad = some ⟨b, o, none⟩ ∧ w.cell? ⟨b, o + k * 5, none⟩ = some (.int .i64 (ops.getD k default).kind) ∧ w.cell? ⟨b, o + k * 5 + 1, none⟩ = some (.int .i64 (ops.getD k default).at') ∧
      w.cell? ⟨b, o + k * 5 + 2, none⟩ = some (.int .i64 (ops.getD k default).n) ∧ w.cell? ⟨b, o + k * 5 + 3, none⟩ = some (byteV (ops.getD k default).byte) ∧
      w.cell? ⟨b, o + k * 5 + 4, none⟩ = some (.slice (ops.getD k default).kad (ops.getD k default).keep.length (ops.getD k default).kcap) := by
  obtain ⟨ad', cap', hv, hr, _⟩ := h
  simp only [Value.slice.injEq] at hv
  obtain ⟨rfl, _, _⟩ := hv
  obtain ⟨b, o, e, hc⟩ := hr (by intro e; simp [e] at hk)
  exact ⟨b, o, e, hc k 0 _ hk rfl, hc k 1 _ hk rfl, hc k 2 _ hk rfl, hc k 3 _ hk rfl, hc k 4 _ hk rfl⟩
theorem OpsIn.keep {w : World} {v : Value} {ops : List OpM} (h : OpsIn w v ops) {k : Nat} (hk : k < ops.length) :
    IntsIn w (.slice (ops.getD k default).kad (ops.getD k default).keep.length (ops.getD k default).kcap) (ops.getD k default).keep := by
  obtain ⟨ad', cap', hv, hr, h⟩ := h
  exact h k hk

theorem row_ops {H : Type} {enc : TypeId × Value → H} {W : World} {held : Bool} {a : Option Addr} {len cap fuel : Nat} {x : DataW H × List MemPlace}
    (h : DataW.trod enc Try.prog W 0 (fun _ => true) held fuel 22 [.slice a len cap] = some x) :
    ∃ ops : List OpM, ops.length = len ∧ (Assn.old W.heap.size W).Tells (fun w => OpsIn w (.slice a len cap) ops) ∧ len ≤ 9223372036854775807 ∧ ∀ k, k < ops.length → (ops.getD k default).Fine := by
  obtain ⟨hm, rows, hcell, hrow⟩ := trod_rows (P := Try.prog) (e := 35) Try.underlying22 Try.underlying35 (by kernel_rfl) (by kernel_rfl) (by decide) h
  have hop : ∀ i, i < len → ∃ o : OpM, rows i = o.row ∧ (Assn.old W.heap.size W).Tells (fun w => IntsIn w (.slice o.kad o.keep.length o.kcap) o.keep) ∧ o.Fine := by
    intro i hi
    obtain ⟨hl, hf⟩ := hrow i hi
    obtain ⟨v0, n0, y0, g0, h0⟩ := hf 0 _ rfl
    obtain ⟨v1, n1, y1, g1, h1⟩ := hf 1 _ rfl
    obtain ⟨v2, n2, y2, g2, h2⟩ := hf 2 _ rfl
    obtain ⟨v3, n3, y3, g3, h3⟩ := hf 3 _ rfl
    obtain ⟨v4, n4, y4, g4, h4⟩ := hf 4 _ rfl
    obtain ⟨z0, rfl, b0⟩ := trod_i64 (by kernel_rfl) h0
    obtain ⟨z1, rfl, b1⟩ := trod_i64 (by kernel_rfl) h1
    obtain ⟨z2, rfl, b2⟩ := trod_i64 (by kernel_rfl) h2
    obtain ⟨c, rfl⟩ := trod_u8 (by kernel_rfl) h3
    obtain ⟨ka, kl, kc, zs, rfl, hr⟩ := trod_row (k := .i64) (e := 3) (by kernel_rfl) (by kernel_rfl) (by kernel_rfl) h4
    obtain ⟨l, rfl, ht, hb, hx⟩ := row_ints hr
    refine ⟨⟨z0, z1, z2, c, ka, kc, l⟩, ?_, ht, ⟨b0, b1, b2, hb, hx⟩⟩
    match hq : rows i, hl with
    | [u0, u1, u2, u3, u4], _ =>
      rw [hq] at g0 g1 g2 g3 g4
      simp only [List.getElem?_cons_zero, List.getElem?_cons_succ, Option.some.injEq] at g0 g1 g2 g3 g4
      subst g0; subst g1; subst g2; subst g3; subst g4
      rfl
  obtain ⟨f, hf⟩ := choose_lt hop
  have hget : ∀ i, i < len → ((List.range len).map f).getD i default = f i := by
    intro i hi
    simp [hi]
  refine ⟨(List.range len).map f, by simp, ?_, by unfold maxLen at hm; omega, fun k hk => ?_⟩
  · intro w hw
    refine ⟨a, cap, by simp, fun hne => ?_, fun k hk => ?_⟩
    · have hpos : 0 < len := by
        rcases Nat.eq_zero_or_pos len with e | e
        · subst e; simp at hne
        · exact e
      obtain ⟨b, o, ha, hb, hc⟩ := hcell hpos
      refine ⟨b, o, ha, fun i j u hi hu => ?_⟩
      simp only [List.length_map, List.length_range] at hi
      rw [hget i hi] at hu
      have hj : j < 5 := by
        have := (List.getElem?_eq_some_iff.1 hu).1
        simpa [OpM.row] using this
      have h1 := hc i j hi hj
      rw [(hf i hi).1, hu] at h1
      have h2 : w.rangeAt b (o + i * 5 + j) [u] := old_tells (p := fun w => w.rangeAt b (o + i * 5 + j) [u]) (fun w hw => range_old (fun j' v' hv' => by
        cases j' with
        | zero => simp only [List.getElem?_cons_zero, Option.some.injEq] at hv'; subst hv'; exact h1
        | succ n => simp at hv') hb hw) w hw
      exact h2 0 u rfl
    · simp only [List.length_map, List.length_range] at hk
      rw [hget k hk]
      exact (hf k hk).2.1 w hw
  · simp only [List.length_map, List.length_range] at hk
    rw [hget k hk]
    exact (hf k hk).2.2

end Go.Proofs.Ytfhigibdeeeiaaa

/- Readings of arguments, with the bounds of their sizes; no condition. -/
namespace Go.Proofs.Ytfhigibdeeeiaaa
open Go.RowKit Go.ChangeShapes Go.WideShapes Go.Deep

section
variable {H : Type} {enc : TypeId × Value → H} {P : Program} {W : World}

/-- The value v reads as something of type t, and is no greater than memory. -/
def TrodZ (enc : TypeId × Value → H) (P : Program) (W : World) (t : TypeId) (v : Value) : Prop :=
  ∃ fuel x, DataW.trod enc P W 0 (fun _ => true) true fuel t [v] = some x ∧ ∀ n ∈ x.1.weights P t, n ≤ reachBytes

theorem TrodZ.i64 {t : TypeId} {v : Value} (ht : P.underlying t = some (.int .i64)) (h : TrodZ enc P W t v) : ∃ z, v = .int .i64 z ∧ -9223372036854775808 ≤ z ∧ z ≤ 9223372036854775807 := by
  obtain ⟨_, _, h, _⟩ := h
  exact trod_i64 ht h
theorem TrodZ.u8 {t : TypeId} {v : Value} (ht : P.underlying t = some (.int .u8)) (h : TrodZ enc P W t v) : ∃ c, v = byteV c := by
  obtain ⟨_, _, h, _⟩ := h
  exact trod_u8 ht h
theorem TrodZ.str {t : TypeId} {v : Value} (ht : P.underlying t = some .string) (h : TrodZ enc P W t v) : ∃ s : ByteArray, v = .string s ∧ s.size ≤ reachBytes := by
  obtain ⟨_, x, h, hz⟩ := h
  obtain ⟨s, h1, rfl, _⟩ := DataW.trod_string ht h
  simp only [List.cons.injEq, and_true] at h1
  refine ⟨s, h1, ?_⟩
  have := hz s.data.toList.length (by simp [DataW.weights])
  simpa using this

theorem weightsAll_mem {e : TypeId} {n : Nat} : ∀ {l : List (DataW H)} {d : DataW H}, d ∈ l → n ∈ d.weights P e → n ∈ DataW.weightsAll P e l
  | _ :: _, _, .head _, h => List.mem_append_left _ h
  | _ :: _, _, .tail _ hm, h => List.mem_append_right _ (weightsAll_mem hm h)

/-- A slice, element by element: its cells, and their readings. -/
theorem TrodZ.slice {t e : TypeId} (ht : P.underlying t = some (.slice e)) {a : Option Addr} {len cap : Nat} (h : TrodZ enc P W t (.slice a len cap)) :
    len ≤ cap ∧ cap * P.bytesOf e ≤ reachBytes ∧ (a = none → len = 0 ∧ cap = 0) ∧ ∀ a', a = some a' → ∀ i, i < cap → ∃ n cs x, W.cells? 0 (a'.add (i * P.cellsOf e)) (P.cellsOf e) = some cs ∧ DataW.trod enc P W 0 (fun _ => true) true n e cs = some x ∧ ∀ n ∈ x.1.weights P e, n ≤ reachBytes := by
  obtain ⟨fuel, x, h, hz⟩ := h
  rcases open_slice ht h with ⟨hcs, _⟩ | ⟨a', len', cap', m, n, D, Pl, hcs, hb, hl, hm, hmm, rfl, hi⟩
  · simp only [List.cons.injEq, Value.slice.injEq, and_true] at hcs
    obtain ⟨rfl, rfl, rfl⟩ := hcs
    exact ⟨Nat.le_refl _, by simp, fun _ => ⟨rfl, rfl⟩, fun a' h => by cases h⟩
  · simp only [List.cons.injEq, Value.slice.injEq, and_true] at hcs
    obtain ⟨rfl, rfl, rfl⟩ := hcs
    simp only [if_true] at hmm
    subst hmm
    simp only [DataW.weights, ht, List.length_map, List.length_range, List.mem_cons, List.mem_append] at hz
    have h1 := hz _ (.inl rfl)
    rw [show len + (m - len) = m by omega] at h1
    refine ⟨hl, h1, (fun h => by cases h), fun a2 e2 i him => ?_⟩
    cases e2
    obtain ⟨cs, h2, h3⟩ := hi i him
    refine ⟨n, cs, _, h2, h3, fun k hk => hz k (.inr ?_)⟩
    by_cases hil : i < len
    · exact .inl (weightsAll_mem (List.mem_map.2 ⟨i, by simpa using hil, rfl⟩) hk)
    · exact .inr (weightsAll_mem (List.mem_map.2 ⟨i - len, by simp; omega, by rw [show len + (i - len) = i by omega]⟩) hk)

/-- A slice of structs whose fields are of one cell each, row by row. -/
theorem TrodZ.rows {t e : TypeId} {fs : Array Field} (ht : P.underlying t = some (.slice e)) (he : P.underlying e = some (.struct fs)) (hone : oneCellFields P fs = true) (hC : P.cellsOf e = fs.size) (hpos : 0 < fs.size)
    {a : Option Addr} {len cap : Nat} (h : TrodZ enc P W t (.slice a len cap)) :
    len * P.bytesOf e ≤ reachBytes ∧ ∃ rows : Nat → List Value, (0 < len → ∃ b o, a = some ⟨b, o, none⟩ ∧ b < W.heap.size ∧ ∀ i j, i < len → j < fs.size → W.cell? ⟨b, o + i * fs.size + j, none⟩ = (rows i)[j]?) ∧
      ∀ i, i < len → (rows i).length = fs.size ∧ ∀ (j : Nat) (f : Field), fs[j]? = some f → ∃ v, (rows i)[j]? = some v ∧ TrodZ enc P W f.type v := by
  obtain ⟨h1, h2, h3, h4⟩ := h.slice ht
  have h5 : len * P.bytesOf e ≤ reachBytes := Nat.le_trans (Nat.mul_le_mul_right _ h1) h2
  cases a with
  | none =>
    obtain ⟨rfl, rfl⟩ := h3 rfl
    exact ⟨h5, fun _ => [], fun h => absurd h (by omega), fun i h => absurd h (by omega)⟩
  | some a' =>
    have hall : ∀ i, i < len → ∃ r : List Value, r.length = fs.size ∧ (∀ j, j < fs.size → W.cell? (a'.add (i * fs.size + j)) = r[j]?) ∧ ∀ (j : Nat) (f : Field), fs[j]? = some f → ∃ v, r[j]? = some v ∧ TrodZ enc P W f.type v := by
      intro i hi
      obtain ⟨n, cs, x, hcs, hx, hz⟩ := h4 a' rfl i (by omega)
      rw [hC] at hcs
      obtain ⟨_, g2, g3⟩ := World.cells?_some hcs
      refine ⟨cs, g2, fun j hj => by rw [← add_add]; exact g3 j hj, fun j f hj => ?_⟩
      obtain ⟨ys, n', hn', rfl, hlen, hyl, hf⟩ := DataW.trod_struct he hx
      obtain ⟨ho, hk⟩ := hone_of hone j f hj
      have hjl : j < fs.size := (Array.getElem?_eq_some_iff.1 hj).1
      have g4 := hf j f hj
      rw [ho, hk] at g4
      have g5 : (cs.drop j).take 1 = [cs[j]'(by omega)] := by
        rw [List.drop_eq_getElem_cons (by omega)]
        rfl
      rw [g5, List.getElem?_eq_getElem (by omega)] at g4
      refine ⟨_, List.getElem?_eq_getElem (by omega), n', _, g4, fun k hk => hz k ?_⟩
      simp only [DataW.weights, he]
      refine DataW.weights_mem_each (j := j) (t := f.type) ?_ ?_ k hk
      · rw [List.getElem?_map, Array.getElem?_toList, hj]; rfl
      · rw [List.getElem?_map, List.getElem?_eq_getElem (by omega)]; rfl
    obtain ⟨rows, hr⟩ := choose_lt hall
    refine ⟨h5, rows, fun h0 => ?_, fun i hi => ⟨(hr i hi).1, (hr i hi).2.2⟩⟩
    obtain ⟨g1, g2, _⟩ := hr 0 h0
    have g3 := g2 0 hpos
    rw [List.getElem?_eq_getElem (by omega)] at g3
    have e0 : a'.add (0 * fs.size + 0) = a' := by simp [Addr.add]
    rw [e0] at g3
    have ex := addr_of_cell g3
    refine ⟨a'.block, a'.off, by rw [← ex], World.block_lt_of_cell? W a' g3, fun i j hi hj => ?_⟩
    have g4 := (hr i hi).2.1 j hj
    rw [ex, Addr.add_mid] at g4
    rw [← g4, Nat.add_assoc]

/-- A slice of elements of one cell each. -/
theorem TrodZ.cells {t e : TypeId} (ht : P.underlying t = some (.slice e)) (hC : P.cellsOf e = 1) {a : Option Addr} {len cap : Nat} (h : TrodZ enc P W t (.slice a len cap)) :
    len * P.bytesOf e ≤ reachBytes ∧ ∃ vs : List Value, vs.length = len ∧ (0 < len → ∃ b o, a = some ⟨b, o, none⟩ ∧ b < W.heap.size ∧ W.rangeAt b o vs) ∧ ∀ v ∈ vs, TrodZ enc P W e v := by
  obtain ⟨h1, h2, h3, h4⟩ := h.slice ht
  have h5 : len * P.bytesOf e ≤ reachBytes := Nat.le_trans (Nat.mul_le_mul_right _ h1) h2
  cases a with
  | none =>
    obtain ⟨rfl, rfl⟩ := h3 rfl
    exact ⟨h5, [], rfl, fun h => absurd h (by omega), fun v h => by cases h⟩
  | some a' =>
    have hall : ∀ i, i < len → ∃ v : Value, W.cell? (a'.add i) = some v ∧ TrodZ enc P W e v := by
      intro i hi
      obtain ⟨n, cs, x, hcs, hx, hz⟩ := h4 a' rfl i (by omega)
      rw [hC, Nat.mul_one] at hcs
      obtain ⟨_, g2, g3⟩ := World.cells?_some hcs
      obtain ⟨v, rfl⟩ : ∃ v, cs = [v] := by
        match cs, g2 with
        | [v], _ => exact ⟨v, rfl⟩
      have g4 := g3 0 (by omega)
      have e0 : ∀ a : Addr, a.add 0 = a := fun a => by simp [Addr.add]
      rw [e0] at g4
      exact ⟨v, g4, n, x, hx, hz⟩
    obtain ⟨f, hf⟩ := choose_lt hall
    refine ⟨h5, (List.range len).map f, by simp, fun h0 => ?_, fun v hv => ?_⟩
    · obtain ⟨g1, _⟩ := hf 0 h0
      have e0 : a'.add 0 = a' := by simp [Addr.add]
      rw [e0] at g1
      have ex := addr_of_cell g1
      refine ⟨a'.block, a'.off, by rw [← ex], World.block_lt_of_cell? W a' g1, fun j v hv => ?_⟩
      have hj : j < len := by have := (List.getElem?_eq_some_iff.1 hv).1; simpa using this
      have g2 := (hf j hj).1
      rw [ex, Addr.add_mid] at g2
      rw [g2]
      simpa [hj] using hv
    · obtain ⟨i, hi, rfl⟩ := List.mem_map.1 hv
      exact (hf i (by simpa using hi)).2
end

section
variable {H : Type} {enc : TypeId × Value → H} {W : World}
/-- The value v is a slice of the bytes l in the old memory. -/
theorem TrodZ.bytes {v : Value} {ad : Option Addr} {len cap : Nat} (hv : v = .slice ad len cap) (h : TrodZ enc Try.prog W 37 v) :
    ∃ l : List UInt8, l.length = len ∧ (Assn.old W.heap.size W).Tells (fun w => BytesIn w (.slice ad len cap) l) ∧ len ≤ 140737488351232 := by
  subst hv
  obtain ⟨h1, vs, rfl, h2, h3⟩ := h.cells (e := 5) Try.underlying37 (by kernel_rfl)
  rw [show Try.prog.bytesOf 5 = 1 from by kernel_rfl, Nat.mul_one] at h1
  have hall : ∀ i, i < vs.length → ∃ c : UInt8, vs[i]? = some (byteV c) := by
    intro i hi
    obtain ⟨c, hc⟩ := (h3 _ (List.getElem_mem hi)).u8 (by kernel_rfl)
    exact ⟨c, by rw [List.getElem?_eq_getElem hi, hc]⟩
  obtain ⟨f, hf⟩ := choose_lt hall
  have he : cellsV ((List.range vs.length).map f) = vs := by
    apply List.ext_getElem?
    intro i
    unfold cellsV
    by_cases hi : i < vs.length
    · rw [hf i hi]; simp [hi]
    · rw [List.getElem?_eq_none (by simp; omega), List.getElem?_eq_none (by omega)]
  refine ⟨(List.range vs.length).map f, by simp, fun w hw => ⟨ad, cap, by simp, fun hne => ?_⟩, by unfold reachBytes at h1; omega⟩
  have hpos : 0 < vs.length := by
    rcases Nat.eq_zero_or_pos vs.length with e | e
    · rw [e] at hne; simp at hne
    · exact e
  obtain ⟨b, o, ha, hb, hr⟩ := h2 hpos
  rw [he]
  exact ⟨b, o, ha, old_tells (p := fun w => w.rangeAt b o vs) (fun w hw => range_old hr hb hw) w hw⟩
/-- The value v is a slice of the integers l in the old memory. -/
theorem TrodZ.ints {v : Value} {ad : Option Addr} {len cap : Nat} (hv : v = .slice ad len cap) (h : TrodZ enc Try.prog W 33 v) :
    ∃ l : List Int, l.length = len ∧ (Assn.old W.heap.size W).Tells (fun w => IntsIn w (.slice ad len cap) l) ∧ len ≤ 140737488351232 ∧ ∀ x ∈ l, -9223372036854775808 ≤ x ∧ x ≤ 9223372036854775807 := by
  subst hv
  obtain ⟨h1, vs, rfl, h2, h3⟩ := h.cells (e := 3) Try.underlying33 (by kernel_rfl)
  rw [show Try.prog.bytesOf 3 = 8 from by kernel_rfl] at h1
  have hall : ∀ i, i < vs.length → ∃ c : Int, vs[i]? = some (.int .i64 c) ∧ -9223372036854775808 ≤ c ∧ c ≤ 9223372036854775807 := by
    intro i hi
    obtain ⟨c, hc, hb⟩ := (h3 _ (List.getElem_mem hi)).i64 (by kernel_rfl)
    exact ⟨c, by rw [List.getElem?_eq_getElem hi, hc], hb⟩
  obtain ⟨f, hf⟩ := choose_lt hall
  have he : ((List.range vs.length).map f).map (Value.int .i64) = vs := by
    apply List.ext_getElem?
    intro i
    by_cases hi : i < vs.length
    · rw [(hf i hi).1]; simp [hi]
    · rw [List.getElem?_eq_none (by simp; omega), List.getElem?_eq_none (by omega)]
  refine ⟨(List.range vs.length).map f, by simp, fun w hw => ⟨ad, cap, by simp, fun hne => ?_⟩, by unfold reachBytes at h1; omega, fun x hx => ?_⟩
  · have hpos : 0 < vs.length := by
      rcases Nat.eq_zero_or_pos vs.length with e | e
      · rw [e] at hne; simp at hne
      · exact e
    obtain ⟨b, o, ha, hb, hr⟩ := h2 hpos
    rw [he]
    exact ⟨b, o, ha, old_tells (p := fun w => w.rangeAt b o vs) (fun w hw => range_old hr hb hw) w hw⟩
  · obtain ⟨i, hi, rfl⟩ := List.mem_map.1 hx
    exact (hf i (by simpa using hi)).2
end

end Go.Proofs.Ytfhigibdeeeiaaa

/- A slice of the disk's calls that came in, with the bounds of their sizes; no condition. -/
namespace Go.Proofs.Ytfhigibdeeeiaaa
open Go.RowKit Go.ChangeShapes Go.WideShapes Go.Deep

theorem row_opsZ {H : Type} {enc : TypeId × Value → H} {W : World} {a : Option Addr} {len cap : Nat} (h : TrodZ enc Try.prog W 22 (.slice a len cap)) :
    ∃ ops : List OpM, ops.length = len ∧ (Assn.old W.heap.size W).Tells (fun w => OpsIn w (.slice a len cap) ops) ∧ len ≤ 9223372036854775807 ∧ ∀ k, k < ops.length → (ops.getD k default).Fine ∧ (ops.getD k default).keep.length ≤ 17592186044416 := by
  obtain ⟨hm, rows, hcell, hrow⟩ := h.rows (e := 35) Try.underlying22 Try.underlying35 (by kernel_rfl) (by kernel_rfl) (by decide)
  have hby : 0 < Try.prog.bytesOf 35 := by decide +kernel
  have hlen : len ≤ 9223372036854775807 := by
    have := Nat.le_trans (Nat.le_mul_of_pos_right len hby) hm
    unfold reachBytes at this
    omega
  have hop : ∀ i, i < len → ∃ o : OpM, rows i = o.row ∧ (Assn.old W.heap.size W).Tells (fun w => IntsIn w (.slice o.kad o.keep.length o.kcap) o.keep) ∧ o.Fine ∧ o.keep.length ≤ 17592186044416 := by
    intro i hi
    obtain ⟨hl, hf⟩ := hrow i hi
    obtain ⟨v0, g0, h0⟩ := hf 0 _ rfl
    obtain ⟨v1, g1, h1⟩ := hf 1 _ rfl
    obtain ⟨v2, g2, h2⟩ := hf 2 _ rfl
    obtain ⟨v3, g3, h3⟩ := hf 3 _ rfl
    obtain ⟨v4, g4, h4⟩ := hf 4 _ rfl
    obtain ⟨z0, rfl, b0⟩ := h0.i64 (by kernel_rfl)
    obtain ⟨z1, rfl, b1⟩ := h1.i64 (by kernel_rfl)
    obtain ⟨z2, rfl, b2⟩ := h2.i64 (by kernel_rfl)
    obtain ⟨c, rfl⟩ := h3.u8 (by kernel_rfl)
    obtain ⟨ba, bl, bc, rfl⟩ : ∃ a l c, v4 = .slice a l c := by
      obtain ⟨_, _, hx, _⟩ := h4
      rcases open_slice Try.underlying33 hx with ⟨hcs, _⟩ | ⟨a', l', c', _, _, _, _, hcs, _⟩
      · simp only [List.cons.injEq, and_true] at hcs; exact ⟨_, _, _, hcs⟩
      · simp only [List.cons.injEq, and_true] at hcs; exact ⟨_, _, _, hcs⟩
    have hsz := (h4.cells (e := 3) Try.underlying33 (by kernel_rfl)).1
    rw [show Try.prog.bytesOf 3 = 8 from by kernel_rfl] at hsz
    obtain ⟨l, rfl, ht, hb, hx⟩ := TrodZ.ints rfl h4
    refine ⟨⟨z0, z1, z2, c, ba, bc, l⟩, ?_, ht, ⟨b0, b1, b2, by simp only; omega, hx⟩, by unfold reachBytes at hsz; simp only; omega⟩
    match hq : rows i, hl with
    | [u0, u1, u2, u3, u4], _ =>
      rw [hq] at g0 g1 g2 g3 g4
      simp only [List.getElem?_cons_zero, List.getElem?_cons_succ, Option.some.injEq] at g0 g1 g2 g3 g4
      subst g0; subst g1; subst g2; subst g3; subst g4
      rfl
  obtain ⟨f, hf⟩ := choose_lt hop
  have hget : ∀ i, i < len → ((List.range len).map f).getD i default = f i := by
    intro i hi
    simp [hi]
  refine ⟨(List.range len).map f, by simp, ?_, hlen, fun k hk => ?_⟩
  · intro w hw
    refine ⟨a, cap, by simp, fun hne => ?_, fun k hk => ?_⟩
    · have hpos : 0 < len := by
        rcases Nat.eq_zero_or_pos len with e | e
        · subst e; simp at hne
        · exact e
      obtain ⟨b, o, ha, hb, hc⟩ := hcell hpos
      refine ⟨b, o, ha, fun i j u hi hu => ?_⟩
      simp only [List.length_map, List.length_range] at hi
      rw [hget i hi] at hu
      have hj : j < 5 := by
        have := (List.getElem?_eq_some_iff.1 hu).1
        simpa [OpM.row] using this
      have h1 := hc i j hi hj
      rw [(hf i hi).1, hu] at h1
      have h2 : w.rangeAt b (o + i * 5 + j) [u] := old_tells (p := fun w => w.rangeAt b (o + i * 5 + j) [u]) (fun w hw => range_old (fun j' v' hv' => by
        cases j' with
        | zero => simp only [List.getElem?_cons_zero, Option.some.injEq] at hv'; subst hv'; exact h1
        | succ n => simp at hv') hb hw) w hw
      exact h2 0 u rfl
    · simp only [List.length_map, List.length_range] at hk
      rw [hget k hk]
      exact (hf k hk).2.1 w hw
  · simp only [List.length_map, List.length_range] at hk
    rw [hget k hk]
    exact (hf k hk).2.2

end Go.Proofs.Ytfhigibdeeeiaaa

/- DiskPlays walked; no condition. -/
namespace Go.Proofs.Ytfhigibdeeeiaaa
open Go.RowKit Go.MapKept

theorem kindN_lt (c : Int) (m : Nat) (hm : 0 < m) : ∃ s : Nat, s < m ∧ (if c < 0 then (-(c + 1)) % (m : Int) else c % (m : Int)) = (s : Int) := by
  have h : 0 ≤ (if c < 0 then (-(c + 1)) % (m : Int) else c % (m : Int)) ∧ (if c < 0 then (-(c + 1)) % (m : Int) else c % (m : Int)) < (m : Int) := by
    split
    · exact ⟨Int.emod_nonneg _ (by omega), Int.emod_lt_of_pos _ (by omega)⟩
    · exact ⟨Int.emod_nonneg _ (by omega), Int.emod_lt_of_pos _ (by omega)⟩
  exact ⟨(if c < 0 then (-(c + 1)) % (m : Int) else c % (m : Int)).toNat, by omega, by omega⟩
theorem made_bytesR (n : Nat) : madeCells #[Value.int .u8 0] n = (cellsV (List.replicate n 0)).toArray := by
  unfold madeCells cellsV byteV
  apply Array.ext
  · simp
  · intro i h1 h2
    simp [Nat.mod_one]
theorem run_make_bytesR (w : World) (n : Nat) (hn : n ≤ 16384) : (Instr.makeSlice 37 (.int .i64 n) (.int .i64 n)).run Try.prog w = .ok (.slice (some ⟨w.heap.size, 0, none⟩) n n) (w.alloc (.cells (cellsV (List.replicate n 0)).toArray 5)) := by
  obtain ⟨i0, hi0, hz0, hz1, hz2⟩ := info_parts i_byte
  have h := run_makeSlice (P := Try.prog) (w := w) 37 5 i0 _ u_bytes hi0 hz0 .i64 .i64 (n : Int) (n : Int) (by omega) (Int.le_refl _) (by rw [hz1, Int.toNat_natCast]; omega) (by rw [hz2]; omega) (by omega)
  rw [hz1, Int.toNat_natCast, Nat.mul_one, show (Value.int .u8 0).cells = #[Value.int .u8 0] by simp [Value.cells], made_bytesR] at h
  exact h
theorem write_few {d d' : DiskM} {i r : Int} {b : Sec} (h : d.write i b = (r, d')) : d'.waits.length ≤ d.waits.length + 1 := by
  have hs := step_waits d
  unfold DiskM.write at h
  split at h
  · obtain ⟨rfl, rfl⟩ := Prod.mk.inj h; omega
  · split at h
    · obtain ⟨rfl, rfl⟩ := Prod.mk.inj h; omega
    · split at h
      · rw [h] at hs
        simp only at hs
        rw [hs]; omega
      · obtain ⟨rfl, rfl⟩ := Prod.mk.inj h
        simp
theorem barrier_few {d d' : DiskM} {r : Int} (h : d.barrier = (r, d')) : d'.waits.length ≤ d.waits.length := by
  have hs := step_waits d
  unfold DiskM.barrier at h
  split at h
  · obtain ⟨rfl, rfl⟩ := Prod.mk.inj h; omega
  · split at h
    · rw [h] at hs
      simp only at hs
      rw [hs]; omega
    · obtain ⟨rfl, rfl⟩ := Prod.mk.inj h
      simp
theorem setFuse_waits (d : DiskM) (n : Int) : (d.setFuse n).waits = d.waits := by unfold DiskM.setFuse; split <;> rfl
/-- Bytes of a row of integers. -/
theorem rowA_ints {e : TypeId} {ad : Option Addr} {n cap : Nat} {l : List Int} {R : Assn} (hn : n = l.length) : (rowA e 1 (.slice ad n cap) n (l.map (Value.int .i64)) * R).Tells (fun w => IntsIn w (.slice ad n cap) l) := by
  intro w h
  obtain ⟨_, _, _, e1, _, _, hr⟩ := rowA_vals _ h
  simp only [Value.slice.injEq] at e1
  obtain ⟨rfl, rfl, rfl⟩ := e1
  subst hn
  exact ⟨_, _, rfl, fun hne => hr (by simpa using hne)⟩
theorem IntsIn.vals {w : World} {ad : Option Addr} {n cap : Nat} {l : List Int} (h : IntsIn w (.slice ad n cap) l) (hl : n ≤ 17592186044416) : ValsIn 1 w (.slice ad n cap) (l.map (Value.int .i64)) := by
  obtain ⟨ad', cap', hv, hr⟩ := h
  simp only [Value.slice.injEq] at hv
  obtain ⟨rfl, rfl, rfl⟩ := hv
  exact ⟨_, _, _, rfl, by simp, by unfold maxLen; omega, fun hne => hr (by intro e; rw [e] at hne; simp at hne)⟩
theorem i_int1 : (Try.prog.info? 3).map (fun i => (i.zero, i.size, i.bytes)) = some (some (.int .i64 0), 1, 8) := by kernel_rfl
theorem u_ints1 : Try.prog.underlying 33 = some (.slice 3) := by kernel_rfl

abbrev opObj (ob : Nat) (kd at' n : Int) (c : UInt8) (kad : Option Addr) (kl kcap : Nat) : Assn := Assn.obj ob (.cells #[.int .i64 kd, .int .i64 at', .int .i64 n, byteV c, .slice kad kl kcap] 35 (0, 0))
/-- Two disks, and the document's. -/
abbrev twoA (p q y z : Nat) (Y : Assn) (d e : DiskM) (R : Assn) : Assn := diskA p d * (diskA q e * (refA y Y d * (refA z Y e * (Y * R))))

set_option maxRecDepth 100000 in
set_option maxHeartbeats 1000000 in
theorem diskPlays_walk {R : Assn} {w : World} (h : Bears w R) (x0 : Int) {oad : Option Addr} {on ocap : Nat} {ops : List OpM} (hops : R.Tells (fun w => OpsIn w (.slice oad on ocap) ops)) (hon : ops.length = on) (hfine : ∀ k, k < ops.length → (ops.getD k default).Fine ∧ (ops.getD k default).keep.length ≤ 17592186044416) (hlo : on ≤ 9223372036854775807) :
    Calls Try.prog 3 #[.int .i64 x0, .slice oad on ocap] w fun e w' => e = .returned (.bool true) ∧ Bears w' R := by
  have Hfine := Lib.hid hfine
  have Hops := Lib.hid hops
  have Hon := Lib.hid hon
  clear hfine hops hon
  by_cases hx : x0 < 1 ∨ 8192 < x0
  · have n1 := fun w => new_no w x0 hx
    have n2 := fun w => rnew_no w x0 hx
    clear hx
    go_enter Try.func3, Try.ntmps3
    go_wp2_with fail
    refine (shown_any h).mono ?_
    rintro e w1 ⟨rfl, h1⟩
    go_wp2_with fail
    refine (n1 w1).mono ?_
    rintro e w2 ⟨rfl, rfl⟩
    go_wp2_with fail
    refine (n2 w1).mono ?_
    rintro e w3 ⟨rfl, rfl⟩
    go_wp2_with fail
    go_ret
    exact ⟨rfl, h1⟩
  obtain ⟨n, rfl⟩ := Int.eq_ofNat_of_zero_le (a := x0) (by omega)
  have hn1 : 1 ≤ n := by omega
  have hn2 : n ≤ 8192 := by omega
  clear hx
  go_enter Try.func3, Try.ntmps3
  go_wp2_with fail
  refine (shown_any h).mono ?_
  rintro e w1 ⟨rfl, h1⟩
  go_wp2_with fail
  refine (new_ok h1 n hn1 hn2).mono ?_
  rintro e w2 ⟨p0, rfl, h2⟩
  go_wp2_with fail
  refine (rnew_ok h2 n hn1 hn2).mono ?_
  rintro e w3 ⟨y0, Y0, rfl, h3⟩
  go_wp2_with fail
  refine (clone_any (h3.pull3) (by simp [DiskM.new])).mono ?_
  rintro e w4 ⟨q0, rfl, h4⟩
  go_wp2_with fail
  refine (rclone_any (h4.pull3)).mono ?_
  rintro e w5 ⟨z0, rfl, h5⟩
  go_wp2_with fail
  have h6 : Bears w5 (twoA p0 q0 y0 z0 Y0 (DiskM.new n) (DiskM.new n) R) := h5.cast (by unfold twoA; ac_rfl)
  clear h1 h2 h3 h4 h5 h
  go_loopw [6, 8, 10, 11, 12] (fun xv yv zv wv iv wr => ∃ (k p q y z : Nat) (Y : Assn) (d e : DiskM), k ≤ ops.length ∧ k ≤ 300 ∧ iv = .int .i64 k ∧ xv = .pointer (some ⟨p, 0, none⟩) ∧ yv = .pointer (some ⟨y, 0, none⟩) ∧ zv = .pointer (some ⟨q, 0, none⟩) ∧ wv = .pointer (some ⟨z, 0, none⟩) ∧
    d.waits.length ≤ k ∧ e.waits.length ≤ k ∧ Bears wr (twoA p q y z Y d e R)) (fun _ _ _ _ iv _ => 300 - (intOf iv).toNat)
  case atStart => exact ⟨0, p0, q0, y0, z0, Y0, _, _, by omega, by omega, rfl, rfl, rfl, rfl, rfl, by simp [DiskM.new], by simp [DiskM.new], h6⟩
  case round =>
    clear h6
    obtain ⟨k, p, q, y, z, Y, d, e, hk, hk2, rfl, rfl, rfl, rfl, rfl, hdw, hew, h7⟩ := hrel
    by_cases hlt : k < ops.length ∧ k < 300
    · obtain ⟨hlt, hlt2⟩ := hlt
      obtain ⟨ob, oo, had, q0, q1, q2, q3, q4⟩ := (Hops.out _ h7.right.right.right.right.right).cells hlt
      have hky := Hops.out.mono (fun w h => h.keep hlt)
      obtain ⟨hfi, hkb⟩ := Hfine.out k hlt
      have hkI : (k : Int) < (on : Int) := by have := Hon.out; omega
      have hk40 : (k : Int) < 300 := by omega
      subst had
      generalize ops.getD k default = op at q0 q1 q2 q3 q4 hky hfi hkb
      obtain ⟨kd, at', n', c, kad, kcap, ks⟩ := op
      simp only at q0 q1 q2 q3 q4 hky hkb
      obtain ⟨fk, fa, fn, _, fx⟩ := hfi
      simp only at fk fa fn fx
      obtain ⟨kk, hkk, ek⟩ := kindN_lt kd 9 (by omega)
      rw [show ((9 : Nat) : Int) = 9 from rfl] at ek
      have hkc := fun w => kind_any kd 9 w fk (by omega)
      simp only [ek] at hkc
      have hA := h7.alloc (.cells #[.int .i64 kd, .int .i64 at', .int .i64 n', byteV c, .slice kad ks.length kcap] 35)
      have Hkc := Lib.hid hkc
      have Fx := Lib.hid fx
      have hA0 := cell_of_obj hA.obj 0
      have hA1 := cell_of_obj hA.obj 1
      have hA2 := cell_of_obj hA.obj 2
      have hA3 := cell_of_obj hA.obj 3
      have hA4 := cell_of_obj hA.obj 4
      simp only [List.getElem?_toArray, List.getElem?_cons_zero, List.getElem?_cons_succ] at hA0 hA1 hA2 hA3 hA4
      clear ek hkc fx
      go_wp2_with fail
      refine (Hkc.out _).mono ?_
      rintro e0 w' ⟨rfl, rfl⟩
      generalize hob : wr.heap.size = ob1 at *
      clear hob q0 q1 q2 q3 q4
      have hA : Bears _ (opObj ob1 kd at' n' c kad ks.length kcap * twoA p q y z Y d e R) := hA
      clear h7
      go_upto_block 2 with (fail)
      go_cut [6, 8, 10, 11] (fun xv yv zv wv wr => ∃ (p q y z : Nat) (Y : Assn) (d e : DiskM), xv = .pointer (some ⟨p, 0, none⟩) ∧ yv = .pointer (some ⟨y, 0, none⟩) ∧ zv = .pointer (some ⟨q, 0, none⟩) ∧ wv = .pointer (some ⟨z, 0, none⟩) ∧
        d.waits.length ≤ k + 1 ∧ e.waits.length ≤ k + 1 ∧ Bears wr (opObj ob1 kd at' n' c kad ks.length kcap * twoA p q y z Y d e R))
      case first =>
        go_upto_if 76 with (fail)
        go_cut [76] (fun v wr => v = .bool (kk == 0 || kk == 1 || kk == 2 || kk == 8) ∧ Bears wr (opObj ob1 kd at' n' c kad ks.length kcap * twoA p q y z Y d e R))
        case first =>
          clear Hkc
          obtain rfl | rfl | rfl | rfl | rfl | rfl | rfl | rfl | rfl : kk = 0 ∨ kk = 1 ∨ kk = 2 ∨ kk = 3 ∨ kk = 4 ∨ kk = 5 ∨ kk = 6 ∨ kk = 7 ∨ kk = 8 := by omega
          all_goals
            go_wp2_with fail
            go_meet
            case rel => exact ⟨rfl, hA⟩
        case' rest =>
          obtain ⟨rfl, hB⟩ := hcut
        clear hA hA0 hA1 hA2 hA3 hA4
        have hA := hB
        have hA0 := cell_of_obj hA.obj 0
        have hA1 := cell_of_obj hA.obj 1
        have hA2 := cell_of_obj hA.obj 2
        have hA3 := cell_of_obj hA.obj 3
        have hA4 := cell_of_obj hA.obj 4
        simp only [List.getElem?_toArray, List.getElem?_cons_zero, List.getElem?_cons_succ] at hA0 hA1 hA2 hA3 hA4
        clear hB
        by_cases hw : (kk == 0 || kk == 1 || kk == 2 || kk == 8) = true
        · as_aux_lemma =>
          rw [hw]
          have h71 := fun w => kind_any n' 71 w fn (by omega)
          obtain ⟨m, hm, em⟩ := kindN_lt n' 71 (by omega)
          rw [show ((71 : Nat) : Int) = 71 from rfl] at em
          simp only [em] at h71
          have H71 := Lib.hid h71
          have hmk := fun w => run_make_bytesR w m (by omega)
          have Hmk := Lib.hid hmk
          clear h71 em hmk hw
          go_wp2_with fail
          refine (full_any hA c).mono ?_
          rintro e1 w8 ⟨g0, rfl, h8⟩
          have c0 := cell_of_obj h8.pull2.obj 0
          have c2 := cell_of_obj h8.pull2.obj 2
          simp only [List.getElem?_toArray, List.getElem?_cons_zero, List.getElem?_cons_succ] at c0 c2
          clear hA0 hA1 hA2 hA3 hA4 hA
          go_wp2_with fail
          refine (Hkc.out _).mono ?_
          rintro e1 w' ⟨rfl, rfl⟩
          go_upto_if 87 with (fail)
          go_cut [14] (fun v wr => ∃ (g : Nat) (bl : List UInt8), v = .slice (some ⟨g, 0, none⟩) bl.length bl.length ∧ bl.length ≤ 71 ∧ Bears wr (Assn.obj g (.cells (cellsV bl).toArray 5 (0, 0)) * (opObj ob1 kd at' n' c kad ks.length kcap * twoA p q y z Y d e R)))
          case first =>
            by_cases h88 : kk = 8
            · subst h88
              go_wp2_with fail
              refine (H71.out _).mono ?_
              rintro e1 w' ⟨rfl, rfl⟩
              go_wp2_with (refine wpList_op rfl (exec_make rfl rfl rfl (Hmk.out _)) ?_)
              go_meet
              case rel => exact ⟨w8.heap.size, List.replicate m 0, by simp, by simp; omega, (h8.right.alloc _)⟩
            · have h8I : (kk : Int) ≠ 8 := by omega
              go_wp2_with fail
              go_meet
              case rel => exact ⟨g0, fullS c, by simp [fullS], by simp [fullS], h8⟩
          case' rest =>
            clear c0 c2 h8 Hmk H71
            obtain ⟨g, bl, rfl, hbl, hB⟩ := hcut
          obtain ⟨r, d', hwd⟩ : ∃ r d', d.write at' bl = (r, d') := ⟨_, _, rfl⟩
          have hd' := write_few hwd
          have c1 := cell_of_obj hB.pull2.obj 1
          simp only [List.getElem?_toArray, List.getElem?_cons_zero, List.getElem?_cons_succ] at c1
          have Hwd := Lib.hid hwd
          clear hwd
          go_wp2_with fail
          refine (write_to hB.pull3 Hwd.out (BytesIn.tells bl.length bl.length rfl) (by omega)).mono ?_
          rintro e1 w9 ⟨rfl, h9⟩
          have c1 := cell_of_obj h9.pull3.obj 1
          simp only [List.getElem?_toArray, List.getElem?_cons_zero, List.getElem?_cons_succ] at c1
          have hG : (Assn.obj g (.cells (cellsV bl).toArray 5 (0, 0)) * (opObj ob1 kd at' n' c kad ks.length kcap * (diskA p d' * (diskA q e * (refA z Y e * R))))).Tells (fun w => BytesIn w (.slice (some ⟨g, 0, none⟩) bl.length bl.length) bl) := BytesIn.tells bl.length bl.length rfl
          clear hB
          go_wp2_with fail
          refine (rwrite_any (R := Assn.obj g (.cells (cellsV bl).toArray 5 (0, 0)) * (opObj ob1 kd at' n' c kad ks.length kcap * (diskA p d' * (diskA q e * (refA z Y e * R))))) (h9.cast (by ac_rfl)) at' hG (by omega) Hwd.out (by omega)).mono ?_
          rintro e1 w10 ⟨rfl, Z, h10⟩
          have h11 : Bears w10 (refA z Y e * (refA y (Z * Y) d' * ((Z * Y) * (Assn.obj g (.cells (cellsV bl).toArray 5 (0, 0)) * (opObj ob1 kd at' n' c kad ks.length kcap * (diskA p d' * (diskA q e * R))))))) := h10.cast (by ac_rfl)
          have h12 := h11.refRight (Z := Z)
          clear h11 h10 h9 c1 hG
          generalize Z * Y = Y2 at h12
          have h13 : Bears w10 (Assn.obj g (.cells (cellsV bl).toArray 5 (0, 0)) * (opObj ob1 kd at' n' c kad ks.length kcap * twoA p q y z Y2 d' e R)) := h12.cast (by unfold twoA; ac_rfl)
          clear h12
          go_wp2_with fail
          go_loopw [17] (fun iv wr => ∃ (j : Nat) (lb : List UInt8), j ≤ bl.length ∧ iv = .int .i64 j ∧ lb.length = bl.length ∧ Bears wr (Assn.obj g (.cells (cellsV lb).toArray 5 (0, 0)) * (opObj ob1 kd at' n' c kad ks.length kcap * twoA p q y z Y2 d' e R))) (fun iv _ => bl.length - (intOf iv).toNat)
          case atStart => exact ⟨0, bl, by omega, rfl, rfl, h13⟩
          case round =>
            clear h13
            obtain ⟨j, lb, hj, rfl, hlb, h14⟩ := hrel
            by_cases hlt3 : j < bl.length
            · have hjI : (j : Int) < (bl.length : Int) := by omega
              have hc := h14.byteCell (j := j) (by omega)
              have hf := frozen_of_obj h14.obj j
              have h15 := h14.setByte j 98
              have hl2 : (lb.set j 98).length = bl.length := by simpa using hlb
              generalize lb.set j 98 = lb2 at h15 hl2
              generalize lb.getD j 0 = old at hc
              unfold byteV at hc h15
              have Hl2 := Lib.hid hl2
              clear hl2 hlb h14
              go_wp2_with fail
              go_roundw
              case rel => exact ⟨j + 1, lb2, hlt3, by go_num, Hl2.out, h15⟩
              case measure => simp [intOf]; omega
            · go_wp2_with fail
              go_meet
              case rel => exact ⟨p, q, y, z, Y2, d', e, rfl, rfl, rfl, rfl, by omega, by omega, h14.right⟩
        · have hw2 : (kk == 0 || kk == 1 || kk == 2 || kk == 8) = false := (Bool.not_eq_true _).mp hw
          rw [hw2]
          obtain rfl | rfl | rfl | rfl | rfl : kk = 3 ∨ kk = 4 ∨ kk = 5 ∨ kk = 6 ∨ kk = 7 := by simp at hw; omega
          · as_aux_lemma =>
            clear hw hw2 Hkc
            obtain ⟨r, d', hbd⟩ : ∃ r d', d.barrier = (r, d') := ⟨_, _, rfl⟩
            have hd' := barrier_few hbd
            have Hbd := Lib.hid hbd
            clear hbd
            go_wp2_with fail
            refine (barrier_to hA.pull2 Hbd.out (by omega)).mono ?_
            rintro e1 w9 ⟨rfl, h9⟩
            clear hA0 hA1 hA2 hA3 hA4 hA
            go_wp2_with fail
            refine (rbarrier_any (R := opObj ob1 kd at' n' c kad ks.length kcap * (diskA p d' * (diskA q e * (refA z Y e * R)))) (h9.cast (by ac_rfl)) (by omega) Hbd.out).mono ?_
            rintro e1 w10 ⟨rfl, Z, h10⟩
            have h11 : Bears w10 (refA z Y e * (refA y (Z * Y) d' * ((Z * Y) * (opObj ob1 kd at' n' c kad ks.length kcap * (diskA p d' * (diskA q e * R)))))) := h10.cast (by ac_rfl)
            have h12 := h11.refRight (Z := Z)
            clear h11 h10 h9
            generalize Z * Y = Y2 at h12
            have h13 : Bears w10 (opObj ob1 kd at' n' c kad ks.length kcap * twoA p q y z Y2 d' e R) := h12.cast (by unfold twoA; ac_rfl)
            clear h12
            go_wp2_with fail
            go_meet
            case rel => exact ⟨p, q, y, z, Y2, d', e, rfl, rfl, rfl, rfl, by omega, by omega, h13⟩
          · as_aux_lemma =>
            clear hw hw2 Hkc
            by_cases hc : d.check at' = 0
            · have r1 := read_to (s := d.now at'.toNat) at' hA.pull2 hc rfl
              have h64 : (d.now at'.toNat).length = 64 := by
                obtain ⟨_, _, _, _, _, hwf, _⟩ := Bears.disk.1 hA.pull2
                exact hwf.now _
              have R1 := Lib.hid r1
              clear r1 hc
              generalize d.now at'.toNat = s at *
              have H64 := Lib.hid h64
              clear h64
              go_wp2_with fail
              refine R1.out.mono ?_
              rintro e1 w8 ⟨g, rfl, h8⟩
              have h13 : Bears w8 (Assn.obj g (.cells (cellsV s).toArray 58 (0, 0)) * (opObj ob1 kd at' n' c kad ks.length kcap * twoA p q y z Y d e R)) := h8.cast (by unfold twoA; ac_rfl)
              clear h8 hA0 hA1 hA2 hA3 hA4 hA
              go_wp2_with fail
              go_loopw [21] (fun iv wr => ∃ (j : Nat) (lb : List UInt8), j ≤ 64 ∧ iv = .int .i64 j ∧ lb.length = 64 ∧ Bears wr (Assn.obj g (.cells (cellsV lb).toArray 58 (0, 0)) * (opObj ob1 kd at' n' c kad ks.length kcap * twoA p q y z Y d e R))) (fun iv _ => 64 - (intOf iv).toNat)
              case atStart => exact ⟨0, s, by omega, rfl, H64.out, h13⟩
              case round =>
                clear h13
                obtain ⟨j, lb, hj, rfl, hlb, h14⟩ := hrel
                by_cases hlt3 : j < 64
                · have hjI : (j : Int) < 64 := by omega
                  have hc := h14.byteCell (j := j) (by omega)
                  have hf := frozen_of_obj h14.obj j
                  have h15 := h14.setByte j 99
                  have hl2 : (lb.set j 99).length = 64 := by simpa using hlb
                  generalize lb.set j 99 = lb2 at h15 hl2
                  generalize lb.getD j 0 = old at hc
                  unfold byteV at hc h15
                  have Hl2 := Lib.hid hl2
                  clear hl2 hlb h14
                  go_wp2_with fail
                  go_roundw
                  case rel => exact ⟨j + 1, lb2, hlt3, by go_num, Hl2.out, h15⟩
                  case measure => simp [intOf]; omega
                · go_wp2_with fail
                  go_meet
                  case rel => exact ⟨p, q, y, z, Y, d, e, rfl, rfl, rfl, rfl, by omega, by omega, h14.right⟩
            · have r1 := read_no hA.pull2 at' hc
              have R1 := Lib.hid r1
              clear r1 hc
              go_wp2_with fail
              refine R1.out.mono ?_
              rintro e1 w8 ⟨rfl, rfl⟩
              clear hA0 hA1 hA2 hA3 hA4
              go_wp2_with fail
              go_loopw [21] (fun iv wr' => iv = .int .i64 0 ∧ Bears wr' (opObj ob1 kd at' n' c kad ks.length kcap * twoA p q y z Y d e R)) (fun _ _ => 0)
              case atStart => exact ⟨rfl, hA⟩
              case round =>
                clear hA
                obtain ⟨rfl, h14⟩ := hrel
                go_wp2_with fail
                go_meet
                case rel => exact ⟨p, q, y, z, Y, d, e, rfl, rfl, rfl, rfl, by omega, by omega, h14⟩
          · as_aux_lemma =>
            clear hw hw2 Hkc
            have hsw := setFuse_waits d n'
            go_wp2_with fail
            refine (fuse_to hA.pull2 rfl (by omega)).mono ?_
            rintro e1 w9 ⟨rfl, h9⟩
            have c2 := cell_of_obj h9.pull2.obj 2
            simp only [List.getElem?_toArray, List.getElem?_cons_zero, List.getElem?_cons_succ] at c2
            clear hA0 hA1 hA2 hA3 hA4 hA
            have hwl : (d.setFuse n').waits.length ≤ k := by rw [hsw]; exact hdw
            have rf := fun w' Q (h' : Bears w' (refA y Y d * Q)) => rfuse_any h' n' fn
            have Rf := Lib.hid rf
            clear rf hsw
            generalize d.setFuse n' = d' at *
            go_wp2_with fail
            refine (Rf.out _ (opObj ob1 kd at' n' c kad ks.length kcap * (diskA p d' * (diskA q e * (refA z Y e * (Y * R))))) (h9.cast (by ac_rfl))).mono ?_
            rintro e1 w10 ⟨rfl, h10⟩
            have h13 : Bears w10 (opObj ob1 kd at' n' c kad ks.length kcap * twoA p q y z Y d' e R) := h10.cast (by unfold twoA; ac_rfl)
            clear h9 h10
            go_wp2_with fail
            go_meet
            case rel => exact ⟨p, q, y, z, Y, d', e, rfl, rfl, rfl, rfl, by omega, by omega, h13⟩
          · as_aux_lemma =>
            clear hw hw2 Hkc
            have h8 := hA.zeroRow (e := 3) (size := 1)
            have hvals := (hky _ h8.right.right.right.right.right.right.right).vals hkb
            have hone : ∀ u ∈ ks.map (Value.int .i64), u.oneCell' = true := by
              intro u hu
              obtain ⟨x, _, rfl⟩ := List.mem_map.1 hu
              rfl
            obtain ⟨i0, hi0, hz0, hz1, hz2⟩ := info_parts i_int1
            have b4 := cell_of_obj h8.pull2.obj 4
            simp only [List.getElem?_toArray, List.getElem?_cons_zero, List.getElem?_cons_succ] at b4
            have hdb : (d.boot ks).waits.length ≤ k := by simp [DiskM.boot]
            obtain ⟨d', hd'⟩ : ∃ d', d.boot ks = d' := ⟨_, rfl⟩
            rw [hd'] at hdb
            have Hd' := Lib.hid hd'
            clear hA0 hA1 hA2 hA3 hd'
            go_wp2_with (at_builtin; refine wpList_append_vals h8 rfl rfl u_ints1 hi0 hz0 hz1 hz2 (by simp [Value.cells]) (by decide) rfl rfl hvals hone (by omega) ?_; intro ga gc w9 h9)
            clear hvals hone b4 hA4 hA h8
            refine (boot_to ks h9.pull3 rfl Hd'.out (rowA_ints rfl) Fx.out (by omega) (by omega)).mono ?_
            rintro e1 w10 ⟨rfl, h10⟩
            have b4 := cell_of_obj h10.pull3.obj 4
            simp only [List.getElem?_toArray, List.getElem?_cons_zero, List.getElem?_cons_succ] at b4
            clear h9
            go_wp2_with fail
            refine (rboot_any (ks := ks) (R := rowA 3 1 (.slice ga ks.length gc) ks.length (ks.map (Value.int .i64)) * (opObj ob1 kd at' n' c kad ks.length kcap * (diskA p d' * (diskA q e * (refA z Y e * R))))) (h10.cast (by ac_rfl)) hky.right.right.right.right.right rfl Fx.out (by omega) (by omega) Hd'.out).mono ?_
            rintro e1 w11 ⟨rfl, Z, h11⟩
            have h12 : Bears w11 (refA z Y e * (refA y (Z * Y) d' * ((Z * Y) * (rowA 3 1 (.slice ga ks.length gc) ks.length (ks.map (Value.int .i64)) * (opObj ob1 kd at' n' c kad ks.length kcap * (diskA p d' * (diskA q e * R))))))) := h11.cast (by ac_rfl)
            have h13 := h12.refRight (Z := Z)
            clear h12 h11 h10 b4
            generalize Z * Y = Y2 at h13
            have h14 : Bears w11 (rowA 3 1 (.slice ga ks.length gc) ks.length (ks.map (Value.int .i64)) * (opObj ob1 kd at' n' c kad ks.length kcap * twoA p q y z Y2 d' e R)) := h13.cast (by unfold twoA; ac_rfl)
            clear h13
            go_wp2_with fail
            go_loopw [23] (fun iv wr => ∃ (j : Nat), j ≤ ks.length ∧ iv = .int .i64 j ∧ Bears wr (rowA 3 1 (.slice ga ks.length gc) ks.length (ks.map (Value.int .i64)) * (opObj ob1 kd at' n' c kad ks.length kcap * twoA p q y z Y2 d' e R))) (fun iv _ => ks.length - (intOf iv).toNat)
            case atStart => exact ⟨0, by omega, rfl, h14⟩
            case round =>
              clear h14
              obtain ⟨j, hj, rfl, h15⟩ := hrel
              by_cases hlt3 : j < ks.length
              · have hjI : (j : Int) < (ks.length : Int) := by omega
                obtain ⟨gb, rfl, _⟩ := h15.rowAt (k := j) hlt3
                have hc := h15.rowCell (i := j) hlt3 (v := .int .i64 (ks.getD j 0)) (by simp [hlt3])
                have hin := hky _ h15.right.right.right.right.right.right.right
                obtain ⟨kb, ko, rfl, _⟩ := hin.at (by intro e; rw [e] at hlt3; simp at hlt3)
                have hc2 := hin.cell hlt3
                have b4 := cell_of_obj h15.pull2.obj 4
                simp only [List.getElem?_toArray, List.getElem?_cons_zero, List.getElem?_cons_succ] at b4
                generalize ks.getD j 0 = kx at hc hc2
                have h16 := h15.drew
                clear hin h15
                go_wp2_with fail
                refine wp_region_tail 9 (by kernel_rfl) (by kernel_rfl) ?_
                simp only [List.take_succ_cons, List.take_zero, List.drop_succ_cons, List.drop_zero]
                iterate 9 still_step
                refine wpStill_nil ?_
                go_wp2_with fail
                go_roundw
                case rel => exact ⟨j + 1, hlt3, by go_num, h16⟩
                case measure => simp [intOf]; omega
              · go_wp2_with fail
                go_meet
                case rel => exact ⟨p, q, y, z, Y2, d', e, rfl, rfl, rfl, rfl, by omega, by omega, h15.right⟩
          · as_aux_lemma =>
            clear hw hw2 Hkc
            go_wp2_with fail
            refine (clone_any hA.pull2 (by omega)).mono ?_
            rintro e1 w9 ⟨q2, rfl, h9⟩
            clear hA0 hA1 hA2 hA3 hA4 hA
            go_wp2_with fail
            refine (rclone_any (R := diskA q2 d * (diskA p d * (opObj ob1 kd at' n' c kad ks.length kcap * (diskA q e * (refA z Y e * (Y * R)))))) (h9.cast (by ac_rfl))).mono ?_
            rintro e1 w10 ⟨y2, rfl, h10⟩
            have h11 : Bears w10 (diskA q e * (refA z Y e * (opObj ob1 kd at' n' c kad ks.length kcap * (diskA q2 d * (diskA p d * (refA y2 Y d * (refA y Y d * (Y * R)))))))) := h10.cast (by ac_rfl)
            have h12 := h11.right.right
            clear h11 h10 h9
            go_wp2_with fail
            go_meet
            case rel => exact ⟨q2, p, y2, y, Y, d, d, rfl, rfl, rfl, rfl, by omega, by omega, h12⟩
      case' rest =>
        obtain ⟨p, q, y, z, Y, d, e, rfl, rfl, rfl, rfl, hdw, hew, hB⟩ := hcut
      have c1 := cell_of_obj hB.obj 1
      simp only [List.getElem?_toArray, List.getElem?_cons_zero, List.getElem?_cons_succ] at c1
      clear hA0 hA1 hA2 hA3 hA4 hA
      go_wp2_with fail
      refine (alike_any (R := opObj ob1 kd at' n' c kad ks.length kcap * (diskA q e * (refA z Y e * R))) (hB.cast (by unfold twoA; ac_rfl)) at' (by omega)).mono ?_
      rintro e1 w8 ⟨rfl, h8⟩
      have h9 : Bears w8 (opObj ob1 kd at' n' c kad ks.length kcap * twoA p q y z Y d e R) := h8.cast (by unfold twoA; ac_rfl)
      have c1 := cell_of_obj h9.obj 1
      simp only [List.getElem?_toArray, List.getElem?_cons_zero, List.getElem?_cons_succ] at c1
      clear hB h8
      go_wp2_with fail
      refine (alike_any (R := opObj ob1 kd at' n' c kad ks.length kcap * (diskA p d * (refA y Y d * R))) (h9.cast (by unfold twoA; ac_rfl)) at' (by omega)).mono ?_
      rintro e1 w10 ⟨rfl, h10⟩
      have h11 : Bears w10 (opObj ob1 kd at' n' c kad ks.length kcap * twoA p q y z Y d e R) := h10.cast (by unfold twoA; ac_rfl)
      clear h9 h10
      go_wp2_with fail
      go_roundw
      case rel => exact ⟨k + 1, p, q, y, z, Y, d, e, hlt, by omega, by go_num, rfl, rfl, rfl, rfl, hdw, hew, h11.right⟩
      case measure => simp [intOf]; omega
    · have hlt' : ¬ (k < on ∧ k < 300) := by rw [← Hon.out]; exact hlt
      go_wp2_with fail
      all_goals
        go_ret
        exact ⟨rfl, h7.right.right.right.right.right⟩

end Go.Proofs.Ytfhigibdeeeiaaa
