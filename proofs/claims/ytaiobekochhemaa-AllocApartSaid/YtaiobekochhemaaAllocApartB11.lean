/- Texts of this claim, put together: Ops, OpsZ, TOps, AApartM; no condition. -/
import Derived.Test.YtaiobekochhemaaAllocApartB10
import Derived.Test.YtaiobekochhemaaChecked
import Derived.Deep.Slices
import Derived.Deep.Fields
import Derived.SizedLaws
import Derived.ChangeMaps5

/- A slice of calls (structs of five cells) that came in: its cells; no condition. -/
namespace Go.Proofs.Ytaiobekochhemaa
open Go.RowKit Go.ChangeShapes Go.WideShapes Go.Deep

section
variable {H : Type} {enc : TypeId × Value → H} {P : Program} {W : World} {spare : Nat → Bool} {held : Bool}

/-- The cells of a slice of structs whose fields are of one cell each, row by row. -/
theorem trod_rows {t e : TypeId} {fs : Array Field} (ht : P.underlying t = some (.slice e)) (he : P.underlying e = some (.struct fs)) (hone : oneCellFields P fs = true) (hC : P.cellsOf e = fs.size) (hpos : 0 < fs.size)
    {a : Option Addr} {len cap fuel : Nat} {x : DataW H × List MemPlace} (h : DataW.trod enc P W 0 spare held fuel t [.slice a len cap] = some x) :
    len ≤ maxLen ∧ ∃ rows : Nat → List Value, (0 < len → ∃ b o, a = some ⟨b, o, none⟩ ∧ b < W.heap.size ∧ ∀ i j, i < len → j < fs.size → W.cell? ⟨b, o + i * fs.size + j, none⟩ = (rows i)[j]?) ∧
      ∀ i, i < len → (rows i).length = fs.size ∧ ∀ (j : Nat) (f : Field), fs[j]? = some f → ∃ v n y, (rows i)[j]? = some v ∧ DataW.trod enc P W 0 spare held n f.type [v] = some y := by
  rcases open_slice ht h with ⟨hcs, _⟩ | ⟨a', len', cap', m, n, D, Pl, hcs, hb, hl, hm, hmm, hx, hi⟩
  · simp only [List.cons.injEq, Value.slice.injEq, and_true] at hcs
    obtain ⟨_, rfl, _⟩ := hcs
    exact ⟨by omega, fun _ => [], fun h => absurd h (by omega), fun i h => absurd h (by omega)⟩
  · simp only [List.cons.injEq, Value.slice.injEq, and_true] at hcs
    obtain ⟨rfl, rfl, rfl⟩ := hcs
    have hlm : len ≤ m := by rw [hmm]; split <;> omega
    obtain ⟨rows, hr⟩ := choose_lt hi
    have hrow : ∀ i, i < len → (rows i).length = fs.size ∧ ∀ j, j < fs.size → W.cell? (a'.add (i * fs.size + j)) = (rows i)[j]? := by
      intro i hi
      obtain ⟨h1, _⟩ := hr i (by omega)
      rw [hC] at h1
      obtain ⟨_, h2, h3⟩ := World.cells?_some h1
      exact ⟨h2, fun j hj => by rw [← add_add]; exact h3 j hj⟩
    refine ⟨by omega, rows, fun h0 => ?_, fun i hi => ⟨(hrow i hi).1, fun j f hj => ?_⟩⟩
    · obtain ⟨h1, h2⟩ := hrow 0 h0
      have h3 := h2 0 hpos
      rw [List.getElem?_eq_getElem (by omega)] at h3
      have e0 : a'.add (0 * fs.size + 0) = a' := by simp [Addr.add]
      rw [e0] at h3
      have ex := addr_of_cell h3
      refine ⟨a'.block, a'.off, by rw [← ex], World.block_lt_of_cell? W a' h3, fun i j hi hj => ?_⟩
      have h4 := (hrow i hi).2 j hj
      rw [ex, Addr.add_mid] at h4
      rw [← h4, Nat.add_assoc]
    · obtain ⟨hcl, h2⟩ := hrow i hi
      obtain ⟨_, h1⟩ := hr i (by omega)
      obtain ⟨ys, n', hn', hy, hlen, hyl, hf⟩ := DataW.trod_struct he h1
      obtain ⟨ho, hk⟩ := hone_of hone j f hj
      have hjl : j < fs.size := (Array.getElem?_eq_some_iff.1 hj).1
      have h4 := hf j f hj
      rw [ho, hk] at h4
      have h5 : ((rows i).drop j).take 1 = [(rows i)[j]'(by omega)] := by
        rw [List.drop_eq_getElem_cons (by omega)]
        rfl
      rw [h5, List.getElem?_eq_getElem (by omega)] at h4
      exact ⟨_, _, _, List.getElem?_eq_getElem (by omega), h4⟩

theorem trod_i64 {t : TypeId} {v : Value} {n : Nat} {y : DataW H × List MemPlace} (ht : P.underlying t = some (.int .i64)) (h : DataW.trod enc P W 0 spare held n t [v] = some y) :
    ∃ z, v = .int .i64 z ∧ -9223372036854775808 ≤ z ∧ z ≤ 9223372036854775807 := by
  obtain ⟨z, h1, _, h2⟩ := DataW.trod_int ht h
  simp only [List.cons.injEq, and_true] at h1
  simp [Lit.wf, IntKind.min, IntKind.max, IntKind.signed, IntKind.bits] at h2
  exact ⟨z, h1, by omega, by omega⟩
theorem trod_u8 {t : TypeId} {v : Value} {n : Nat} {y : DataW H × List MemPlace} (ht : P.underlying t = some (.int .u8)) (h : DataW.trod enc P W 0 spare held n t [v] = some y) : ∃ c, v = byteV c := by
  obtain ⟨z, h1, _, h2⟩ := DataW.trod_int ht h
  simp only [List.cons.injEq, and_true] at h1
  simp [Lit.wf, IntKind.min, IntKind.max, IntKind.signed, IntKind.bits] at h2
  refine ⟨UInt8.ofNat z.toNat, ?_⟩
  rw [h1]
  unfold byteV
  congr 1
  rw [UInt8.toNat_ofNat_of_lt' (by show z.toNat < 256; omega)]
  omega
theorem trod_row {t e : TypeId} {k : IntKind} {v : Value} {n : Nat} {y : DataW H × List MemPlace} (ht : P.underlying t = some (.slice e)) (he : P.underlying e = some (.int k)) (hc : P.cellsOf e = 1)
    (h : DataW.trod enc P W 0 (fun _ => true) held n t [v] = some y) : ∃ a len cap zs, v = .slice a len cap ∧ RowIn k W a len cap zs := by
  rcases open_ints ht he hc h with ⟨hcs, _⟩ | ⟨x, l, c, zs, hcs, _, hl, hm, hz, _, hcell, hwz⟩
  · simp only [List.cons.injEq, and_true] at hcs
    exact ⟨none, 0, 0, [], hcs, .inl ⟨rfl, rfl, rfl, rfl⟩⟩
  · simp only [List.cons.injEq, and_true] at hcs
    exact ⟨_, _, _, zs, hcs, .inr ⟨_, rfl, hl, hm, by simpa using hz, hcell, hwz⟩⟩
end

/-- A call of the disk's laws. -/
structure OpM where
  kind : Int
  at' : Int
  n : Int
  byte : UInt8
  kad : Option Addr
  kcap : Nat
  keep : List Int
instance : Inhabited OpM := ⟨⟨0, 0, 0, 0, none, 0, []⟩⟩
def OpM.row (o : OpM) : List Value := [.int .i64 o.kind, .int .i64 o.at', .int .i64 o.n, byteV o.byte, .slice o.kad o.keep.length o.kcap]
structure OpM.Fine (o : OpM) : Prop where
  kind : -9223372036854775808 ≤ o.kind ∧ o.kind ≤ 9223372036854775807
  at' : -9223372036854775808 ≤ o.at' ∧ o.at' ≤ 9223372036854775807
  n : -9223372036854775808 ≤ o.n ∧ o.n ≤ 9223372036854775807
  keeps : o.keep.length ≤ 9223372036854775807
  keep : ∀ x ∈ o.keep, -9223372036854775808 ≤ x ∧ x ≤ 9223372036854775807

def OpsIn (w : World) (v : Value) (ops : List OpM) : Prop :=
  ∃ ad cap, v = .slice ad ops.length cap ∧ (ops ≠ [] → ∃ b o, ad = some ⟨b, o, none⟩ ∧ ∀ i j u, i < ops.length → (ops.getD i default).row[j]? = some u → w.cell? ⟨b, o + i * 5 + j, none⟩ = some u) ∧
    ∀ k, k < ops.length → IntsIn w (.slice (ops.getD k default).kad (ops.getD k default).keep.length (ops.getD k default).kcap) (ops.getD k default).keep

theorem OpsIn.cells {w : World} {ad : Option Addr} {n cap : Nat} {ops : List OpM} (h : OpsIn w (.slice ad n cap) ops) {k : Nat} (hk : k < ops.length) :
    ∃ b o, ad = some ⟨b, o, none⟩ ∧ w.cell? ⟨b, o + k * 5, none⟩ = some (.int .i64 (ops.getD k default).kind) ∧ w.cell? ⟨b, o + k * 5 + 1, none⟩ = some (.int .i64 (ops.getD k default).at') ∧
      w.cell? ⟨b, o + k * 5 + 2, none⟩ = some (.int .i64 (ops.getD k default).n) ∧ w.cell? ⟨b, o + k * 5 + 3, none⟩ = some (byteV (ops.getD k default).byte) ∧
      w.cell? ⟨b, o + k * 5 + 4, none⟩ = some (.slice (ops.getD k default).kad (ops.getD k default).keep.length (ops.getD k default).kcap) := by
  obtain ⟨ad', cap', hv, hr, _⟩ := h
  simp only [Value.slice.injEq] at hv
  obtain ⟨rfl, _, _⟩ := hv
  obtain ⟨b, o, e, hc⟩ := hr (by intro e; simp [e] at hk)
  exact ⟨b, o, e, hc k 0 _ hk rfl, hc k 1 _ hk rfl, hc k 2 _ hk rfl, hc k 3 _ hk rfl, hc k 4 _ hk rfl⟩
theorem OpsIn.keep {w : World} {v : Value} {ops : List OpM} (h : OpsIn w v ops) {k : Nat} (hk : k < ops.length) :
    IntsIn w (.slice (ops.getD k default).kad (ops.getD k default).keep.length (ops.getD k default).kcap) (ops.getD k default).keep := by
  obtain ⟨ad', cap', hv, hr, h⟩ := h
  exact h k hk

end Go.Proofs.Ytaiobekochhemaa

/- Readings of arguments, with the bounds of their sizes; no condition. -/
namespace Go.Proofs.Ytaiobekochhemaa
open Go.RowKit Go.ChangeShapes Go.WideShapes Go.Deep

section
variable {H : Type} {enc : TypeId × Value → H} {P : Program} {W : World}

/-- The value v reads as something of type t, and is no greater than memory. -/
def TrodZ (enc : TypeId × Value → H) (P : Program) (W : World) (t : TypeId) (v : Value) : Prop :=
  ∃ fuel x, DataW.trod enc P W 0 (fun _ => true) true fuel t [v] = some x ∧ ∀ n ∈ x.1.weights P t, n ≤ reachBytes

theorem TrodZ.i64 {t : TypeId} {v : Value} (ht : P.underlying t = some (.int .i64)) (h : TrodZ enc P W t v) : ∃ z, v = .int .i64 z ∧ -9223372036854775808 ≤ z ∧ z ≤ 9223372036854775807 := by
  obtain ⟨_, _, h, _⟩ := h
  exact trod_i64 ht h
theorem TrodZ.u8 {t : TypeId} {v : Value} (ht : P.underlying t = some (.int .u8)) (h : TrodZ enc P W t v) : ∃ c, v = byteV c := by
  obtain ⟨_, _, h, _⟩ := h
  exact trod_u8 ht h
theorem TrodZ.str {t : TypeId} {v : Value} (ht : P.underlying t = some .string) (h : TrodZ enc P W t v) : ∃ s : ByteArray, v = .string s ∧ s.size ≤ reachBytes := by
  obtain ⟨_, x, h, hz⟩ := h
  obtain ⟨s, h1, rfl, _⟩ := DataW.trod_string ht h
  simp only [List.cons.injEq, and_true] at h1
  refine ⟨s, h1, ?_⟩
  have := hz s.data.toList.length (by simp [DataW.weights])
  simpa using this

theorem weightsAll_mem {e : TypeId} {n : Nat} : ∀ {l : List (DataW H)} {d : DataW H}, d ∈ l → n ∈ d.weights P e → n ∈ DataW.weightsAll P e l
  | _ :: _, _, .head _, h => List.mem_append_left _ h
  | _ :: _, _, .tail _ hm, h => List.mem_append_right _ (weightsAll_mem hm h)

/-- A slice, element by element: its cells, and their readings. -/
theorem TrodZ.slice {t e : TypeId} (ht : P.underlying t = some (.slice e)) {a : Option Addr} {len cap : Nat} (h : TrodZ enc P W t (.slice a len cap)) :
    len ≤ cap ∧ cap * P.bytesOf e ≤ reachBytes ∧ (a = none → len = 0 ∧ cap = 0) ∧ ∀ a', a = some a' → ∀ i, i < cap → ∃ n cs x, W.cells? 0 (a'.add (i * P.cellsOf e)) (P.cellsOf e) = some cs ∧ DataW.trod enc P W 0 (fun _ => true) true n e cs = some x ∧ ∀ n ∈ x.1.weights P e, n ≤ reachBytes := by
  obtain ⟨fuel, x, h, hz⟩ := h
  rcases open_slice ht h with ⟨hcs, _⟩ | ⟨a', len', cap', m, n, D, Pl, hcs, hb, hl, hm, hmm, rfl, hi⟩
  · simp only [List.cons.injEq, Value.slice.injEq, and_true] at hcs
    obtain ⟨rfl, rfl, rfl⟩ := hcs
    exact ⟨Nat.le_refl _, by simp, fun _ => ⟨rfl, rfl⟩, fun a' h => by cases h⟩
  · simp only [List.cons.injEq, Value.slice.injEq, and_true] at hcs
    obtain ⟨rfl, rfl, rfl⟩ := hcs
    simp only [if_true] at hmm
    subst hmm
    simp only [DataW.weights, ht, List.length_map, List.length_range, List.mem_cons, List.mem_append] at hz
    have h1 := hz _ (.inl rfl)
    rw [show len + (m - len) = m by omega] at h1
    refine ⟨hl, h1, (fun h => by cases h), fun a2 e2 i him => ?_⟩
    cases e2
    obtain ⟨cs, h2, h3⟩ := hi i him
    refine ⟨n, cs, _, h2, h3, fun k hk => hz k (.inr ?_)⟩
    by_cases hil : i < len
    · exact .inl (weightsAll_mem (List.mem_map.2 ⟨i, by simpa using hil, rfl⟩) hk)
    · exact .inr (weightsAll_mem (List.mem_map.2 ⟨i - len, by simp; omega, by rw [show len + (i - len) = i by omega]⟩) hk)

/-- A slice of structs whose fields are of one cell each, row by row. -/
theorem TrodZ.rows {t e : TypeId} {fs : Array Field} (ht : P.underlying t = some (.slice e)) (he : P.underlying e = some (.struct fs)) (hone : oneCellFields P fs = true) (hC : P.cellsOf e = fs.size) (hpos : 0 < fs.size)
    {a : Option Addr} {len cap : Nat} (h : TrodZ enc P W t (.slice a len cap)) :
    len * P.bytesOf e ≤ reachBytes ∧ ∃ rows : Nat → List Value, (0 < len → ∃ b o, a = some ⟨b, o, none⟩ ∧ b < W.heap.size ∧ ∀ i j, i < len → j < fs.size → W.cell? ⟨b, o + i * fs.size + j, none⟩ = (rows i)[j]?) ∧
      ∀ i, i < len → (rows i).length = fs.size ∧ ∀ (j : Nat) (f : Field), fs[j]? = some f → ∃ v, (rows i)[j]? = some v ∧ TrodZ enc P W f.type v := by
  obtain ⟨h1, h2, h3, h4⟩ := h.slice ht
  have h5 : len * P.bytesOf e ≤ reachBytes := Nat.le_trans (Nat.mul_le_mul_right _ h1) h2
  cases a with
  | none =>
    obtain ⟨rfl, rfl⟩ := h3 rfl
    exact ⟨h5, fun _ => [], fun h => absurd h (by omega), fun i h => absurd h (by omega)⟩
  | some a' =>
    have hall : ∀ i, i < len → ∃ r : List Value, r.length = fs.size ∧ (∀ j, j < fs.size → W.cell? (a'.add (i * fs.size + j)) = r[j]?) ∧ ∀ (j : Nat) (f : Field), fs[j]? = some f → ∃ v, r[j]? = some v ∧ TrodZ enc P W f.type v := by
      intro i hi
      obtain ⟨n, cs, x, hcs, hx, hz⟩ := h4 a' rfl i (by omega)
      rw [hC] at hcs
      obtain ⟨_, g2, g3⟩ := World.cells?_some hcs
      refine ⟨cs, g2, fun j hj => by rw [← add_add]; exact g3 j hj, fun j f hj => ?_⟩
      obtain ⟨ys, n', hn', rfl, hlen, hyl, hf⟩ := DataW.trod_struct he hx
      obtain ⟨ho, hk⟩ := hone_of hone j f hj
      have hjl : j < fs.size := (Array.getElem?_eq_some_iff.1 hj).1
      have g4 := hf j f hj
      rw [ho, hk] at g4
      have g5 : (cs.drop j).take 1 = [cs[j]'(by omega)] := by
        rw [List.drop_eq_getElem_cons (by omega)]
        rfl
      rw [g5, List.getElem?_eq_getElem (by omega)] at g4
      refine ⟨_, List.getElem?_eq_getElem (by omega), n', _, g4, fun k hk => hz k ?_⟩
      simp only [DataW.weights, he]
      refine DataW.weights_mem_each (j := j) (t := f.type) ?_ ?_ k hk
      · rw [List.getElem?_map, Array.getElem?_toList, hj]; rfl
      · rw [List.getElem?_map, List.getElem?_eq_getElem (by omega)]; rfl
    obtain ⟨rows, hr⟩ := choose_lt hall
    refine ⟨h5, rows, fun h0 => ?_, fun i hi => ⟨(hr i hi).1, (hr i hi).2.2⟩⟩
    obtain ⟨g1, g2, _⟩ := hr 0 h0
    have g3 := g2 0 hpos
    rw [List.getElem?_eq_getElem (by omega)] at g3
    have e0 : a'.add (0 * fs.size + 0) = a' := by simp [Addr.add]
    rw [e0] at g3
    have ex := addr_of_cell g3
    refine ⟨a'.block, a'.off, by rw [← ex], World.block_lt_of_cell? W a' g3, fun i j hi hj => ?_⟩
    have g4 := (hr i hi).2.1 j hj
    rw [ex, Addr.add_mid] at g4
    rw [← g4, Nat.add_assoc]

/-- A slice of elements of one cell each. -/
theorem TrodZ.cells {t e : TypeId} (ht : P.underlying t = some (.slice e)) (hC : P.cellsOf e = 1) {a : Option Addr} {len cap : Nat} (h : TrodZ enc P W t (.slice a len cap)) :
    len * P.bytesOf e ≤ reachBytes ∧ ∃ vs : List Value, vs.length = len ∧ (0 < len → ∃ b o, a = some ⟨b, o, none⟩ ∧ b < W.heap.size ∧ W.rangeAt b o vs) ∧ ∀ v ∈ vs, TrodZ enc P W e v := by
  obtain ⟨h1, h2, h3, h4⟩ := h.slice ht
  have h5 : len * P.bytesOf e ≤ reachBytes := Nat.le_trans (Nat.mul_le_mul_right _ h1) h2
  cases a with
  | none =>
    obtain ⟨rfl, rfl⟩ := h3 rfl
    exact ⟨h5, [], rfl, fun h => absurd h (by omega), fun v h => by cases h⟩
  | some a' =>
    have hall : ∀ i, i < len → ∃ v : Value, W.cell? (a'.add i) = some v ∧ TrodZ enc P W e v := by
      intro i hi
      obtain ⟨n, cs, x, hcs, hx, hz⟩ := h4 a' rfl i (by omega)
      rw [hC, Nat.mul_one] at hcs
      obtain ⟨_, g2, g3⟩ := World.cells?_some hcs
      obtain ⟨v, rfl⟩ : ∃ v, cs = [v] := by
        match cs, g2 with
        | [v], _ => exact ⟨v, rfl⟩
      have g4 := g3 0 (by omega)
      have e0 : ∀ a : Addr, a.add 0 = a := fun a => by simp [Addr.add]
      rw [e0] at g4
      exact ⟨v, g4, n, x, hx, hz⟩
    obtain ⟨f, hf⟩ := choose_lt hall
    refine ⟨h5, (List.range len).map f, by simp, fun h0 => ?_, fun v hv => ?_⟩
    · obtain ⟨g1, _⟩ := hf 0 h0
      have e0 : a'.add 0 = a' := by simp [Addr.add]
      rw [e0] at g1
      have ex := addr_of_cell g1
      refine ⟨a'.block, a'.off, by rw [← ex], World.block_lt_of_cell? W a' g1, fun j v hv => ?_⟩
      have hj : j < len := by have := (List.getElem?_eq_some_iff.1 hv).1; simpa using this
      have g2 := (hf j hj).1
      rw [ex, Addr.add_mid] at g2
      rw [g2]
      simpa [hj] using hv
    · obtain ⟨i, hi, rfl⟩ := List.mem_map.1 hv
      exact (hf i (by simpa using hi)).2
end

section
variable {H : Type} {enc : TypeId × Value → H} {W : World}
/-- The value v is a slice of the bytes l in the old memory. -/
theorem TrodZ.bytes {v : Value} {ad : Option Addr} {len cap : Nat} (hv : v = .slice ad len cap) (h : TrodZ enc Try.prog W 43 v) :
    ∃ l : List UInt8, l.length = len ∧ (Assn.old W.heap.size W).Tells (fun w => BytesIn w (.slice ad len cap) l) ∧ len ≤ 140737488351232 := by
  subst hv
  obtain ⟨h1, vs, rfl, h2, h3⟩ := h.cells (e := 5) Try.underlying43 (by kernel_rfl)
  rw [show Try.prog.bytesOf 5 = 1 from by kernel_rfl, Nat.mul_one] at h1
  have hall : ∀ i, i < vs.length → ∃ c : UInt8, vs[i]? = some (byteV c) := by
    intro i hi
    obtain ⟨c, hc⟩ := (h3 _ (List.getElem_mem hi)).u8 (by kernel_rfl)
    exact ⟨c, by rw [List.getElem?_eq_getElem hi, hc]⟩
  obtain ⟨f, hf⟩ := choose_lt hall
  have he : cellsV ((List.range vs.length).map f) = vs := by
    apply List.ext_getElem?
    intro i
    unfold cellsV
    by_cases hi : i < vs.length
    · rw [hf i hi]; simp [hi]
    · rw [List.getElem?_eq_none (by simp; omega), List.getElem?_eq_none (by omega)]
  refine ⟨(List.range vs.length).map f, by simp, fun w hw => ⟨ad, cap, by simp, fun hne => ?_⟩, by unfold reachBytes at h1; omega⟩
  have hpos : 0 < vs.length := by
    rcases Nat.eq_zero_or_pos vs.length with e | e
    · rw [e] at hne; simp at hne
    · exact e
  obtain ⟨b, o, ha, hb, hr⟩ := h2 hpos
  rw [he]
  exact ⟨b, o, ha, old_tells (p := fun w => w.rangeAt b o vs) (fun w hw => range_old hr hb hw) w hw⟩
/-- The value v is a slice of the integers l in the old memory. -/
theorem TrodZ.ints {v : Value} {ad : Option Addr} {len cap : Nat} (hv : v = .slice ad len cap) (h : TrodZ enc Try.prog W 49 v) :
    ∃ l : List Int, l.length = len ∧ (Assn.old W.heap.size W).Tells (fun w => IntsIn w (.slice ad len cap) l) ∧ len ≤ 140737488351232 ∧ ∀ x ∈ l, -9223372036854775808 ≤ x ∧ x ≤ 9223372036854775807 := by
  subst hv
  obtain ⟨h1, vs, rfl, h2, h3⟩ := h.cells (e := 3) Try.underlying49 (by kernel_rfl)
  rw [show Try.prog.bytesOf 3 = 8 from by kernel_rfl] at h1
  have hall : ∀ i, i < vs.length → ∃ c : Int, vs[i]? = some (.int .i64 c) ∧ -9223372036854775808 ≤ c ∧ c ≤ 9223372036854775807 := by
    intro i hi
    obtain ⟨c, hc, hb⟩ := (h3 _ (List.getElem_mem hi)).i64 (by kernel_rfl)
    exact ⟨c, by rw [List.getElem?_eq_getElem hi, hc], hb⟩
  obtain ⟨f, hf⟩ := choose_lt hall
  have he : ((List.range vs.length).map f).map (Value.int .i64) = vs := by
    apply List.ext_getElem?
    intro i
    by_cases hi : i < vs.length
    · rw [(hf i hi).1]; simp [hi]
    · rw [List.getElem?_eq_none (by simp; omega), List.getElem?_eq_none (by omega)]
  refine ⟨(List.range vs.length).map f, by simp, fun w hw => ⟨ad, cap, by simp, fun hne => ?_⟩, by unfold reachBytes at h1; omega, fun x hx => ?_⟩
  · have hpos : 0 < vs.length := by
      rcases Nat.eq_zero_or_pos vs.length with e | e
      · rw [e] at hne; simp at hne
      · exact e
    obtain ⟨b, o, ha, hb, hr⟩ := h2 hpos
    rw [he]
    exact ⟨b, o, ha, old_tells (p := fun w => w.rangeAt b o vs) (fun w hw => range_old hr hb hw) w hw⟩
  · obtain ⟨i, hi, rfl⟩ := List.mem_map.1 hx
    exact (hf i (by simpa using hi)).2
end

end Go.Proofs.Ytaiobekochhemaa

/- A slice of the space's calls (a kind, a number, bytes) that came in; no condition. -/
namespace Go.Proofs.Ytaiobekochhemaa
open Go.RowKit Go.ChangeShapes Go.WideShapes Go.Deep

structure TOpM where
  kind : Int
  n : Int
  b : List UInt8
  bad : Option Addr
  bcap : Nat
instance : Inhabited TOpM := ⟨⟨0, 0, [], none, 0⟩⟩
def TOpM.row (o : TOpM) : List Value := [.int .i64 o.kind, .int .i64 o.n, .slice o.bad o.b.length o.bcap]
structure TOpM.Fine (o : TOpM) : Prop where
  kind : -9223372036854775808 ≤ o.kind ∧ o.kind ≤ 9223372036854775807
  n : -9223372036854775808 ≤ o.n ∧ o.n ≤ 9223372036854775807
  b : o.b.length ≤ 140737488351232

def TOpsIn (w : World) (v : Value) (ops : List TOpM) : Prop :=
  ∃ ad cap, v = .slice ad ops.length cap ∧ (ops ≠ [] → ∃ b o, ad = some ⟨b, o, none⟩ ∧ ∀ i j u, i < ops.length → (ops.getD i default).row[j]? = some u → w.cell? ⟨b, o + i * 3 + j, none⟩ = some u) ∧
    ∀ k, k < ops.length → BytesIn w (.slice (ops.getD k default).bad (ops.getD k default).b.length (ops.getD k default).bcap) (ops.getD k default).b

theorem TOpsIn.cells {w : World} {ad : Option Addr} {n cap : Nat} {ops : List TOpM} (h : TOpsIn w (.slice ad n cap) ops) {k : Nat} (hk : k < ops.length) :
    ∃ b o, ad = some ⟨b, o, none⟩ ∧ w.cell? ⟨b, o + k * 3, none⟩ = some (.int .i64 (ops.getD k default).kind) ∧ w.cell? ⟨b, o + k * 3 + 1, none⟩ = some (.int .i64 (ops.getD k default).n) ∧
      w.cell? ⟨b, o + k * 3 + 2, none⟩ = some (.slice (ops.getD k default).bad (ops.getD k default).b.length (ops.getD k default).bcap) := by
  obtain ⟨ad', cap', hv, hr, _⟩ := h
  simp only [Value.slice.injEq] at hv
  obtain ⟨rfl, _, _⟩ := hv
  obtain ⟨b, o, e, hc⟩ := hr (by intro e; simp [e] at hk)
  exact ⟨b, o, e, hc k 0 _ hk rfl, hc k 1 _ hk rfl, hc k 2 _ hk rfl⟩
theorem TOpsIn.bytes {w : World} {v : Value} {ops : List TOpM} (h : TOpsIn w v ops) {k : Nat} (hk : k < ops.length) :
    BytesIn w (.slice (ops.getD k default).bad (ops.getD k default).b.length (ops.getD k default).bcap) (ops.getD k default).b := by
  obtain ⟨_, _, _, _, h⟩ := h
  exact h k hk

theorem row_tops {H : Type} {enc : TypeId × Value → H} {W : World} {a : Option Addr} {len cap : Nat} (h : TrodZ enc Try.prog W 78 (.slice a len cap)) :
    ∃ ops : List TOpM, ops.length = len ∧ (Assn.old W.heap.size W).Tells (fun w => TOpsIn w (.slice a len cap) ops) ∧ len ≤ 9223372036854775807 ∧ ∀ k, k < ops.length → (ops.getD k default).Fine := by
  obtain ⟨hm, rows, hcell, hrow⟩ := h.rows (e := 82) Try.underlying78 Try.underlying82 (by kernel_rfl) (by kernel_rfl) (by decide)
  have hby : 0 < Try.prog.bytesOf 82 := by decide +kernel
  have hlen : len ≤ 9223372036854775807 := by
    have := Nat.le_trans (Nat.le_mul_of_pos_right len hby) hm
    unfold reachBytes at this
    omega
  have hop : ∀ i, i < len → ∃ o : TOpM, rows i = o.row ∧ (Assn.old W.heap.size W).Tells (fun w => BytesIn w (.slice o.bad o.b.length o.bcap) o.b) ∧ o.Fine := by
    intro i hi
    obtain ⟨hl, hf⟩ := hrow i hi
    obtain ⟨v0, g0, h0⟩ := hf 0 _ rfl
    obtain ⟨v1, g1, h1⟩ := hf 1 _ rfl
    obtain ⟨v2, g2, h2⟩ := hf 2 _ rfl
    obtain ⟨z0, rfl, b0⟩ := h0.i64 (by kernel_rfl)
    obtain ⟨z1, rfl, b1⟩ := h1.i64 (by kernel_rfl)
    obtain ⟨ba, bl, bc, rfl⟩ : ∃ a l c, v2 = .slice a l c := by
      obtain ⟨_, _, hx, _⟩ := h2
      rcases open_slice Try.underlying43 hx with ⟨hcs, _⟩ | ⟨a', l', c', _, _, _, _, hcs, _⟩
      · simp only [List.cons.injEq, and_true] at hcs; exact ⟨_, _, _, hcs⟩
      · simp only [List.cons.injEq, and_true] at hcs; exact ⟨_, _, _, hcs⟩
    obtain ⟨l, rfl, ht, hb⟩ := TrodZ.bytes rfl h2
    refine ⟨⟨z0, z1, l, ba, bc⟩, ?_, ht, ⟨b0, b1, hb⟩⟩
    match hq : rows i, hl with
    | [u0, u1, u2], _ =>
      rw [hq] at g0 g1 g2
      simp only [List.getElem?_cons_zero, List.getElem?_cons_succ, Option.some.injEq] at g0 g1 g2
      subst g0; subst g1; subst g2
      rfl
  obtain ⟨f, hf⟩ := choose_lt hop
  have hget : ∀ i, i < len → ((List.range len).map f).getD i default = f i := by
    intro i hi
    simp [hi]
  refine ⟨(List.range len).map f, by simp, ?_, hlen, fun k hk => ?_⟩
  · intro w hw
    refine ⟨a, cap, by simp, fun hne => ?_, fun k hk => ?_⟩
    · have hpos : 0 < len := by
        rcases Nat.eq_zero_or_pos len with e | e
        · subst e; simp at hne
        · exact e
      obtain ⟨b, o, ha, hb, hc⟩ := hcell hpos
      refine ⟨b, o, ha, fun i j u hi hu => ?_⟩
      simp only [List.length_map, List.length_range] at hi
      rw [hget i hi] at hu
      have hj : j < 3 := by
        have := (List.getElem?_eq_some_iff.1 hu).1
        simpa [TOpM.row] using this
      have h1 := hc i j hi hj
      rw [(hf i hi).1, hu] at h1
      have h2 : w.rangeAt b (o + i * 3 + j) [u] := old_tells (p := fun w => w.rangeAt b (o + i * 3 + j) [u]) (fun w hw => range_old (fun j' v' hv' => by
        cases j' with
        | zero => simp only [List.getElem?_cons_zero, Option.some.injEq] at hv'; subst hv'; exact h1
        | succ n => simp at hv') hb hw) w hw
      exact h2 0 u rfl
    · simp only [List.length_map, List.length_range] at hk
      rw [hget k hk]
      exact (hf k hk).2.1 w hw
  · simp only [List.length_map, List.length_range] at hk
    rw [hget k hk]
    exact (hf k hk).2.2

end Go.Proofs.Ytaiobekochhemaa

/- Blocks and inodes are apart: what is written to one changes no other; rows of strings; no program in sight but their form. -/
namespace Go.Proofs.Ytaiobekochhemaa
open Go.RowKit Go.MapKept

def strsV (l : List (List UInt8)) : List Value := l.map strV
theorem Bears.strCell {w : World} {b : Nat} {l : List (List UInt8)} {t : TypeId} {R : Assn} (h : Bears w (Assn.obj b (.cells (strsV l).toArray t (0, 0)) * R)) {j : Nat} (hj : j < l.length) : w.cell? ⟨b, j, none⟩ = some (strV (l.getD j [])) := by
  rw [cell_of_obj h.obj]
  simp [strsV, hj]
theorem Bears.setStr {w : World} {b : Nat} {l : List (List UInt8)} {t : TypeId} {R : Assn} (h : Bears w (Assn.obj b (.cells (strsV l).toArray t (0, 0)) * R)) (j : Nat) (c : List UInt8) :
    Bears (w.setCell ⟨b, j, none⟩ (strV c)) (Assn.obj b (.cells (strsV (l.set j c)).toArray t (0, 0)) * R) :=
  (h.setCell (i := j) (strV c)).cast (by simp [strsV, List.map_set])

theorem inodeB_other {len m i : Nat} {G : Nat → Sec} {b : Sec} (h : iSec len m ≠ i) : inodeB len (updS G i b) m = inodeB len G m := by
  unfold inodeB updS
  rw [if_neg h]
theorem putAt_split {l b : Sec} {o : Nat} (h : o + b.length ≤ l.length) : putAt l o b = l.take o ++ b ++ l.drop (o + b.length) := rfl
theorem inodeB_set {len m j : Nat} {G : Nat → Sec} {b : Sec} (h64 : ∀ i, (G i).length = 64) (hb : b.length = 32) : inodeB len (updS G (iSec len m) (putAt (G (iSec len m)) (iAt m) b)) j = if j = m then b else inodeB len G j := by
  by_cases e : j = m
  · subst e
    rw [if_pos rfl]
    unfold inodeB updS
    rw [if_pos rfl]
    have hat : iAt j = 0 ∨ iAt j = 32 := by unfold iAt; omega
    have hl := h64 (iSec len j)
    have hpl : (putAt (G (iSec len j)) (iAt j) b).length = 64 := putAt64 hl (by omega)
    apply List.ext_getElem?
    intro i
    rw [List.getElem?_take, List.getElem?_drop]
    by_cases hi : i < 32
    · rw [if_pos hi]
      unfold putAt
      rw [List.append_assoc, List.getElem?_append_right (by simp; omega), List.length_take, Nat.min_eq_left (by omega), Nat.add_sub_cancel_left, List.getElem?_append_left (by omega)]
    · rw [if_neg hi, List.getElem?_eq_none (by omega)]
  · rw [if_neg e]
    by_cases es : iSec len j = iSec len m
    · unfold inodeB updS
      rw [if_pos es, es]
      have h1 : iAt j = 0 ∧ iAt m = 32 ∨ iAt j = 32 ∧ iAt m = 0 := by unfold iSec at es; unfold iAt; omega
      have hl := h64 (iSec len m)
      unfold putAt
      rcases h1 with ⟨h1, h2⟩ | ⟨h1, h2⟩
      · rw [h1, h2, List.drop_zero, List.drop_zero, List.append_assoc, List.take_append_of_le_length (by simp [hl])]
        rw [List.take_take, Nat.min_self]
      · rw [h1, h2, List.take_zero, List.nil_append, List.drop_append, List.drop_of_length_le (by omega), List.nil_append, hb, List.drop_drop]
    · exact inodeB_other es
theorem siN_ok {len m : Nat} {G : Nat → Sec} {b : Sec} (hb : b.length = 32) : siN len G m b = (0, updS G (iSec len m) (putAt (G (iSec len m)) (iAt m) b)) := by unfold siN; rw [if_pos hb]
theorem wrN_ok {m : Nat} {G : Nat → Sec} {b : Sec} (hb : b.length = 64) : wrN G m b = (0, updS G m b) := by unfold wrN; rw [if_pos hb]

/-- Three blocks and three inodes. -/
structure Apart3 (G : Nat → Sec) (bs is : List (List UInt8)) : Prop where
  g64 : ∀ i, (G i).length = 64
  lb : bs.length = 3
  li : is.length = 3
  bit : ∀ j, j < 3 → bitN G (751 + j) = true
  blk : ∀ j, j < 3 → G (751 + j) = bs.getD j []
  ino : ∀ j, j < 3 → inodeB 1024 G (10 + j) = is.getD j []
theorem getD_set3 {l : List (List UInt8)} {k j : Nat} {b : List UInt8} (hl : l.length = 3) (hj : j < 3) : (l.set k b).getD j [] = if j = k then b else l.getD j [] := by
  by_cases e : j = k
  · subst e; rw [if_pos rfl, List.getD_eq_getElem?_getD, List.getElem?_set_self (by omega)]; rfl
  · rw [if_neg e, List.getD_eq_getElem?_getD, List.getElem?_set_ne (Ne.symm e), ← List.getD_eq_getElem?_getD]
theorem Apart3.write {G : Nat → Sec} {bs is : List (List UInt8)} (h : Apart3 G bs is) {k : Nat} (hk : k < 3) {b : List UInt8} (hb : b.length = 64) : Apart3 (updS G (751 + k) b) (bs.set k b) is := by
  refine ⟨upd64 h.g64 _ hb, by rw [List.length_set, h.lb], h.li, fun j hj => ?_, fun j hj => ?_, fun j hj => ?_⟩
  · rw [bitN_other (by omega), h.bit j hj]
  · rw [getD_set3 h.lb hj]
    unfold updS
    by_cases e : j = k
    · subst e; rw [if_pos rfl, if_pos rfl]
    · rw [if_neg (by omega), if_neg e, h.blk j hj]
  · rw [inodeB_other (by unfold iSec mapsN; omega), h.ino j hj]
theorem Apart3.inode {G : Nat → Sec} {bs is : List (List UInt8)} (h : Apart3 G bs is) {k : Nat} (hk : k < 3) {b : List UInt8} (hb : b.length = 32) : Apart3 (siN 1024 G (10 + k) b).2 bs (is.set k b) := by
  have hs : iSec 1024 (10 + k) = 623 + (10 + k) / 2 := by unfold iSec mapsN; omega
  have hat : iAt (10 + k) = 0 ∨ iAt (10 + k) = 32 := by unfold iAt; omega
  rw [siN_ok hb]
  refine ⟨upd64 h.g64 _ (putAt64 (h.g64 _) (by omega)), h.lb, by rw [List.length_set, h.li], fun j hj => ?_, fun j hj => ?_, fun j hj => ?_⟩
  · rw [bitN_other (by rw [hs]; omega), h.bit j hj]
  · show updS G _ _ _ = _
    unfold updS
    rw [if_neg (by rw [hs]; omega), h.blk j hj]
  · show inodeB 1024 (updS G _ _) _ = _
    rw [inodeB_set h.g64 hb, getD_set3 h.li hj]
    by_cases e : j = k
    · rw [if_pos (by omega), if_pos e]
    · rw [if_neg (by omega), if_neg e, h.ino j hj]
theorem Apart3.chk {G : Nat → Sec} {bs is : List (List UInt8)} (h : Apart3 G bs is) {k : Nat} (hk : k < 3) : chkN 1024 G ((751 + k : Nat) : Int) = 0 :=
  chk_used (n := 751 + k) (by rw [firstB1024]; omega) (by omega) (h.bit k hk)
theorem Apart3.reads {g : Nat} {op : Bool} {F G : Nat → Sec} {bs is : List (List UInt8)} (h : Apart3 G bs is) {k : Nat} (hk : k < 3) : SpM.read 1024 ⟨g, op, F, G⟩ ((751 + k : Nat) : Int) = ⟨0, bs.getD k [], 0⟩ := by
  unfold SpM.read
  rw [if_pos (h.chk hk)]
  simp only [Int.toNat_natCast, h.blk k hk]
theorem Apart3.inodes {g : Nat} {op : Bool} {F G : Nat → Sec} {bs is : List (List UInt8)} (h : Apart3 G bs is) {k : Nat} (hk : k < 3) : SpM.inode 1024 ⟨g, op, F, G⟩ ((10 + k : Nat) : Int) = ⟨0, is.getD k [], 0⟩ := by
  unfold SpM.inode
  rw [if_neg (by omega)]
  simp only [Int.toNat_natCast, h.ino k hk]
theorem Apart3.writes {g : Nat} {F G : Nat → Sec} {bs is : List (List UInt8)} (h : Apart3 G bs is) {k : Nat} (hk : k < 3) {b : List UInt8} (hb : b.length = 64) : SpM.write 1024 ⟨g, true, F, G⟩ ((751 + k : Nat) : Int) b = (⟨0, [], 0⟩, ⟨g, true, F, updS G (751 + k) b⟩) := by
  unfold SpM.write
  simp only [if_true, if_pos (h.chk hk), Int.toNat_natCast, wrN_ok hb]
theorem Apart3.sets {g : Nat} {F G : Nat → Sec} {k : Nat} (hk : k < 3) {b : List UInt8} (hb : b.length = 32) : SpM.setInode 1024 ⟨g, true, F, G⟩ ((10 + k : Nat) : Int) b = (⟨0, [], 0⟩, ⟨g, true, F, (siN 1024 G (10 + k) b).2⟩) := by
  unfold SpM.setInode
  rw [if_pos rfl, if_neg (by omega)]
  simp only [Int.toNat_natCast, siN_ok hb]

theorem inodeB_fresh (j n m : Nat) (hj : iSec n m ≠ 0) : inodeB n (freshF j) m = List.replicate 32 0 := by
  unfold inodeB
  rw [freshF_other hj]
  have hat : iAt m = 0 ∨ iAt m = 32 := by unfold iAt; omega
  rcases hat with e | e <;> rw [e] <;> rfl

/-- Behind i of three blocks that are taken. -/
structure Start3 (i : Nat) (G : Nat → Sec) : Prop where
  took : Took G (fun j => decide (j < i))
  blk : ∀ j, j < i → G (751 + j) = zeroSec
  ino : ∀ j, j < 256 → inodeB 1024 G j = List.replicate 32 0
theorem iSec1024 (m : Nat) : iSec 1024 m = 623 + m / 2 := by unfold iSec mapsN; omega
theorem Start3.fresh : Start3 0 (freshF 1024) := ⟨Took.fresh.congr (fun j _ => by simp), fun j h => absurd h (by omega), fun j _ => inodeB_fresh _ _ _ (by rw [iSec1024]; omega)⟩
theorem Start3.next {i : Nat} {G : Nat → Sec} (h : Start3 i G) (hi : i < 3) : Start3 (i + 1) (allocG G (751 + i)) := by
  refine ⟨(h.took.alloc (by omega)).congr (fun j _ => by rw [Bool.eq_iff_iff]; simp; omega), fun j hj => ?_, fun j hj => ?_⟩
  · unfold allocG updS
    by_cases e : j = i
    · subst e; rw [if_pos rfl]
    · rw [if_neg (by omega), if_neg (by omega), h.blk j (by omega)]
  · unfold allocG
    rw [inodeB_other (by rw [iSec1024]; omega), inodeB_other (by rw [iSec1024]; omega), h.ino j hj]
theorem Start3.apart {G : Nat → Sec} (h : Start3 3 G) : Apart3 G [zeroSec, zeroSec, zeroSec] [List.replicate 32 0, List.replicate 32 0, List.replicate 32 0] := by
  refine ⟨h.took.g64, rfl, rfl, fun j hj => by rw [h.took.at (by omega)]; simpa using hj, fun j hj => ?_, fun j hj => ?_⟩
  · rw [h.blk j hj]
    match j, hj with
    | 0, _ | 1, _ | 2, _ => rfl
  · rw [h.ino (10 + j) (by omega)]
    match j, hj with
    | 0, _ | 1, _ | 2, _ => rfl
/-- The numbers of the blocks, as far as they are known. -/
def nsL (i : Nat) : List Int := [if 0 < i then 751 else 0, if 1 < i then 752 else 0, if 2 < i then 753 else 0]
theorem nsL_set {i : Nat} (h : i < 3) : (nsL i).set i (751 + (i : Int)) = nsL (i + 1) := by
  match i, h with
  | 0, _ | 1, _ | 2, _ => rfl
theorem nsL_at {j : Nat} (h : j < 3) : (nsL 3).getD j 0 = ((751 + j : Nat) : Int) := by
  match j, h with
  | 0, _ | 1, _ | 2, _ => rfl
def zsL (z : List UInt8) (i : Nat) : List (List UInt8) := [if 0 < i then z else [], if 1 < i then z else [], if 2 < i then z else []]
theorem zsL_set {z : List UInt8} {i : Nat} (h : i < 3) : (zsL z i).set i z = zsL z (i + 1) := by
  match i, h with
  | 0, _ | 1, _ | 2, _ => rfl
theorem nsL_length (i : Nat) : (nsL i).length = 3 := rfl
theorem zsL_length (z : List UInt8) (i : Nat) : (zsL z i).length = 3 := rfl
theorem Bears.intCell {w : World} {b : Nat} {l : List Int} {t : TypeId} {R : Assn} (h : Bears w (Assn.obj b (.cells (l.map (Value.int .i64)).toArray t (0, 0)) * R)) {j : Nat} (hj : j < l.length) : w.cell? ⟨b, j, none⟩ = some (.int .i64 (l.getD j 0)) := by
  rw [cell_of_obj h.obj]
  simp [hj]
theorem Bears.setInt {w : World} {b : Nat} {l : List Int} {t : TypeId} {R : Assn} (h : Bears w (Assn.obj b (.cells (l.map (Value.int .i64)).toArray t (0, 0)) * R)) (j : Nat) (c : Int) :
    Bears (w.setCell ⟨b, j, none⟩ (.int .i64 c)) (Assn.obj b (.cells ((l.set j c).map (Value.int .i64)).toArray t (0, 0)) * R) :=
  (h.setCell (i := j) (.int .i64 c)).cast (by simp [List.map_set])

end Go.Proofs.Ytaiobekochhemaa
