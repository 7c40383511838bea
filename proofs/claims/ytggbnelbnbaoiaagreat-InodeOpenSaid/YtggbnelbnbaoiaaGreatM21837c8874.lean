/- Texts of this claim, put together: RowB, Ops, OpsZ, FOps, IGapsM, IOpenW, Arr2; no condition. -/
import Derived.Test.YtggbnelbnbaoiaaGreatM8be35c5466
import Derived.Test.YtggbnelbnbaoiaaGreatChecked
import Derived.Deep.Slices
import Derived.Deep.Fields
import Derived.SizedLaws
import Derived.ChangeMaps5

set_option linter.unusedSimpArgs false
set_option linter.unusedVariables false

/- From the readings of a row to what a walk is told of its slices; no condition. -/
namespace Go.Proofs.YtggbnelbnbaoiaaGreat
open Go.RowKit

theorem old_tells {W : World} {p : World → Prop} (h : ∀ w, (∀ b, b < W.heap.size → w.heap[b]? = W.heap[b]?) → p w) : (Assn.old W.heap.size W).Tells p := by
  rintro w ⟨F, rfl, h0, _, _, _, h4⟩
  exact h w h4

/-- The form in which a slice of integers comes in. -/
abbrev RowIn (k : IntKind) (w : World) (a : Option Addr) (len cap : Nat) (zs : List Int) : Prop :=
  (a = none ∧ len = 0 ∧ cap = 0 ∧ zs = []) ∨
  ∃ x, a = some x ∧ len ≤ cap ∧ cap ≤ maxLen ∧ zs.length = cap ∧ (∀ i, i < zs.length → w.cell? (x.add i) = some (.int k (zs.getD i 0))) ∧ ∀ n ∈ zs, (Lit.int k n).wf = true

theorem addr_of_cell {w : World} {x : Addr} {v : Value} (h : w.cell? x = some v) : x = ⟨x.block, x.off, none⟩ := by
  unfold World.cell? at h
  split at h
  · cases hs : x.spot with
    | none => cases x; simp_all
    | some s => simp [hs] at h
  · cases h

theorem row_range {k : IntKind} {W : World} {a : Option Addr} {len cap : Nat} {zs : List Int} (h : RowIn k W a len cap zs) (hl : 0 < len) :
    ∃ b o, a = some ⟨b, o, none⟩ ∧ b < W.heap.size ∧ W.rangeAt b o ((zs.take len).map (Value.int k)) := by
  rcases h with ⟨_, h0, _⟩ | ⟨x, rfl, hlc, _, hz, hc, _⟩
  · omega
  · have h0 := hc 0 (by omega)
    have e0 : x.add 0 = x := by simp [Addr.add]
    rw [e0] at h0
    have ex := addr_of_cell h0
    refine ⟨x.block, x.off, by rw [← ex], World.block_lt_of_cell? W x h0, fun j v hv => ?_⟩
    rw [List.getElem?_map, List.getElem?_take] at hv
    split at hv
    · rename_i hj
      have hj' : j < zs.length := by omega
      have := hc j hj'
      rw [ex, Addr.add_mid] at this
      rw [this]
      rw [List.getElem?_eq_getElem hj'] at hv
      simp only [Option.map_some, Option.some.injEq] at hv
      rw [← hv, List.getD_eq_getElem?_getD, List.getElem?_eq_getElem hj']
      rfl
    · cases hv

theorem range_old {W w : World} {b o : Nat} {cs : List Value} (h : W.rangeAt b o cs) (hb : b < W.heap.size) (hw : ∀ b, b < W.heap.size → w.heap[b]? = W.heap[b]?) : w.rangeAt b o cs :=
  rangeAt_block h (hw b hb)

theorem row_bytes {W : World} {a : Option Addr} {len cap : Nat} {zs : List Int} (h : RowIn .u8 W a len cap zs) :
    ∃ l : List UInt8, l.length = len ∧ (Assn.old W.heap.size W).Tells (fun w => BytesIn w (.slice a len cap) l) ∧ len ≤ 9223372036854775807 := by
  have hlen : (zs.take len).length = len ∧ len ≤ 9223372036854775807 := by
    rcases h with ⟨_, rfl, _, rfl⟩ | ⟨x, _, hlc, hm, hz, _, _⟩
    · simp
    · unfold maxLen at hm
      simp; omega
  have hwf : ∀ n ∈ zs.take len, 0 ≤ n ∧ n ≤ 255 := by
    intro n hn
    rcases h with ⟨_, _, _, rfl⟩ | ⟨x, _, _, _, _, _, hw⟩
    · simp at hn
    · have := hw n (List.mem_of_mem_take hn)
      simp [Lit.wf, IntKind.min, IntKind.max, IntKind.signed, IntKind.bits] at this
      omega
  refine ⟨(zs.take len).map (fun n => UInt8.ofNat n.toNat), by simpa using hlen.1, old_tells (fun w hw => ?_), hlen.2⟩
  have hl2 : ((zs.take len).map (fun n => UInt8.ofNat n.toNat)).length = len := by simpa using hlen.1
  refine ⟨a, cap, by rw [hl2], fun hne => ?_⟩
  have hpos : 0 < len := by rw [← hl2]; exact List.length_pos_iff.2 hne
  obtain ⟨b, o, ha, hb, hr⟩ := row_range h hpos
  refine ⟨b, o, ha, ?_⟩
  have e : cellsV ((zs.take len).map (fun n => UInt8.ofNat n.toNat)) = (zs.take len).map (Value.int .u8) := by
    unfold cellsV
    rw [List.map_map]
    refine List.map_congr_left (fun n hn => ?_)
    have := hwf n hn
    simp only [Function.comp_apply, byteV]
    congr 1
    rw [UInt8.toNat_ofNat_of_lt' (by show n.toNat < 256; omega)]
    omega
  rw [e]
  exact range_old hr hb hw

theorem row_ints {W : World} {a : Option Addr} {len cap : Nat} {zs : List Int} (h : RowIn .i64 W a len cap zs) :
    ∃ l : List Int, l.length = len ∧ (Assn.old W.heap.size W).Tells (fun w => IntsIn w (.slice a len cap) l) ∧ len ≤ 9223372036854775807 ∧ ∀ x ∈ l, -9223372036854775808 ≤ x ∧ x ≤ 9223372036854775807 := by
  have hlen : (zs.take len).length = len ∧ len ≤ 9223372036854775807 := by
    rcases h with ⟨_, rfl, _, rfl⟩ | ⟨x, _, hlc, hm, hz, _, _⟩
    · simp
    · unfold maxLen at hm
      simp; omega
  refine ⟨zs.take len, hlen.1, old_tells (fun w hw => ?_), hlen.2, fun n hn => ?_⟩
  · refine ⟨a, cap, by rw [hlen.1], fun hne => ?_⟩
    have hpos : 0 < len := by rw [← hlen.1]; exact List.length_pos_iff.2 hne
    obtain ⟨b, o, ha, hb, hr⟩ := row_range h hpos
    exact ⟨b, o, ha, range_old hr hb hw⟩
  · rcases h with ⟨_, _, _, rfl⟩ | ⟨x, _, _, _, _, _, hw⟩
    · simp at hn
    · have := hw n (List.mem_of_mem_take hn)
      simp [Lit.wf, IntKind.min, IntKind.max, IntKind.signed, IntKind.bits] at this
      omega

theorem old_below {W w' : World} (h : Bears w' (Assn.old W.heap.size W)) : Below W.heap.size W w' := by
  obtain ⟨F, rfl, h0, h1, h2, h3, h4⟩ := h
  exact ⟨h1, h2, h3, h0, h4⟩

end Go.Proofs.YtggbnelbnbaoiaaGreat

/- A slice of calls (structs of five cells) that came in: its cells; no condition. -/
namespace Go.Proofs.YtggbnelbnbaoiaaGreat
open Go.RowKit Go.ChangeShapes Go.WideShapes Go.Deep

section
variable {H : Type} {enc : TypeId × Value → H} {P : Program} {W : World} {spare : Nat → Bool} {held : Bool}

/-- The cells of a slice of structs whose fields are of one cell each, row by row. -/
theorem trod_rows {t e : TypeId} {fs : Array Field} (ht : P.underlying t = some (.slice e)) (he : P.underlying e = some (.struct fs)) (hone : oneCellFields P fs = true) (hC : P.cellsOf e = fs.size) (hpos : 0 < fs.size)
    {a : Option Addr} {len cap fuel : Nat} {x : DataW H × List MemPlace} (h : DataW.trod enc P W 0 spare held fuel t [.slice a len cap] = some x) :
    len ≤ maxLen ∧ ∃ rows : Nat → List Value, (0 < len → ∃ b o, a = some ⟨b, o, none⟩ ∧ b < W.heap.size ∧ ∀ i j, i < len → j < fs.size → W.cell? ⟨b, o + i * fs.size + j, none⟩ = (rows i)[j]?) ∧
      ∀ i, i < len → (rows i).length = fs.size ∧ ∀ (j : Nat) (f : Field), fs[j]? = some f → ∃ v n y, (rows i)[j]? = some v ∧ DataW.trod enc P W 0 spare held n f.type [v] = some y := by
  rcases open_slice ht h with ⟨hcs, _⟩ | ⟨a', len', cap', m, n, D, Pl, hcs, hb, hl, hm, hmm, hx, hi⟩
  · simp only [List.cons.injEq, Value.slice.injEq, and_true] at hcs
    obtain ⟨_, rfl, _⟩ := hcs
    exact ⟨by omega, fun _ => [], fun h => absurd h (by omega), fun i h => absurd h (by omega)⟩
  · simp only [List.cons.injEq, Value.slice.injEq, and_true] at hcs
    obtain ⟨rfl, rfl, rfl⟩ := hcs
    have hlm : len ≤ m := by rw [hmm]; split <;> omega
    obtain ⟨rows, hr⟩ := choose_lt hi
    have hrow : ∀ i, i < len → (rows i).length = fs.size ∧ ∀ j, j < fs.size → W.cell? (a'.add (i * fs.size + j)) = (rows i)[j]? := by
      intro i hi
      obtain ⟨h1, _⟩ := hr i (by omega)
      rw [hC] at h1
      obtain ⟨_, h2, h3⟩ := World.cells?_some h1
      exact ⟨h2, fun j hj => by rw [← add_add]; exact h3 j hj⟩
    refine ⟨by omega, rows, fun h0 => ?_, fun i hi => ⟨(hrow i hi).1, fun j f hj => ?_⟩⟩
    · obtain ⟨h1, h2⟩ := hrow 0 h0
      have h3 := h2 0 hpos
      rw [List.getElem?_eq_getElem (by omega)] at h3
      have e0 : a'.add (0 * fs.size + 0) = a' := by simp [Addr.add]
      rw [e0] at h3
      have ex := addr_of_cell h3
      refine ⟨a'.block, a'.off, by rw [← ex], World.block_lt_of_cell? W a' h3, fun i j hi hj => ?_⟩
      have h4 := (hrow i hi).2 j hj
      rw [ex, Addr.add_mid] at h4
      rw [← h4, Nat.add_assoc]
    · obtain ⟨hcl, h2⟩ := hrow i hi
      obtain ⟨_, h1⟩ := hr i (by omega)
      obtain ⟨ys, n', hn', hy, hlen, hyl, hf⟩ := DataW.trod_struct he h1
      obtain ⟨ho, hk⟩ := hone_of hone j f hj
      have hjl : j < fs.size := (Array.getElem?_eq_some_iff.1 hj).1
      have h4 := hf j f hj
      rw [ho, hk] at h4
      have h5 : ((rows i).drop j).take 1 = [(rows i)[j]'(by omega)] := by
        rw [List.drop_eq_getElem_cons (by omega)]
        rfl
      rw [h5, List.getElem?_eq_getElem (by omega)] at h4
      exact ⟨_, _, _, List.getElem?_eq_getElem (by omega), h4⟩

theorem trod_i64 {t : TypeId} {v : Value} {n : Nat} {y : DataW H × List MemPlace} (ht : P.underlying t = some (.int .i64)) (h : DataW.trod enc P W 0 spare held n t [v] = some y) :
    ∃ z, v = .int .i64 z ∧ -9223372036854775808 ≤ z ∧ z ≤ 9223372036854775807 := by
  obtain ⟨z, h1, _, h2⟩ := DataW.trod_int ht h
  simp only [List.cons.injEq, and_true] at h1
  simp [Lit.wf, IntKind.min, IntKind.max, IntKind.signed, IntKind.bits] at h2
  exact ⟨z, h1, by omega, by omega⟩
theorem trod_u8 {t : TypeId} {v : Value} {n : Nat} {y : DataW H × List MemPlace} (ht : P.underlying t = some (.int .u8)) (h : DataW.trod enc P W 0 spare held n t [v] = some y) : ∃ c, v = byteV c := by
  obtain ⟨z, h1, _, h2⟩ := DataW.trod_int ht h
  simp only [List.cons.injEq, and_true] at h1
  simp [Lit.wf, IntKind.min, IntKind.max, IntKind.signed, IntKind.bits] at h2
  refine ⟨UInt8.ofNat z.toNat, ?_⟩
  rw [h1]
  unfold byteV
  congr 1
  rw [UInt8.toNat_ofNat_of_lt' (by show z.toNat < 256; omega)]
  omega
theorem trod_row {t e : TypeId} {k : IntKind} {v : Value} {n : Nat} {y : DataW H × List MemPlace} (ht : P.underlying t = some (.slice e)) (he : P.underlying e = some (.int k)) (hc : P.cellsOf e = 1)
    (h : DataW.trod enc P W 0 (fun _ => true) held n t [v] = some y) : ∃ a len cap zs, v = .slice a len cap ∧ RowIn k W a len cap zs := by
  rcases open_ints ht he hc h with ⟨hcs, _⟩ | ⟨x, l, c, zs, hcs, _, hl, hm, hz, _, hcell, hwz⟩
  · simp only [List.cons.injEq, and_true] at hcs
    exact ⟨none, 0, 0, [], hcs, .inl ⟨rfl, rfl, rfl, rfl⟩⟩
  · simp only [List.cons.injEq, and_true] at hcs
    exact ⟨_, _, _, zs, hcs, .inr ⟨_, rfl, hl, hm, by simpa using hz, hcell, hwz⟩⟩
end

/-- A call of the disk's laws. -/
structure OpM where
  kind : Int
  at' : Int
  n : Int
  byte : UInt8
  kad : Option Addr
  kcap : Nat
  keep : List Int
instance : Inhabited OpM := ⟨⟨0, 0, 0, 0, none, 0, []⟩⟩
def OpM.row (o : OpM) : List Value := [.int .i64 o.kind, .int .i64 o.at', .int .i64 o.n, byteV o.byte, .slice o.kad o.keep.length o.kcap]
structure OpM.Fine (o : OpM) : Prop where
  kind : -9223372036854775808 ≤ o.kind ∧ o.kind ≤ 9223372036854775807
  at' : -9223372036854775808 ≤ o.at' ∧ o.at' ≤ 9223372036854775807
  n : -9223372036854775808 ≤ o.n ∧ o.n ≤ 9223372036854775807
  keeps : o.keep.length ≤ 9223372036854775807
  keep : ∀ x ∈ o.keep, -9223372036854775808 ≤ x ∧ x ≤ 9223372036854775807

def OpsIn (w : World) (v : Value) (ops : List OpM) : Prop :=
  ∃ ad cap, v = .slice ad ops.length cap ∧ (ops ≠ [] → ∃ b o, ad = some ⟨b, o, none⟩ ∧ ∀ i j u, i < ops.length → (ops.getD i default).row[j]? = some u → w.cell? ⟨b, o + i * 5 + j, none⟩ = some u) ∧
    ∀ k, k < ops.length → IntsIn w (.slice (ops.getD k default).kad (ops.getD k default).keep.length (ops.getD k default).kcap) (ops.getD k default).keep

theorem OpsIn.cells {w : World} {ad : Option Addr} {n cap : Nat} {ops : List OpM} (h : OpsIn w (.slice ad n cap) ops) {k : Nat} (hk : k < ops.length) :
    ∃ b o, ad = some ⟨b, o, none⟩ ∧ w.cell? ⟨b, o + k * 5, none⟩ = some (.int .i64 (ops.getD k default).kind) ∧ w.cell? ⟨b, o + k * 5 + 1, none⟩ = some (.int .i64 (ops.getD k default).at') ∧
      w.cell? ⟨b, o + k * 5 + 2, none⟩ = some (.int .i64 (ops.getD k default).n) ∧ w.cell? ⟨b, o + k * 5 + 3, none⟩ = some (byteV (ops.getD k default).byte) ∧
      w.cell? ⟨b, o + k * 5 + 4, none⟩ = some (.slice (ops.getD k default).kad (ops.getD k default).keep.length (ops.getD k default).kcap) := by
  obtain ⟨ad', cap', hv, hr, _⟩ := h
  simp only [Value.slice.injEq] at hv
  obtain ⟨rfl, _, _⟩ := hv
  obtain ⟨b, o, e, hc⟩ := hr (by intro e; simp [e] at hk)
  exact ⟨b, o, e, hc k 0 _ hk rfl, hc k 1 _ hk rfl, hc k 2 _ hk rfl, hc k 3 _ hk rfl, hc k 4 _ hk rfl⟩
theorem OpsIn.keep {w : World} {v : Value} {ops : List OpM} (h : OpsIn w v ops) {k : Nat} (hk : k < ops.length) :
    IntsIn w (.slice (ops.getD k default).kad (ops.getD k default).keep.length (ops.getD k default).kcap) (ops.getD k default).keep := by
  obtain ⟨ad', cap', hv, hr, h⟩ := h
  exact h k hk

end Go.Proofs.YtggbnelbnbaoiaaGreat

/- Readings of arguments, with the bounds of their sizes; no condition. -/
namespace Go.Proofs.YtggbnelbnbaoiaaGreat
open Go.RowKit Go.ChangeShapes Go.WideShapes Go.Deep

section
variable {H : Type} {enc : TypeId × Value → H} {P : Program} {W : World}

/-- The value v reads as something of type t, and is no greater than memory. -/
def TrodZ (enc : TypeId × Value → H) (P : Program) (W : World) (t : TypeId) (v : Value) : Prop :=
  ∃ fuel x, DataW.trod enc P W 0 (fun _ => true) true fuel t [v] = some x ∧ ∀ n ∈ x.1.weights P t, n ≤ reachBytes

theorem TrodZ.i64 {t : TypeId} {v : Value} (ht : P.underlying t = some (.int .i64)) (h : TrodZ enc P W t v) : ∃ z, v = .int .i64 z ∧ -9223372036854775808 ≤ z ∧ z ≤ 9223372036854775807 := by
  obtain ⟨_, _, h, _⟩ := h
  exact trod_i64 ht h
theorem TrodZ.u8 {t : TypeId} {v : Value} (ht : P.underlying t = some (.int .u8)) (h : TrodZ enc P W t v) : ∃ c, v = byteV c := by
  obtain ⟨_, _, h, _⟩ := h
  exact trod_u8 ht h
theorem TrodZ.str {t : TypeId} {v : Value} (ht : P.underlying t = some .string) (h : TrodZ enc P W t v) : ∃ s : ByteArray, v = .string s ∧ s.size ≤ reachBytes := by
  obtain ⟨_, x, h, hz⟩ := h
  obtain ⟨s, h1, rfl, _⟩ := DataW.trod_string ht h
  simp only [List.cons.injEq, and_true] at h1
  refine ⟨s, h1, ?_⟩
  have := hz s.data.toList.length (by simp [DataW.weights])
  simpa using this

theorem weightsAll_mem {e : TypeId} {n : Nat} : ∀ {l : List (DataW H)} {d : DataW H}, d ∈ l → n ∈ d.weights P e → n ∈ DataW.weightsAll P e l
  | _ :: _, _, .head _, h => List.mem_append_left _ h
  | _ :: _, _, .tail _ hm, h => List.mem_append_right _ (weightsAll_mem hm h)

/-- A slice, element by element: its cells, and their readings. -/
theorem TrodZ.slice {t e : TypeId} (ht : P.underlying t = some (.slice e)) {a : Option Addr} {len cap : Nat} (h : TrodZ enc P W t (.slice a len cap)) :
    len ≤ cap ∧ cap * P.bytesOf e ≤ reachBytes ∧ (a = none → len = 0 ∧ cap = 0) ∧ ∀ a', a = some a' → ∀ i, i < cap → ∃ n cs x, W.cells? 0 (a'.add (i * P.cellsOf e)) (P.cellsOf e) = some cs ∧ DataW.trod enc P W 0 (fun _ => true) true n e cs = some x ∧ ∀ n ∈ x.1.weights P e, n ≤ reachBytes := by
  obtain ⟨fuel, x, h, hz⟩ := h
  rcases open_slice ht h with ⟨hcs, _⟩ | ⟨a', len', cap', m, n, D, Pl, hcs, hb, hl, hm, hmm, rfl, hi⟩
  · simp only [List.cons.injEq, Value.slice.injEq, and_true] at hcs
    obtain ⟨rfl, rfl, rfl⟩ := hcs
    exact ⟨Nat.le_refl _, by simp, fun _ => ⟨rfl, rfl⟩, fun a' h => by cases h⟩
  · simp only [List.cons.injEq, Value.slice.injEq, and_true] at hcs
    obtain ⟨rfl, rfl, rfl⟩ := hcs
    simp only [if_true] at hmm
    subst hmm
    simp only [DataW.weights, ht, List.length_map, List.length_range, List.mem_cons, List.mem_append] at hz
    have h1 := hz _ (.inl rfl)
    rw [show len + (m - len) = m by omega] at h1
    refine ⟨hl, h1, (fun h => by cases h), fun a2 e2 i him => ?_⟩
    cases e2
    obtain ⟨cs, h2, h3⟩ := hi i him
    refine ⟨n, cs, _, h2, h3, fun k hk => hz k (.inr ?_)⟩
    by_cases hil : i < len
    · exact .inl (weightsAll_mem (List.mem_map.2 ⟨i, by simpa using hil, rfl⟩) hk)
    · exact .inr (weightsAll_mem (List.mem_map.2 ⟨i - len, by simp; omega, by rw [show len + (i - len) = i by omega]⟩) hk)

/-- A slice of structs whose fields are of one cell each, row by row. -/
theorem TrodZ.rows {t e : TypeId} {fs : Array Field} (ht : P.underlying t = some (.slice e)) (he : P.underlying e = some (.struct fs)) (hone : oneCellFields P fs = true) (hC : P.cellsOf e = fs.size) (hpos : 0 < fs.size)
    {a : Option Addr} {len cap : Nat} (h : TrodZ enc P W t (.slice a len cap)) :
    len * P.bytesOf e ≤ reachBytes ∧ ∃ rows : Nat → List Value, (0 < len → ∃ b o, a = some ⟨b, o, none⟩ ∧ b < W.heap.size ∧ ∀ i j, i < len → j < fs.size → W.cell? ⟨b, o + i * fs.size + j, none⟩ = (rows i)[j]?) ∧
      ∀ i, i < len → (rows i).length = fs.size ∧ ∀ (j : Nat) (f : Field), fs[j]? = some f → ∃ v, (rows i)[j]? = some v ∧ TrodZ enc P W f.type v := by
  obtain ⟨h1, h2, h3, h4⟩ := h.slice ht
  have h5 : len * P.bytesOf e ≤ reachBytes := Nat.le_trans (Nat.mul_le_mul_right _ h1) h2
  cases a with
  | none =>
    obtain ⟨rfl, rfl⟩ := h3 rfl
    exact ⟨h5, fun _ => [], fun h => absurd h (by omega), fun i h => absurd h (by omega)⟩
  | some a' =>
    have hall : ∀ i, i < len → ∃ r : List Value, r.length = fs.size ∧ (∀ j, j < fs.size → W.cell? (a'.add (i * fs.size + j)) = r[j]?) ∧ ∀ (j : Nat) (f : Field), fs[j]? = some f → ∃ v, r[j]? = some v ∧ TrodZ enc P W f.type v := by
      intro i hi
      obtain ⟨n, cs, x, hcs, hx, hz⟩ := h4 a' rfl i (by omega)
      rw [hC] at hcs
      obtain ⟨_, g2, g3⟩ := World.cells?_some hcs
      refine ⟨cs, g2, fun j hj => by rw [← add_add]; exact g3 j hj, fun j f hj => ?_⟩
      obtain ⟨ys, n', hn', rfl, hlen, hyl, hf⟩ := DataW.trod_struct he hx
      obtain ⟨ho, hk⟩ := hone_of hone j f hj
      have hjl : j < fs.size := (Array.getElem?_eq_some_iff.1 hj).1
      have g4 := hf j f hj
      rw [ho, hk] at g4
      have g5 : (cs.drop j).take 1 = [cs[j]'(by omega)] := by
        rw [List.drop_eq_getElem_cons (by omega)]
        rfl
      rw [g5, List.getElem?_eq_getElem (by omega)] at g4
      refine ⟨_, List.getElem?_eq_getElem (by omega), n', _, g4, fun k hk => hz k ?_⟩
      simp only [DataW.weights, he]
      refine DataW.weights_mem_each (j := j) (t := f.type) ?_ ?_ k hk
      · rw [List.getElem?_map, Array.getElem?_toList, hj]; rfl
      · rw [List.getElem?_map, List.getElem?_eq_getElem (by omega)]; rfl
    obtain ⟨rows, hr⟩ := choose_lt hall
    refine ⟨h5, rows, fun h0 => ?_, fun i hi => ⟨(hr i hi).1, (hr i hi).2.2⟩⟩
    obtain ⟨g1, g2, _⟩ := hr 0 h0
    have g3 := g2 0 hpos
    rw [List.getElem?_eq_getElem (by omega)] at g3
    have e0 : a'.add (0 * fs.size + 0) = a' := by simp [Addr.add]
    rw [e0] at g3
    have ex := addr_of_cell g3
    refine ⟨a'.block, a'.off, by rw [← ex], World.block_lt_of_cell? W a' g3, fun i j hi hj => ?_⟩
    have g4 := (hr i hi).2.1 j hj
    rw [ex, Addr.add_mid] at g4
    rw [← g4, Nat.add_assoc]

/-- A slice of elements of one cell each. -/
theorem TrodZ.cells {t e : TypeId} (ht : P.underlying t = some (.slice e)) (hC : P.cellsOf e = 1) {a : Option Addr} {len cap : Nat} (h : TrodZ enc P W t (.slice a len cap)) :
    len * P.bytesOf e ≤ reachBytes ∧ ∃ vs : List Value, vs.length = len ∧ (0 < len → ∃ b o, a = some ⟨b, o, none⟩ ∧ b < W.heap.size ∧ W.rangeAt b o vs) ∧ ∀ v ∈ vs, TrodZ enc P W e v := by
  obtain ⟨h1, h2, h3, h4⟩ := h.slice ht
  have h5 : len * P.bytesOf e ≤ reachBytes := Nat.le_trans (Nat.mul_le_mul_right _ h1) h2
  cases a with
  | none =>
    obtain ⟨rfl, rfl⟩ := h3 rfl
    exact ⟨h5, [], rfl, fun h => absurd h (by omega), fun v h => by cases h⟩
  | some a' =>
    have hall : ∀ i, i < len → ∃ v : Value, W.cell? (a'.add i) = some v ∧ TrodZ enc P W e v := by
      intro i hi
      obtain ⟨n, cs, x, hcs, hx, hz⟩ := h4 a' rfl i (by omega)
      rw [hC, Nat.mul_one] at hcs
      obtain ⟨_, g2, g3⟩ := World.cells?_some hcs
      obtain ⟨v, rfl⟩ : ∃ v, cs = [v] := by
        match cs, g2 with
        | [v], _ => exact ⟨v, rfl⟩
      have g4 := g3 0 (by omega)
      have e0 : ∀ a : Addr, a.add 0 = a := fun a => by simp [Addr.add]
      rw [e0] at g4
      exact ⟨v, g4, n, x, hx, hz⟩
    obtain ⟨f, hf⟩ := choose_lt hall
    refine ⟨h5, (List.range len).map f, by simp, fun h0 => ?_, fun v hv => ?_⟩
    · obtain ⟨g1, _⟩ := hf 0 h0
      have e0 : a'.add 0 = a' := by simp [Addr.add]
      rw [e0] at g1
      have ex := addr_of_cell g1
      refine ⟨a'.block, a'.off, by rw [← ex], World.block_lt_of_cell? W a' g1, fun j v hv => ?_⟩
      have hj : j < len := by have := (List.getElem?_eq_some_iff.1 hv).1; simpa using this
      have g2 := (hf j hj).1
      rw [ex, Addr.add_mid] at g2
      rw [g2]
      simpa [hj] using hv
    · obtain ⟨i, hi, rfl⟩ := List.mem_map.1 hv
      exact (hf i (by simpa using hi)).2
end

section
variable {H : Type} {enc : TypeId × Value → H} {W : World}
/-- The value v is a slice of the bytes l in the old memory. -/
theorem TrodZ.bytes {v : Value} {ad : Option Addr} {len cap : Nat} (hv : v = .slice ad len cap) (h : TrodZ enc Tryz.prog W 22 v) :
    ∃ l : List UInt8, l.length = len ∧ (Assn.old W.heap.size W).Tells (fun w => BytesIn w (.slice ad len cap) l) ∧ len ≤ 140737488351232 := by
  subst hv
  obtain ⟨h1, vs, rfl, h2, h3⟩ := h.cells (e := 5) Tryz.underlying22 (by kernel_rfl)
  rw [show Tryz.prog.bytesOf 5 = 1 from by kernel_rfl, Nat.mul_one] at h1
  have hall : ∀ i, i < vs.length → ∃ c : UInt8, vs[i]? = some (byteV c) := by
    intro i hi
    obtain ⟨c, hc⟩ := (h3 _ (List.getElem_mem hi)).u8 (by kernel_rfl)
    exact ⟨c, by rw [List.getElem?_eq_getElem hi, hc]⟩
  obtain ⟨f, hf⟩ := choose_lt hall
  have he : cellsV ((List.range vs.length).map f) = vs := by
    apply List.ext_getElem?
    intro i
    unfold cellsV
    by_cases hi : i < vs.length
    · rw [hf i hi]; simp [hi]
    · rw [List.getElem?_eq_none (by simp; omega), List.getElem?_eq_none (by omega)]
  refine ⟨(List.range vs.length).map f, by simp, fun w hw => ⟨ad, cap, by simp, fun hne => ?_⟩, by unfold reachBytes at h1; omega⟩
  have hpos : 0 < vs.length := by
    rcases Nat.eq_zero_or_pos vs.length with e | e
    · rw [e] at hne; simp at hne
    · exact e
  obtain ⟨b, o, ha, hb, hr⟩ := h2 hpos
  rw [he]
  exact ⟨b, o, ha, old_tells (p := fun w => w.rangeAt b o vs) (fun w hw => range_old hr hb hw) w hw⟩
/-- The value v is a slice of the integers l in the old memory. -/
theorem TrodZ.ints {v : Value} {ad : Option Addr} {len cap : Nat} (hv : v = .slice ad len cap) (h : TrodZ enc Tryz.prog W 75 v) :
    ∃ l : List Int, l.length = len ∧ (Assn.old W.heap.size W).Tells (fun w => IntsIn w (.slice ad len cap) l) ∧ len ≤ 140737488351232 ∧ ∀ x ∈ l, -9223372036854775808 ≤ x ∧ x ≤ 9223372036854775807 := by
  subst hv
  obtain ⟨h1, vs, rfl, h2, h3⟩ := h.cells (e := 3) Tryz.underlying75 (by kernel_rfl)
  rw [show Tryz.prog.bytesOf 3 = 8 from by kernel_rfl] at h1
  have hall : ∀ i, i < vs.length → ∃ c : Int, vs[i]? = some (.int .i64 c) ∧ -9223372036854775808 ≤ c ∧ c ≤ 9223372036854775807 := by
    intro i hi
    obtain ⟨c, hc, hb⟩ := (h3 _ (List.getElem_mem hi)).i64 (by kernel_rfl)
    exact ⟨c, by rw [List.getElem?_eq_getElem hi, hc], hb⟩
  obtain ⟨f, hf⟩ := choose_lt hall
  have he : ((List.range vs.length).map f).map (Value.int .i64) = vs := by
    apply List.ext_getElem?
    intro i
    by_cases hi : i < vs.length
    · rw [(hf i hi).1]; simp [hi]
    · rw [List.getElem?_eq_none (by simp; omega), List.getElem?_eq_none (by omega)]
  refine ⟨(List.range vs.length).map f, by simp, fun w hw => ⟨ad, cap, by simp, fun hne => ?_⟩, by unfold reachBytes at h1; omega, fun x hx => ?_⟩
  · have hpos : 0 < vs.length := by
      rcases Nat.eq_zero_or_pos vs.length with e | e
      · rw [e] at hne; simp at hne
      · exact e
    obtain ⟨b, o, ha, hb, hr⟩ := h2 hpos
    rw [he]
    exact ⟨b, o, ha, old_tells (p := fun w => w.rangeAt b o vs) (fun w hw => range_old hr hb hw) w hw⟩
  · obtain ⟨i, hi, rfl⟩ := List.mem_map.1 hx
    exact (hf i (by simpa using hi)).2
end

end Go.Proofs.YtggbnelbnbaoiaaGreat

/- A slice of the files' calls that came in; no condition. -/
namespace Go.Proofs.YtggbnelbnbaoiaaGreat
open Go.RowKit Go.ChangeShapes Go.WideShapes Go.Deep

structure FOpM where
  kind : Int
  who : Int
  at' : Int
  n : Int
  b : List UInt8
  bad : Option Addr
  bcap : Nat
instance : Inhabited FOpM := ⟨⟨0, 0, 0, 0, [], none, 0⟩⟩
def FOpM.row (o : FOpM) : List Value := [.int .i64 o.kind, .int .i64 o.who, .int .i64 o.at', .int .i64 o.n, .slice o.bad o.b.length o.bcap]
structure FOpM.Fine (o : FOpM) : Prop where
  kind : -9223372036854775808 ≤ o.kind ∧ o.kind ≤ 9223372036854775807
  who : -9223372036854775808 ≤ o.who ∧ o.who ≤ 9223372036854775807
  at' : -9223372036854775808 ≤ o.at' ∧ o.at' ≤ 9223372036854775807
  n : -9223372036854775808 ≤ o.n ∧ o.n ≤ 9223372036854775807
  b : o.b.length ≤ 140737488351232

def FOpsIn (w : World) (v : Value) (ops : List FOpM) : Prop :=
  ∃ ad cap, v = .slice ad ops.length cap ∧ (ops ≠ [] → ∃ b o, ad = some ⟨b, o, none⟩ ∧ ∀ i j u, i < ops.length → (ops.getD i default).row[j]? = some u → w.cell? ⟨b, o + i * 5 + j, none⟩ = some u) ∧
    ∀ k, k < ops.length → BytesIn w (.slice (ops.getD k default).bad (ops.getD k default).b.length (ops.getD k default).bcap) (ops.getD k default).b

theorem FOpsIn.cells {w : World} {ad : Option Addr} {n cap : Nat} {ops : List FOpM} (h : FOpsIn w (.slice ad n cap) ops) {k : Nat} (hk : k < ops.length) :
    ∃ b o, ad = some ⟨b, o, none⟩ ∧ w.cell? ⟨b, o + k * 5, none⟩ = some (.int .i64 (ops.getD k default).kind) ∧ w.cell? ⟨b, o + k * 5 + 1, none⟩ = some (.int .i64 (ops.getD k default).who) ∧ w.cell? ⟨b, o + k * 5 + 2, none⟩ = some (.int .i64 (ops.getD k default).at') ∧ w.cell? ⟨b, o + k * 5 + 3, none⟩ = some (.int .i64 (ops.getD k default).n) ∧
      w.cell? ⟨b, o + k * 5 + 4, none⟩ = some (.slice (ops.getD k default).bad (ops.getD k default).b.length (ops.getD k default).bcap) := by
  obtain ⟨ad', cap', hv, hr, _⟩ := h
  simp only [Value.slice.injEq] at hv
  obtain ⟨rfl, _, _⟩ := hv
  obtain ⟨b, o, e, hc⟩ := hr (by intro e; simp [e] at hk)
  exact ⟨b, o, e, hc k 0 _ hk rfl, hc k 1 _ hk rfl, hc k 2 _ hk rfl, hc k 3 _ hk rfl, hc k 4 _ hk rfl⟩
theorem FOpsIn.bytes {w : World} {v : Value} {ops : List FOpM} (h : FOpsIn w v ops) {k : Nat} (hk : k < ops.length) :
    BytesIn w (.slice (ops.getD k default).bad (ops.getD k default).b.length (ops.getD k default).bcap) (ops.getD k default).b := by
  obtain ⟨_, _, _, _, h⟩ := h
  exact h k hk

theorem row_fops {H : Type} {enc : TypeId × Value → H} {W : World} {a : Option Addr} {len cap : Nat} (h : TrodZ enc Tryz.prog W 23 (.slice a len cap)) :
    ∃ ops : List FOpM, ops.length = len ∧ (Assn.old W.heap.size W).Tells (fun w => FOpsIn w (.slice a len cap) ops) ∧ len ≤ 9223372036854775807 ∧ ∀ k, k < ops.length → (ops.getD k default).Fine := by
  obtain ⟨hm, rows, hcell, hrow⟩ := h.rows (e := 38) Tryz.underlying23 Tryz.underlying38 (by kernel_rfl) (by kernel_rfl) (by decide)
  have hby : 0 < Tryz.prog.bytesOf 38 := by decide +kernel
  have hlen : len ≤ 9223372036854775807 := by
    have := Nat.le_trans (Nat.le_mul_of_pos_right len hby) hm
    unfold reachBytes at this
    omega
  have hop : ∀ i, i < len → ∃ o : FOpM, rows i = o.row ∧ (Assn.old W.heap.size W).Tells (fun w => BytesIn w (.slice o.bad o.b.length o.bcap) o.b) ∧ o.Fine := by
    intro i hi
    obtain ⟨hl, hf⟩ := hrow i hi
    obtain ⟨v0, g0, h0⟩ := hf 0 _ rfl
    obtain ⟨v1, g1, h1⟩ := hf 1 _ rfl
    obtain ⟨v2, g2, h2⟩ := hf 2 _ rfl
    obtain ⟨v3, g3, h3⟩ := hf 3 _ rfl
    obtain ⟨v4, g4, h4⟩ := hf 4 _ rfl
    obtain ⟨z0, rfl, b0⟩ := h0.i64 (by kernel_rfl)
    obtain ⟨z1, rfl, b1⟩ := h1.i64 (by kernel_rfl)
    obtain ⟨z2, rfl, b2⟩ := h2.i64 (by kernel_rfl)
    obtain ⟨z3, rfl, b3⟩ := h3.i64 (by kernel_rfl)
    obtain ⟨ba, bl, bc, rfl⟩ : ∃ a l c, v4 = .slice a l c := by
      obtain ⟨_, _, hx, _⟩ := h4
      rcases open_slice Tryz.underlying22 hx with ⟨hcs, _⟩ | ⟨a', l', c', _, _, _, _, hcs, _⟩
      · simp only [List.cons.injEq, and_true] at hcs; exact ⟨_, _, _, hcs⟩
      · simp only [List.cons.injEq, and_true] at hcs; exact ⟨_, _, _, hcs⟩
    obtain ⟨l, rfl, ht, hb⟩ := TrodZ.bytes rfl h4
    refine ⟨⟨z0, z1, z2, z3, l, ba, bc⟩, ?_, ht, ⟨b0, b1, b2, b3, hb⟩⟩
    match hq : rows i, hl with
    | [u0, u1, u2, u3, u4], _ =>
      rw [hq] at g0 g1 g2 g3 g4
      simp only [List.getElem?_cons_zero, List.getElem?_cons_succ, Option.some.injEq] at g0 g1 g2 g3 g4
      subst g0; subst g1; subst g2; subst g3; subst g4
      rfl
  obtain ⟨f, hf⟩ := choose_lt hop
  have hget : ∀ i, i < len → ((List.range len).map f).getD i default = f i := by
    intro i hi
    simp [hi]
  refine ⟨(List.range len).map f, by simp, ?_, hlen, fun k hk => ?_⟩
  · intro w hw
    refine ⟨a, cap, by simp, fun hne => ?_, fun k hk => ?_⟩
    · have hpos : 0 < len := by
        rcases Nat.eq_zero_or_pos len with e | e
        · subst e; simp at hne
        · exact e
      obtain ⟨b, o, ha, hb, hc⟩ := hcell hpos
      refine ⟨b, o, ha, fun i j u hi hu => ?_⟩
      simp only [List.length_map, List.length_range] at hi
      rw [hget i hi] at hu
      have hj : j < 5 := by
        have := (List.getElem?_eq_some_iff.1 hu).1
        simpa [FOpM.row] using this
      have h1 := hc i j hi hj
      rw [(hf i hi).1, hu] at h1
      have h2 : w.rangeAt b (o + i * 5 + j) [u] := old_tells (p := fun w => w.rangeAt b (o + i * 5 + j) [u]) (fun w hw => range_old (fun j' v' hv' => by
        cases j' with
        | zero => simp only [List.getElem?_cons_zero, Option.some.injEq] at hv'; subst hv'; exact h1
        | succ n => simp at hv') hb hw) w hw
      exact h2 0 u rfl
    · simp only [List.length_map, List.length_range] at hk
      rw [hget k hk]
      exact (hf k hk).2.1 w hw
  · simp only [List.length_map, List.length_range] at hk
    rw [hget k hk]
    exact (hf k hk).2.2

end Go.Proofs.YtggbnelbnbaoiaaGreat

/- InodeGaps, plain: what its calls lead to; a row of bytes that is made longer; no condition. -/
namespace Go.Proofs.YtggbnelbnbaoiaaGreat
open Go.RowKit Go.MapKept

theorem gaps_go {c k : Nat} {b more : List UInt8} (hb : b.length ≤ 3000) (hm : more.length ≤ 300) (hc : c ≤ b.length) (hk : k < 4000) : ∃ C2 C3 C4 : FvM,
    ((fresh0 1400).set 0 ⟨1, 1, []⟩ 0).write 0 0 b = (0, C2) ∧ C2.cut 0 c = (0, C3) ∧ C3.write 0 k more = (0, C4) ∧ C4.read 0 0 16384 = (0, dataW (b.take c) k more) := by
  have hfr : ((fresh0 1400).set 0 ⟨1, 1, []⟩ 0).fr = 648 := by show ((1400 - firstB 1400 : Nat) : Int) + 0 = 648; decide
  have l2 : (b.take c).length = c := by rw [List.length_take]; omega
  have e1 : dataW [] 0 b = b := dataW_end [] b
  have hcb := costD_le (l := b) (by omega)
  obtain ⟨C2, h1, f1, r1⟩ := FvM.wr_ok (C := (fresh0 1400).set 0 ⟨1, 1, []⟩ 0) (n := 0) (f := ⟨1, 1, []⟩) (by decide) (by unfold FvM.set; simp) (by decide) (a := 0) (b := b) (by omega) (by
    rw [hfr, e1, costD_nil]; omega)
  rw [e1, costD_nil, hfr] at r1
  simp only [e1] at f1
  have g2 : C2.fs 0 = ⟨1, 1, b⟩ := by rw [f1]; simp
  obtain ⟨C3, h2, f2, r2⟩ := FvM.cut_ok (C := C2) (n := 0) (by decide) g2 Nat.one_ne_zero (a := c) hc
  have g3 : C3.fs 0 = ⟨1, 1, b.take c⟩ := by rw [f2]; simp
  have hdl : (dataW (b.take c) k more).length ≤ 16384 := by
    unfold dataW
    split
    · omega
    · rw [wrD_length]; omega
  have hcd := costD_le hdl
  have hc0 : 0 ≤ costD (b.take c) := by unfold costD; omega
  have hc1 : 0 ≤ costD b := by unfold costD; omega
  simp only at r2
  obtain ⟨C4, h3, f3, r3⟩ := FvM.wr_ok (C := C3) (n := 0) (by decide) g3 Nat.one_ne_zero (a := k) (b := more) (by omega) (by
    simp only
    have hct := costD_le (l := b.take c) (by omega)
    omega)
  have g4 : C4.fs 0 = ⟨1, 1, dataW (b.take c) k more⟩ := by rw [f3]; simp
  have rd := FvM.read_ok (C := C4) (n := 0) (by decide) g4 Nat.one_ne_zero 16384
  simp only at rd
  rw [List.take_of_length_le hdl] at rd
  exact ⟨C2, C3, C4, h1, h2, h3, rd⟩

/-- Noughts behind bytes. -/
def padB (l : List UInt8) (n : Nat) : List UInt8 := l ++ List.replicate n 0
theorem padB_succ (l : List UInt8) (n : Nat) : padB l n ++ [0] = padB l (n + 1) := by
  unfold padB
  rw [List.append_assoc, List.replicate_succ']
theorem padB_length (l : List UInt8) (n : Nat) : (padB l n).length = l.length + n := by simp [padB]
theorem pad_put {l b : List UInt8} {a : Nat} (hb : b ≠ []) : putAt (padB l (a + b.length - l.length)) a b = dataW l a b := by
  unfold dataW
  rw [if_neg hb]
  have hl : (padB l (a + b.length - l.length)).length = max l.length (a + b.length) := by rw [padB_length]; omega
  have hla : ((padB l (a + b.length - l.length)).take a).length = a := by rw [List.length_take]; omega
  refine list_ext0 (by rw [putAt_length (by omega), wrD_length, hl]) fun i => ?_
  rw [wrD_getD]
  have hp : ∀ i, (padB l (a + b.length - l.length)).getD i 0 = l.getD i 0 := fun i => by
    unfold padB
    rw [getD_append]
    split
    · rfl
    · rw [getD_over (l := l) (by omega), List.getD_eq_getElem?_getD, List.getElem?_replicate]
      split <;> rfl
  unfold putAt wrB
  rw [List.append_assoc, getD_append, hla]
  by_cases h1 : i < a
  · rw [if_pos h1, if_neg (by omega), getD_take0, if_pos h1, hp]
  · rw [if_neg h1, getD_append]
    by_cases h2 : i - a < b.length
    · rw [if_pos h2, if_pos (by omega)]
    · rw [if_neg h2, if_neg (by omega), List.getD_eq_getElem?_getD, List.getElem?_drop, ← List.getD_eq_getElem?_getD, show a + b.length + (i - a - b.length) = i by omega, hp]

/-- Bytes are copied into the end of a row. -/
theorem copy_rowN {w : World} {g o c n dCap sn sc : Nat} {l s : List UInt8} {ad : Option Addr} {R : Assn} (h : Bears w (rowA 5 1 (.slice (some ⟨g, 0, none⟩) n c) n (cellsV l) * R)) (hl : l.length = n) (hs : R.Tells (fun w => BytesIn w (.slice ad sn sc) s))
    (hne : s ≠ []) (hfit : o + s.length ≤ n) :
    ∃ w', (Builtin.copy_ #[22, 22] 3 #[.slice (some ⟨g, o, none⟩) (n - o) dCap, .slice ad sn sc]).run Tryz.prog w = .ok (goInt s.length) w' ∧
      Bears w' (rowA 5 1 (.slice (some ⟨g, 0, none⟩) n c) n (cellsV (putAt l o s)) * R) := by
  obtain rfl : sn = s.length := (hs _ h.right).len
  obtain ⟨b, so, rfl, hr⟩ := (hs _ h.right).at hne
  have hrun := run_copy_cells (P := Tryz.prog) w 22 22 3 5 g o (n - o) dCap ⟨b, so, none⟩ s.length sc (cellsV s) u_bytes (by kernel_rfl) (by rw [length_cellsV]; exact (Nat.min_eq_left (by omega)).symm)
    (addr_cells hr)
    (fun j hj => by
      rw [length_cellsV] at hj
      rw [h.rowCell (i := o + j) (by omega) (v := (cellsV l)[o + j]'(by simp; omega)) (List.getElem?_eq_getElem _)]
      rfl)
    (fun j hj => h.rowFrozen _) (oneCell_cellsV _)
  rw [length_cellsV] at hrun
  refine ⟨_, hrun, ?_⟩
  have h2 := h.rowSets (cellsV s) o (by rw [length_cellsV]; omega)
  rw [setList_cellsV (by omega)] at h2
  exact h2

end Go.Proofs.YtggbnelbnbaoiaaGreat

/- InodeOpen walked; no condition. -/
namespace Go.Proofs.YtggbnelbnbaoiaaGreat
open Go.RowKit Go.MapKept

/-- Without a transaction a call changes nothing. -/
theorem doesO_closed {C C' : FvM} {kk : Nat} {who at' n : Int} {b : List UInt8} {t : Told5} (hk : kk < 10) (h : C.doesO false kk who at' n b = (t, C')) : C' = C ∧ ((kk = 0 ∨ (2 < kk ∧ kk < 8)) → t.e = 30) := by
  obtain rfl | rfl | rfl | rfl | rfl | rfl | rfl | rfl | rfl | rfl : kk = 0 ∨ kk = 1 ∨ kk = 2 ∨ kk = 3 ∨ kk = 4 ∨ kk = 5 ∨ kk = 6 ∨ kk = 7 ∨ kk = 8 ∨ kk = 9 := by omega
  all_goals
    unfold FvM.doesO at h
    simp only [Prod.mk.injEq] at h
    obtain ⟨rfl, rfl⟩ := h
    first
      | exact ⟨rfl, fun _ => rfl⟩
      | exact ⟨rfl, fun h => absurd h (by omega)⟩
theorem costN_few : ∀ b : Fin 48, costN b.val ≤ 60 := by decide +kernel
theorem costD_few {l : List UInt8} (h : l.length ≤ 3000) : costD l ≤ 60 := by
  have := costN_few ⟨nBlk l.length, by unfold nBlk; omega⟩
  unfold costD
  simp only at this
  omega

theorem open_go {b : List UInt8} (hb : b.length ≤ 3000) : ∃ C1 C2 : FvM,
    (fresh0 1024).make 1 = (0, 0, C1) ∧ C1.write 0 0 b = (0, C2) ∧ C2.read 0 0 9999 = (0, b) ∧ C2.ifree 256 = 255 := by
  have m1 : (fresh0 1024).make 1 = (0, 0, (fresh0 1024).set 0 ⟨1, 1, []⟩ 0) := FvM.make_ok (C := fresh0 1024) (n := 0) (by decide) rfl (fun m hm => by omega) (kd := 1) (.inl rfl)
  have hf1 : ((fresh0 1024).set 0 ⟨1, 1, []⟩ 0).fr = 273 := by show ((1024 - firstB 1024 : Nat) : Int) + 0 = 273; decide
  have g10 : ((fresh0 1024).set 0 ⟨1, 1, []⟩ 0).fs 0 = ⟨1, 1, []⟩ := by rw [FvM.set_fs, updF_self]
  have g11 : ∀ m, m ≠ 0 → ((fresh0 1024).set 0 ⟨1, 1, []⟩ 0).fs m = noFile := fun m hm => by rw [FvM.set_fs, updF_ne hm]; rfl
  generalize (fresh0 1024).set 0 ⟨1, 1, []⟩ 0 = C1 at m1 hf1 g10 g11
  have eb : dataW [] 0 b = b := dataW_end [] b
  have cb := costD_few hb
  obtain ⟨C2, w2, f2, r2⟩ := FvM.wr_ok (C := C1) (n := 0) (by decide) g10 Nat.one_ne_zero (a := 0) (b := b) (by omega) (by simp only [eb]; rw [costD_nil]; omega)
  simp only [eb] at f2 r2
  have h0 : C2.fs 0 = ⟨1, 1, b⟩ := by rw [f2, updF_self]
  have h1 : ∀ m, m ≠ 0 → C2.fs m = noFile := fun m hm => by rw [f2, updF_ne hm]; exact g11 m hm
  refine ⟨C1, C2, m1, w2, ?_, ?_⟩
  · have rd := FvM.read_ok (C := C2) (n := 0) (by decide) h0 Nat.one_ne_zero 9999
    simp only at rd
    rwa [List.take_of_length_le (by omega)] at rd
  · have hi : ∀ i, C2.ifree (i + 1) = i := by
      intro i
      induction i with
      | zero => unfold FvM.ifree; rw [h0]; rfl
      | succ i ih =>
        unfold FvM.ifree
        rw [ih, h1 (i + 1) (by omega)]
        rfl
    exact hi 255

set_option maxRecDepth 100000 in
set_option maxHeartbeats 2000000 in
theorem inodeOpen_walk {R : Assn} {w : World} (h : Bears w R) {ad0 : Option Addr} {n0 cap0 : Nat} {l0 : List UInt8} (hl0 : R.Tells (fun w => BytesIn w (.slice ad0 n0 cap0) l0)) (hc0 : n0 ≤ cap0) (hm0 : cap0 ≤ 9223372036854775807)
    {oad : Option Addr} {on ocap : Nat} {ops : List FOpM} (hops : R.Tells (fun w => FOpsIn w (.slice oad on ocap) ops)) (hon : ops.length = on) (hfine : ∀ k, k < ops.length → (ops.getD k default).Fine) (hlo : on ≤ 9223372036854775807) :
    Calls Tryz.prog 3 #[.slice ad0 n0 cap0, .slice oad on ocap] w fun e w' => e = .returned (.bool true) ∧ Bears w' R := by
  have hgo : ∀ (b : List UInt8), b.length ≤ 3000 → _ := fun b h1 => open_go h1
  generalize hC0 : fresh0 1024 = C0 at hgo
  have HC0 := Lib.hid hC0
  have Hgo := Lib.hid hgo
  have Hfine := Lib.hid hfine
  have Hops := Lib.hid hops
  have Hon := Lib.hid hon
  have hz8 : ∀ w, (Go.sizeOf 5).run Tryz.prog w = .ok 1 w := fun w => by kernel_rfl
  clear hgo hC0 hfine hops hon
  go_enter Tryz.func3, Tryz.ntmps3
  go_wp2_with fail
  refine (shown5_any h).mono ?_
  rintro e w1 ⟨rfl, h1⟩
  go_wp2_with fail
  refine (ground5_any (n := 1024) (by omega) (by omega) h1).mono ?_
  rintro e w2 ⟨pd, s, f, d, rfl, hfu, h2⟩
  rw [HC0.out] at h2
  go_upto_if 29 with (fail)
  go_cut [0] (fun v wr => ∃ (n2 cap2 : Nat) (l2 : List UInt8), v = .slice ad0 n2 cap2 ∧ n2 ≤ 3000 ∧ n2 ≤ cap2 ∧ R.Tells (fun w => BytesIn w (.slice ad0 n2 cap2) l2) ∧ Bears wr (fvA f s pd d 1024 0 true C0 C0 * R))
  case first =>
    by_cases hlong : 3000 < n0
    · have hI : (3000 : Int) < (n0 : Int) := by omega
      go_wp2_with (refine wpList_op rfl (exec_to (hi := 3000) rfl Tryz.underlying22 (hz8 _) rfl rfl (by omega)) ?_)
      go_meet
      case rel => exact ⟨3000, cap0, l0.take 3000, rfl, by omega, by omega, hl0.mono (fun w' h => h.pre (by omega) cap0), h2⟩
    · have hI : (n0 : Int) ≤ 3000 := by omega
      go_wp2_with fail
      go_meet
      case rel => exact ⟨n0, cap0, l0, rfl, by omega, by omega, hl0, h2⟩
  case' rest =>
    obtain ⟨n2, cap2, l2, rfl, hn2, hnc2, hl2, h3⟩ := hcut
  have hb2 : n2 = l2.length := (hl2 _ h3.right).len
  obtain ⟨C1, C2, s1, s2, s3, s4⟩ := Hgo.out l2 (by omega)
  have HH := Lib.hid (And.intro s1 (And.intro s2 (And.intro s3 s4)))
  have Hb2 := Lib.hid hb2
  clear s1 s2 s3 s4 hl0 h2 h1 h hb2
  go_wp2_with fail
  refine (fv_make h3 1).mono ?_
  rintro e w5 ⟨rfl, h5⟩
  rw [HH.out.1] at h5 ⊢
  go_wp2_with fail
  refine (fv_write h5 0 0 (b := l2) hl2 hnc2 (by omega)).mono ?_
  rintro e w6 ⟨rfl, h6⟩
  rw [HH.out.2.1] at h6 ⊢
  go_wp2_with fail
  refine (fv_commit h6 (by omega) hfu (by omega)).mono ?_
  rintro e w7 ⟨d7, rfl, hfu7, h7⟩
  go_wp2_with fail
  refine (fv_blocks h7).mono ?_
  rintro e w8 ⟨rfl, h8⟩
  clear h7 h6 h5 h3 hfu hfu7
  go_wp2_with fail
  go_loopw [10] (fun iv wr => ∃ (k : Nat), k ≤ ops.length ∧ k ≤ 60 ∧ iv = .int .i64 k ∧ Bears wr (fvA f s pd d7 1024 1 false C2 C2 * R)) (fun iv _ => 60 - (intOf iv).toNat)
  case atStart => exact ⟨0, by omega, by omega, rfl, h8⟩
  case round =>
    clear h8
    obtain ⟨k, hk, hk2, rfl, h10⟩ := hrel
    by_cases hlt : k < ops.length ∧ k < 60
    · obtain ⟨hlt, hlt2⟩ := hlt
      obtain ⟨ob, oo, had, q0, q1, q2, q3, q4⟩ := (Hops.out _ h10.right).cells hlt
      have hby := Hops.out.mono (fun w h => h.bytes hlt)
      have hfi := Hfine.out k hlt
      have hkI : (k : Int) < (on : Int) := by have := Hon.out; omega
      have hk40 : (k : Int) < 60 := by omega
      subst had
      generalize ops.getD k default = op at q0 q1 q2 q3 q4 hby hfi
      obtain ⟨kd, who, at', n, b, bad, bcap⟩ := op
      simp only at q0 q1 q2 q3 q4 hby
      obtain ⟨fk, fw, fa, fn, fb⟩ := hfi
      simp only at fk fw fa fn fb
      obtain ⟨kk, hkk, ek⟩ := kindN_lt kd 10 (by omega)
      rw [show ((10 : Nat) : Int) = 10 from rfl] at ek
      have hkc := fun w => kind5_any kd 10 w fk (by omega)
      simp only [ek] at hkc
      obtain ⟨t, C', hds⟩ : ∃ t C', C2.doesO false kk who at' n b = (t, C') := ⟨_, _, rfl⟩
      obtain ⟨hc', hte⟩ := doesO_closed hkk hds
      subst hc'
      have hdoes := fun w' (h : Bears w' (fvA f s pd d7 1024 1 false C' C' * R)) => does5o_any h kd who at' n fk fa.2 fn.2 hby (by omega) hkk ek hds
      have Hkc := Lib.hid hkc
      have Hdoes := Lib.hid hdoes
      have Hte := Lib.hid hte
      have hbl : b.length ≤ 140737488351232 := fb
      clear ek hkc hds hdoes hte hby fk fw fn fb
      go_wp2_with fail
      refine (Hkc.out _).mono ?_
      rintro e w' ⟨rfl, rfl⟩
      go_wp2_with fail
      refine (Hdoes.out _ h10).mono ?_
      rintro e w13 ⟨rfl, h13⟩
      obtain ⟨t0, t1, t2, t3, t4, te⟩ := t
      simp only at Hte
      by_cases hcl : kk = 0 ∨ (2 < kk ∧ kk < 8)
      · have hte := Hte.out hcl
        subst hte
        go_wp2_with fail
        all_goals
          go_roundw
          case rel => exact ⟨k + 1, hlt, by omega, by go_num, (h13.alloc _).right⟩
          case measure => simp [intOf]; omega
      · go_wp2_with fail
        all_goals
          go_roundw
          case rel => exact ⟨k + 1, hlt, by omega, by go_num, (h13.alloc _).right⟩
          case measure => simp [intOf]; omega
    · have hlt' : ¬ (k < on ∧ k < 60) := by rw [← Hon.out]; exact hlt
      go_wp2_with fail
      all_goals
        refine (fv_read h10 0 0 9999 (by omega) (by omega)).mono ?_
        rintro e w11 ⟨ad11, n11, cap11, rfl, h11⟩
        rw [HH.out.2.2.1] at h11 ⊢
        have r1 := run_convert_in (buf_tells _ h11)
        have r2 := run_convert_in (hl2 _ h11.right.right)
        go_wp2_with (first | (refine wpList_conv rfl rfl rfl r1 ?_) | (refine wpList_conv rfl rfl rfl r2 ?_))
        refine (fv_blocks h11.right).mono ?_
        rintro e w12 ⟨rfl, h12⟩
        go_wp2_with fail
        refine (fv_inodes h12).mono ?_
        rintro e w13 ⟨rfl, h13⟩
        rw [HH.out.2.2.2]
        go_wp2_with fail
        go_ret
        exact ⟨rfl, h13.right⟩

end Go.Proofs.YtggbnelbnbaoiaaGreat

/- An argument that is an array of two integers: its reading; no condition. -/
namespace Go.Proofs.YtggbnelbnbaoiaaGreat
open Go.RowKit Go.ChangeShapes Go.WideShapes Go.Deep

theorem row_caps {k : IntKind} {W : World} {a : Option Addr} {len cap : Nat} {zs : List Int} (h : RowIn k W a len cap zs) : len ≤ cap ∧ cap ≤ 9223372036854775807 := by
  rcases h with ⟨_, rfl, rfl, _⟩ | ⟨_, _, h1, h2, _⟩
  · exact ⟨Nat.le_refl _, by omega⟩
  · unfold maxLen at h2; exact ⟨h1, by omega⟩

section
variable {H : Type} {enc : TypeId × Value → H} {P : Program} {W : World} {base : Nat} {spare : Nat → Bool} {held : Bool}
theorem trod_array2 {t e : TypeId} {fuel : Nat} {c0 c1 : Value} {x : DataW H × List MemPlace} (ht : P.underlying t = some (.array 2 e)) (hce : P.cellsOf e = 1)
    (h : DataW.trod enc P W base spare held fuel t [c0, c1] = some x) :
    ∃ y0 y1 n, DataW.trod enc P W base spare held n e [c0] = some y0 ∧ DataW.trod enc P W base spare held n e [c1] = some y1 := by
  cases fuel with
  | zero => simp [DataW.trod] at h
  | succ n =>
    unfold DataW.trod at h
    rw [ht] at h
    have r2 : List.range 2 = [0, 1] := rfl
    simp [r2, hce] at h
    obtain ⟨_, h⟩ := h
    cases h0 : DataW.trod enc P W base spare held n e [c0] with
    | none => simp [h0] at h
    | some y0 =>
      cases h1 : DataW.trod enc P W base spare held n e [c1] with
      | none => simp [h0, h1] at h
      | some y1 => exact ⟨y0, y1, n, h0, h1⟩
theorem open_ints2 {t e : TypeId} {b0 : Nat} {v : Value} {d : DataW H} {ps : List MemPlace} (ht : P.underlying t = some (.array 2 e)) (he : P.underlying e = some (.int .i64)) (hce : P.cellsOf e = 1) (hct : P.cellsOf t = 2)
    (hok : Value.okWide P W .any b0 t v) (h : DataW.Trod enc P W 0 spare held t v d ps) :
    ∃ x0 x1 : Int, v = .agg #[.int .i64 x0, .int .i64 x1] ∧ (-9223372036854775808 ≤ x0 ∧ x0 ≤ 9223372036854775807) ∧ (-9223372036854775808 ≤ x1 ∧ x1 ≤ 9223372036854775807) := by
  simp only [Value.okWide, ht] at hok
  obtain ⟨cs, rfl, hsz, _⟩ := hok
  rw [hct] at hsz
  obtain ⟨c0, c1, rfl⟩ : ∃ c0 c1, cs = #[c0, c1] := by
    obtain ⟨l⟩ := cs
    match l, hsz with
    | [a, b], _ => exact ⟨a, b, rfl⟩
  obtain ⟨fuel, hf⟩ := h
  simp only [Value.cells] at hf
  obtain ⟨y0, y1, n, h0, h1⟩ := trod_array2 ht hce hf
  obtain ⟨z0, rfl, b00, b01⟩ := trod_i64 he h0
  obtain ⟨z1, rfl, b10, b11⟩ := trod_i64 he h1
  exact ⟨z0, z1, rfl, ⟨b00, b01⟩, ⟨b10, b11⟩⟩
end

end Go.Proofs.YtggbnelbnbaoiaaGreat
