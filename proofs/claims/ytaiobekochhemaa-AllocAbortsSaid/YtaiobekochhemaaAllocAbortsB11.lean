/- Texts of this claim, put together: OpsZ, TOps, AAbortsW; no condition. -/
import Derived.Test.YtaiobekochhemaaAllocAbortsB10
import Derived.SizedLaws
import Derived.ChangeMaps5

/- Readings of arguments, with the bounds of their sizes; no condition. -/
namespace Go.Proofs.Ytaiobekochhemaa
open Go.RowKit Go.ChangeShapes Go.WideShapes Go.Deep

section
variable {H : Type} {enc : TypeId × Value → H} {P : Program} {W : World}

/-- The value v reads as something of type t, and is no greater than memory. -/
def TrodZ (enc : TypeId × Value → H) (P : Program) (W : World) (t : TypeId) (v : Value) : Prop :=
  ∃ fuel x, DataW.trod enc P W 0 (fun _ => true) true fuel t [v] = some x ∧ ∀ n ∈ x.1.weights P t, n ≤ reachBytes

theorem TrodZ.i64 {t : TypeId} {v : Value} (ht : P.underlying t = some (.int .i64)) (h : TrodZ enc P W t v) : ∃ z, v = .int .i64 z ∧ -9223372036854775808 ≤ z ∧ z ≤ 9223372036854775807 := by
  obtain ⟨_, _, h, _⟩ := h
  exact trod_i64 ht h
theorem TrodZ.u8 {t : TypeId} {v : Value} (ht : P.underlying t = some (.int .u8)) (h : TrodZ enc P W t v) : ∃ c, v = byteV c := by
  obtain ⟨_, _, h, _⟩ := h
  exact trod_u8 ht h
theorem TrodZ.str {t : TypeId} {v : Value} (ht : P.underlying t = some .string) (h : TrodZ enc P W t v) : ∃ s : ByteArray, v = .string s ∧ s.size ≤ reachBytes := by
  obtain ⟨_, x, h, hz⟩ := h
  obtain ⟨s, h1, rfl, _⟩ := DataW.trod_string ht h
  simp only [List.cons.injEq, and_true] at h1
  refine ⟨s, h1, ?_⟩
  have := hz s.data.toList.length (by simp [DataW.weights])
  simpa using this

theorem weightsAll_mem {e : TypeId} {n : Nat} : ∀ {l : List (DataW H)} {d : DataW H}, d ∈ l → n ∈ d.weights P e → n ∈ DataW.weightsAll P e l
  | _ :: _, _, .head _, h => List.mem_append_left _ h
  | _ :: _, _, .tail _ hm, h => List.mem_append_right _ (weightsAll_mem hm h)

/-- A slice, element by element: its cells, and their readings. -/
theorem TrodZ.slice {t e : TypeId} (ht : P.underlying t = some (.slice e)) {a : Option Addr} {len cap : Nat} (h : TrodZ enc P W t (.slice a len cap)) :
    len ≤ cap ∧ cap * P.bytesOf e ≤ reachBytes ∧ (a = none → len = 0 ∧ cap = 0) ∧ ∀ a', a = some a' → ∀ i, i < cap → ∃ n cs x, W.cells? 0 (a'.add (i * P.cellsOf e)) (P.cellsOf e) = some cs ∧ DataW.trod enc P W 0 (fun _ => true) true n e cs = some x ∧ ∀ n ∈ x.1.weights P e, n ≤ reachBytes := by
  obtain ⟨fuel, x, h, hz⟩ := h
  rcases open_slice ht h with ⟨hcs, _⟩ | ⟨a', len', cap', m, n, D, Pl, hcs, hb, hl, hm, hmm, rfl, hi⟩
  · simp only [List.cons.injEq, Value.slice.injEq, and_true] at hcs
    obtain ⟨rfl, rfl, rfl⟩ := hcs
    exact ⟨Nat.le_refl _, by simp, fun _ => ⟨rfl, rfl⟩, fun a' h => by cases h⟩
  · simp only [List.cons.injEq, Value.slice.injEq, and_true] at hcs
    obtain ⟨rfl, rfl, rfl⟩ := hcs
    simp only [if_true] at hmm
    subst hmm
    simp only [DataW.weights, ht, List.length_map, List.length_range, List.mem_cons, List.mem_append] at hz
    have h1 := hz _ (.inl rfl)
    rw [show len + (m - len) = m by omega] at h1
    refine ⟨hl, h1, (fun h => by cases h), fun a2 e2 i him => ?_⟩
    cases e2
    obtain ⟨cs, h2, h3⟩ := hi i him
    refine ⟨n, cs, _, h2, h3, fun k hk => hz k (.inr ?_)⟩
    by_cases hil : i < len
    · exact .inl (weightsAll_mem (List.mem_map.2 ⟨i, by simpa using hil, rfl⟩) hk)
    · exact .inr (weightsAll_mem (List.mem_map.2 ⟨i - len, by simp; omega, by rw [show len + (i - len) = i by omega]⟩) hk)

/-- A slice of structs whose fields are of one cell each, row by row. -/
theorem TrodZ.rows {t e : TypeId} {fs : Array Field} (ht : P.underlying t = some (.slice e)) (he : P.underlying e = some (.struct fs)) (hone : oneCellFields P fs = true) (hC : P.cellsOf e = fs.size) (hpos : 0 < fs.size)
    {a : Option Addr} {len cap : Nat} (h : TrodZ enc P W t (.slice a len cap)) :
    len * P.bytesOf e ≤ reachBytes ∧ ∃ rows : Nat → List Value, (0 < len → ∃ b o, a = some ⟨b, o, none⟩ ∧ b < W.heap.size ∧ ∀ i j, i < len → j < fs.size → W.cell? ⟨b, o + i * fs.size + j, none⟩ = (rows i)[j]?) ∧
      ∀ i, i < len → (rows i).length = fs.size ∧ ∀ (j : Nat) (f : Field), fs[j]? = some f → ∃ v, (rows i)[j]? = some v ∧ TrodZ enc P W f.type v := by
  obtain ⟨h1, h2, h3, h4⟩ := h.slice ht
  have h5 : len * P.bytesOf e ≤ reachBytes := Nat.le_trans (Nat.mul_le_mul_right _ h1) h2
  cases a with
  | none =>
    obtain ⟨rfl, rfl⟩ := h3 rfl
    exact ⟨h5, fun _ => [], fun h => absurd h (by omega), fun i h => absurd h (by omega)⟩
  | some a' =>
    have hall : ∀ i, i < len → ∃ r : List Value, r.length = fs.size ∧ (∀ j, j < fs.size → W.cell? (a'.add (i * fs.size + j)) = r[j]?) ∧ ∀ (j : Nat) (f : Field), fs[j]? = some f → ∃ v, r[j]? = some v ∧ TrodZ enc P W f.type v := by
      intro i hi
      obtain ⟨n, cs, x, hcs, hx, hz⟩ := h4 a' rfl i (by omega)
      rw [hC] at hcs
      obtain ⟨_, g2, g3⟩ := World.cells?_some hcs
      refine ⟨cs, g2, fun j hj => by rw [← add_add]; exact g3 j hj, fun j f hj => ?_⟩
      obtain ⟨ys, n', hn', rfl, hlen, hyl, hf⟩ := DataW.trod_struct he hx
      obtain ⟨ho, hk⟩ := hone_of hone j f hj
      have hjl : j < fs.size := (Array.getElem?_eq_some_iff.1 hj).1
      have g4 := hf j f hj
      rw [ho, hk] at g4
      have g5 : (cs.drop j).take 1 = [cs[j]'(by omega)] := by
        rw [List.drop_eq_getElem_cons (by omega)]
        rfl
      rw [g5, List.getElem?_eq_getElem (by omega)] at g4
      refine ⟨_, List.getElem?_eq_getElem (by omega), n', _, g4, fun k hk => hz k ?_⟩
      simp only [DataW.weights, he]
      refine DataW.weights_mem_each (j := j) (t := f.type) ?_ ?_ k hk
      · rw [List.getElem?_map, Array.getElem?_toList, hj]; rfl
      · rw [List.getElem?_map, List.getElem?_eq_getElem (by omega)]; rfl
    obtain ⟨rows, hr⟩ := choose_lt hall
    refine ⟨h5, rows, fun h0 => ?_, fun i hi => ⟨(hr i hi).1, (hr i hi).2.2⟩⟩
    obtain ⟨g1, g2, _⟩ := hr 0 h0
    have g3 := g2 0 hpos
    rw [List.getElem?_eq_getElem (by omega)] at g3
    have e0 : a'.add (0 * fs.size + 0) = a' := by simp [Addr.add]
    rw [e0] at g3
    have ex := addr_of_cell g3
    refine ⟨a'.block, a'.off, by rw [← ex], World.block_lt_of_cell? W a' g3, fun i j hi hj => ?_⟩
    have g4 := (hr i hi).2.1 j hj
    rw [ex, Addr.add_mid] at g4
    rw [← g4, Nat.add_assoc]

/-- A slice of elements of one cell each. -/
theorem TrodZ.cells {t e : TypeId} (ht : P.underlying t = some (.slice e)) (hC : P.cellsOf e = 1) {a : Option Addr} {len cap : Nat} (h : TrodZ enc P W t (.slice a len cap)) :
    len * P.bytesOf e ≤ reachBytes ∧ ∃ vs : List Value, vs.length = len ∧ (0 < len → ∃ b o, a = some ⟨b, o, none⟩ ∧ b < W.heap.size ∧ W.rangeAt b o vs) ∧ ∀ v ∈ vs, TrodZ enc P W e v := by
  obtain ⟨h1, h2, h3, h4⟩ := h.slice ht
  have h5 : len * P.bytesOf e ≤ reachBytes := Nat.le_trans (Nat.mul_le_mul_right _ h1) h2
  cases a with
  | none =>
    obtain ⟨rfl, rfl⟩ := h3 rfl
    exact ⟨h5, [], rfl, fun h => absurd h (by omega), fun v h => by cases h⟩
  | some a' =>
    have hall : ∀ i, i < len → ∃ v : Value, W.cell? (a'.add i) = some v ∧ TrodZ enc P W e v := by
      intro i hi
      obtain ⟨n, cs, x, hcs, hx, hz⟩ := h4 a' rfl i (by omega)
      rw [hC, Nat.mul_one] at hcs
      obtain ⟨_, g2, g3⟩ := World.cells?_some hcs
      obtain ⟨v, rfl⟩ : ∃ v, cs = [v] := by
        match cs, g2 with
        | [v], _ => exact ⟨v, rfl⟩
      have g4 := g3 0 (by omega)
      have e0 : ∀ a : Addr, a.add 0 = a := fun a => by simp [Addr.add]
      rw [e0] at g4
      exact ⟨v, g4, n, x, hx, hz⟩
    obtain ⟨f, hf⟩ := choose_lt hall
    refine ⟨h5, (List.range len).map f, by simp, fun h0 => ?_, fun v hv => ?_⟩
    · obtain ⟨g1, _⟩ := hf 0 h0
      have e0 : a'.add 0 = a' := by simp [Addr.add]
      rw [e0] at g1
      have ex := addr_of_cell g1
      refine ⟨a'.block, a'.off, by rw [← ex], World.block_lt_of_cell? W a' g1, fun j v hv => ?_⟩
      have hj : j < len := by have := (List.getElem?_eq_some_iff.1 hv).1; simpa using this
      have g2 := (hf j hj).1
      rw [ex, Addr.add_mid] at g2
      rw [g2]
      simpa [hj] using hv
    · obtain ⟨i, hi, rfl⟩ := List.mem_map.1 hv
      exact (hf i (by simpa using hi)).2
end

section
variable {H : Type} {enc : TypeId × Value → H} {W : World}
/-- The value v is a slice of the bytes l in the old memory. -/
theorem TrodZ.bytes {v : Value} {ad : Option Addr} {len cap : Nat} (hv : v = .slice ad len cap) (h : TrodZ enc Try.prog W 43 v) :
    ∃ l : List UInt8, l.length = len ∧ (Assn.old W.heap.size W).Tells (fun w => BytesIn w (.slice ad len cap) l) ∧ len ≤ 140737488351232 := by
  subst hv
  obtain ⟨h1, vs, rfl, h2, h3⟩ := h.cells (e := 5) Try.underlying43 (by kernel_rfl)
  rw [show Try.prog.bytesOf 5 = 1 from by kernel_rfl, Nat.mul_one] at h1
  have hall : ∀ i, i < vs.length → ∃ c : UInt8, vs[i]? = some (byteV c) := by
    intro i hi
    obtain ⟨c, hc⟩ := (h3 _ (List.getElem_mem hi)).u8 (by kernel_rfl)
    exact ⟨c, by rw [List.getElem?_eq_getElem hi, hc]⟩
  obtain ⟨f, hf⟩ := choose_lt hall
  have he : cellsV ((List.range vs.length).map f) = vs := by
    apply List.ext_getElem?
    intro i
    unfold cellsV
    by_cases hi : i < vs.length
    · rw [hf i hi]; simp [hi]
    · rw [List.getElem?_eq_none (by simp; omega), List.getElem?_eq_none (by omega)]
  refine ⟨(List.range vs.length).map f, by simp, fun w hw => ⟨ad, cap, by simp, fun hne => ?_⟩, by unfold reachBytes at h1; omega⟩
  have hpos : 0 < vs.length := by
    rcases Nat.eq_zero_or_pos vs.length with e | e
    · rw [e] at hne; simp at hne
    · exact e
  obtain ⟨b, o, ha, hb, hr⟩ := h2 hpos
  rw [he]
  exact ⟨b, o, ha, old_tells (p := fun w => w.rangeAt b o vs) (fun w hw => range_old hr hb hw) w hw⟩
/-- The value v is a slice of the integers l in the old memory. -/
theorem TrodZ.ints {v : Value} {ad : Option Addr} {len cap : Nat} (hv : v = .slice ad len cap) (h : TrodZ enc Try.prog W 49 v) :
    ∃ l : List Int, l.length = len ∧ (Assn.old W.heap.size W).Tells (fun w => IntsIn w (.slice ad len cap) l) ∧ len ≤ 140737488351232 ∧ ∀ x ∈ l, -9223372036854775808 ≤ x ∧ x ≤ 9223372036854775807 := by
  subst hv
  obtain ⟨h1, vs, rfl, h2, h3⟩ := h.cells (e := 3) Try.underlying49 (by kernel_rfl)
  rw [show Try.prog.bytesOf 3 = 8 from by kernel_rfl] at h1
  have hall : ∀ i, i < vs.length → ∃ c : Int, vs[i]? = some (.int .i64 c) ∧ -9223372036854775808 ≤ c ∧ c ≤ 9223372036854775807 := by
    intro i hi
    obtain ⟨c, hc, hb⟩ := (h3 _ (List.getElem_mem hi)).i64 (by kernel_rfl)
    exact ⟨c, by rw [List.getElem?_eq_getElem hi, hc], hb⟩
  obtain ⟨f, hf⟩ := choose_lt hall
  have he : ((List.range vs.length).map f).map (Value.int .i64) = vs := by
    apply List.ext_getElem?
    intro i
    by_cases hi : i < vs.length
    · rw [(hf i hi).1]; simp [hi]
    · rw [List.getElem?_eq_none (by simp; omega), List.getElem?_eq_none (by omega)]
  refine ⟨(List.range vs.length).map f, by simp, fun w hw => ⟨ad, cap, by simp, fun hne => ?_⟩, by unfold reachBytes at h1; omega, fun x hx => ?_⟩
  · have hpos : 0 < vs.length := by
      rcases Nat.eq_zero_or_pos vs.length with e | e
      · rw [e] at hne; simp at hne
      · exact e
    obtain ⟨b, o, ha, hb, hr⟩ := h2 hpos
    rw [he]
    exact ⟨b, o, ha, old_tells (p := fun w => w.rangeAt b o vs) (fun w hw => range_old hr hb hw) w hw⟩
  · obtain ⟨i, hi, rfl⟩ := List.mem_map.1 hx
    exact (hf i (by simpa using hi)).2
end

end Go.Proofs.Ytaiobekochhemaa

/- A slice of the space's calls (a kind, a number, bytes) that came in; no condition. -/
namespace Go.Proofs.Ytaiobekochhemaa
open Go.RowKit Go.ChangeShapes Go.WideShapes Go.Deep

structure TOpM where
  kind : Int
  n : Int
  b : List UInt8
  bad : Option Addr
  bcap : Nat
instance : Inhabited TOpM := ⟨⟨0, 0, [], none, 0⟩⟩
def TOpM.row (o : TOpM) : List Value := [.int .i64 o.kind, .int .i64 o.n, .slice o.bad o.b.length o.bcap]
structure TOpM.Fine (o : TOpM) : Prop where
  kind : -9223372036854775808 ≤ o.kind ∧ o.kind ≤ 9223372036854775807
  n : -9223372036854775808 ≤ o.n ∧ o.n ≤ 9223372036854775807
  b : o.b.length ≤ 140737488351232

def TOpsIn (w : World) (v : Value) (ops : List TOpM) : Prop :=
  ∃ ad cap, v = .slice ad ops.length cap ∧ (ops ≠ [] → ∃ b o, ad = some ⟨b, o, none⟩ ∧ ∀ i j u, i < ops.length → (ops.getD i default).row[j]? = some u → w.cell? ⟨b, o + i * 3 + j, none⟩ = some u) ∧
    ∀ k, k < ops.length → BytesIn w (.slice (ops.getD k default).bad (ops.getD k default).b.length (ops.getD k default).bcap) (ops.getD k default).b

theorem TOpsIn.cells {w : World} {ad : Option Addr} {n cap : Nat} {ops : List TOpM} (h : TOpsIn w (.slice ad n cap) ops) {k : Nat} (hk : k < ops.length) :
    ∃ b o, ad = some ⟨b, o, none⟩ ∧ w.cell? ⟨b, o + k * 3, none⟩ = some (.int .i64 (ops.getD k default).kind) ∧ w.cell? ⟨b, o + k * 3 + 1, none⟩ = some (.int .i64 (ops.getD k default).n) ∧
      w.cell? ⟨b, o + k * 3 + 2, none⟩ = some (.slice (ops.getD k default).bad (ops.getD k default).b.length (ops.getD k default).bcap) := by
  obtain ⟨ad', cap', hv, hr, _⟩ := h
  simp only [Value.slice.injEq] at hv
  obtain ⟨rfl, _, _⟩ := hv
  obtain ⟨b, o, e, hc⟩ := hr (by intro e; simp [e] at hk)
  exact ⟨b, o, e, hc k 0 _ hk rfl, hc k 1 _ hk rfl, hc k 2 _ hk rfl⟩
theorem TOpsIn.bytes {w : World} {v : Value} {ops : List TOpM} (h : TOpsIn w v ops) {k : Nat} (hk : k < ops.length) :
    BytesIn w (.slice (ops.getD k default).bad (ops.getD k default).b.length (ops.getD k default).bcap) (ops.getD k default).b := by
  obtain ⟨_, _, _, _, h⟩ := h
  exact h k hk

theorem row_tops {H : Type} {enc : TypeId × Value → H} {W : World} {a : Option Addr} {len cap : Nat} (h : TrodZ enc Try.prog W 78 (.slice a len cap)) :
    ∃ ops : List TOpM, ops.length = len ∧ (Assn.old W.heap.size W).Tells (fun w => TOpsIn w (.slice a len cap) ops) ∧ len ≤ 9223372036854775807 ∧ ∀ k, k < ops.length → (ops.getD k default).Fine := by
  obtain ⟨hm, rows, hcell, hrow⟩ := h.rows (e := 82) Try.underlying78 Try.underlying82 (by kernel_rfl) (by kernel_rfl) (by decide)
  have hby : 0 < Try.prog.bytesOf 82 := by decide +kernel
  have hlen : len ≤ 9223372036854775807 := by
    have := Nat.le_trans (Nat.le_mul_of_pos_right len hby) hm
    unfold reachBytes at this
    omega
  have hop : ∀ i, i < len → ∃ o : TOpM, rows i = o.row ∧ (Assn.old W.heap.size W).Tells (fun w => BytesIn w (.slice o.bad o.b.length o.bcap) o.b) ∧ o.Fine := by
    intro i hi
    obtain ⟨hl, hf⟩ := hrow i hi
    obtain ⟨v0, g0, h0⟩ := hf 0 _ rfl
    obtain ⟨v1, g1, h1⟩ := hf 1 _ rfl
    obtain ⟨v2, g2, h2⟩ := hf 2 _ rfl
    obtain ⟨z0, rfl, b0⟩ := h0.i64 (by kernel_rfl)
    obtain ⟨z1, rfl, b1⟩ := h1.i64 (by kernel_rfl)
    obtain ⟨ba, bl, bc, rfl⟩ : ∃ a l c, v2 = .slice a l c := by
      obtain ⟨_, _, hx, _⟩ := h2
      rcases open_slice Try.underlying43 hx with ⟨hcs, _⟩ | ⟨a', l', c', _, _, _, _, hcs, _⟩
      · simp only [List.cons.injEq, and_true] at hcs; exact ⟨_, _, _, hcs⟩
      · simp only [List.cons.injEq, and_true] at hcs; exact ⟨_, _, _, hcs⟩
    obtain ⟨l, rfl, ht, hb⟩ := TrodZ.bytes rfl h2
    refine ⟨⟨z0, z1, l, ba, bc⟩, ?_, ht, ⟨b0, b1, hb⟩⟩
    match hq : rows i, hl with
    | [u0, u1, u2], _ =>
      rw [hq] at g0 g1 g2
      simp only [List.getElem?_cons_zero, List.getElem?_cons_succ, Option.some.injEq] at g0 g1 g2
      subst g0; subst g1; subst g2
      rfl
  obtain ⟨f, hf⟩ := choose_lt hop
  have hget : ∀ i, i < len → ((List.range len).map f).getD i default = f i := by
    intro i hi
    simp [hi]
  refine ⟨(List.range len).map f, by simp, ?_, hlen, fun k hk => ?_⟩
  · intro w hw
    refine ⟨a, cap, by simp, fun hne => ?_, fun k hk => ?_⟩
    · have hpos : 0 < len := by
        rcases Nat.eq_zero_or_pos len with e | e
        · subst e; simp at hne
        · exact e
      obtain ⟨b, o, ha, hb, hc⟩ := hcell hpos
      refine ⟨b, o, ha, fun i j u hi hu => ?_⟩
      simp only [List.length_map, List.length_range] at hi
      rw [hget i hi] at hu
      have hj : j < 3 := by
        have := (List.getElem?_eq_some_iff.1 hu).1
        simpa [TOpM.row] using this
      have h1 := hc i j hi hj
      rw [(hf i hi).1, hu] at h1
      have h2 : w.rangeAt b (o + i * 3 + j) [u] := old_tells (p := fun w => w.rangeAt b (o + i * 3 + j) [u]) (fun w hw => range_old (fun j' v' hv' => by
        cases j' with
        | zero => simp only [List.getElem?_cons_zero, Option.some.injEq] at hv'; subst hv'; exact h1
        | succ n => simp at hv') hb hw) w hw
      exact h2 0 u rfl
    · simp only [List.length_map, List.length_range] at hk
      rw [hget k hk]
      exact (hf k hk).2.1 w hw
  · simp only [List.length_map, List.length_range] at hk
    rw [hget k hk]
    exact (hf k hk).2.2

end Go.Proofs.Ytaiobekochhemaa

/- AllocAborts walked; no condition. -/
namespace Go.Proofs.Ytaiobekochhemaa
open Go.RowKit Go.MapKept

theorem does_lt8 {len kk : Nat} {S S' : SpM} {n : Int} {b : List UInt8} {t : Told} (hk : kk < 8) (hs : S.does len kk n b = (t, S')) : S'.g = S.g ∧ S'.op = S.op ∧ S'.F = S.F := by
  have ha : ∀ {t S'}, S.alloc len = (t, S') → S'.g = S.g ∧ S'.op = S.op ∧ S'.F = S.F := fun {t S'} h => by
    unfold SpM.alloc at h
    split at h
    · split at h <;> simp only [Prod.mk.injEq] at h <;> rw [← h.2] <;> exact ⟨rfl, rfl, rfl⟩
    · simp only [Prod.mk.injEq] at h; rw [← h.2]; exact ⟨rfl, rfl, rfl⟩
  have hi : S.setInode len n b = (t, S') → S'.g = S.g ∧ S'.op = S.op ∧ S'.F = S.F := fun h => by
    unfold SpM.setInode at h
    split at h
    · split at h <;> simp only [Prod.mk.injEq] at h <;> rw [← h.2] <;> exact ⟨rfl, rfl, rfl⟩
    · simp only [Prod.mk.injEq] at h; rw [← h.2]; exact ⟨rfl, rfl, rfl⟩
  match kk, hk, hs with
  | 0, _, hs | 1, _, hs => exact ha hs
  | 2, _, hs =>
    simp only [SpM.does] at hs
    unfold SpM.free at hs
    split at hs
    · split at hs <;> simp only [Prod.mk.injEq] at hs <;> rw [← hs.2] <;> exact ⟨rfl, rfl, rfl⟩
    · simp only [Prod.mk.injEq] at hs; rw [← hs.2]; exact ⟨rfl, rfl, rfl⟩
  | 3, _, hs =>
    simp only [SpM.does] at hs
    unfold SpM.write at hs
    split at hs
    · split at hs <;> simp only [Prod.mk.injEq] at hs <;> rw [← hs.2] <;> exact ⟨rfl, rfl, rfl⟩
    · simp only [Prod.mk.injEq] at hs; rw [← hs.2]; exact ⟨rfl, rfl, rfl⟩
  | 4, _, hs | 7, _, hs => simp only [SpM.does, Prod.mk.injEq] at hs; rw [← hs.2]; exact ⟨rfl, rfl, rfl⟩
  | 5, _, hs | 6, _, hs => exact hi hs
  | n + 8, h, _ => exact absurd h (by omega)

/-- A call of less than eight kinds, in an open transaction. -/
theorem does4_in {s p g : Nat} {d : DiskM} {k : List Nat} {F G : Nat → Sec} {R : Assn} {w : World} (h : Bears w (stA s p d 1024 k ⟨g, true, F, G⟩ * R)) (hf : d.fuse = -1) (hg : g < 4611686018427387904) (kd n : Int)
    (hkd : -9223372036854775808 ≤ kd ∧ kd ≤ 9223372036854775807) (hn : -9223372036854775808 ≤ n ∧ n ≤ 9223372036854775807) {b : List UInt8} {ad : Option Addr} {bn cap : Nat} (hb : R.Tells (fun w => BytesIn w (.slice ad bn cap) b)) (hbl : b.length ≤ 140737488351232)
    {kk : Nat} (hkk : kk < 8) (hkv : (if kd < 0 then (-(kd + 1)) % 12 else kd % 12) = (kk : Int)) :
    Calls Try.prog 57 #[.pointer (some ⟨s, 0, none⟩), .agg #[.int .i64 kd, .int .i64 n, .slice ad bn cap]] w fun e w' => ∃ t d' G', e = .returned (toldV t) ∧ d'.fuse = -1 ∧ Bears w' (stA s p d' 1024 (outL 1024) ⟨g, true, F, G'⟩ * R) := by
  obtain ⟨t, S', hs⟩ : ∃ t S', SpM.does 1024 ⟨g, true, F, G⟩ kk n b = (t, S') := ⟨_, _, rfl⟩
  obtain ⟨h1, h2, h3⟩ := does_lt8 hkk hs
  obtain ⟨g', op', F', G'⟩ := S'
  simp only at h1 h2 h3
  subst h1; subst h2; subst h3
  refine (does4_any h hf hg kd n hkd hn hb (by omega) (by omega) hkv hs).mono ?_
  rintro e w' ⟨d', rfl, hf', h'⟩
  exact ⟨t, d', G', rfl, hf', h'⟩

/-- The loop over calls: one round is a call, or nothing. -/
theorem kind12 (c : Int) : ∃ s : Nat, s < 12 ∧ (if c < 0 then (-(c + 1)) % 12 else c % 12) = (s : Int) := kindN_lt c 12 (by decide)

theorem i_told : (Try.prog.info? 85).map (fun i => (i.zero, i.size, i.bytes)) = some (some (.agg #[.int .i64 0, .string ⟨#[]⟩, .int .i64 0]), 3, 32) := by kernel_rfl
def toldC (t : Told) : List Value := [.int .i64 t.n, strV t.b, .int .i64 t.e]
/-- What was told of the first k blocks and inodes. -/
def wasL (S : SpM) (k : Nat) : List Value := (List.range k).flatMap fun j => toldC (S.read 1024 ((751 + j : Nat) : Int)) ++ toldC (S.inode 1024 (j : Int))

theorem wpL_load_midG {P : Program} {ops : Array Oper} {Q : Exit → Act → World → Prop} {S : World → Prop} {C : Act → World → Prop} {r : List (Bool × Option Oper)} {a : Act} {w : World} {o : Oper} (ty : TypeId) (x : Operand) (hg : Region.wanted o (yielded ops a.tmps) = true) (ho : o.op = .load ty x) (b off : Nat) (hx : a.eval x = .pointer (some ⟨b, off, none⟩))
    (cs : List Value) (d : TypeDesc) (hc : ∀ w, S w → w.rangeAt b off cs) (hu : P.underlying ty = some d) (hd : d.isRow = true) (hz : (P.info? ty).map (·.size) = some cs.length)
    (h : wpL P ops Q S C r (a.put o.dst (.agg cs.toArray)) w) : wpL P ops Q S C ((true, some o) :: r) a w := by
  refine wpL_guarded hg (fun w' hS => ?_) h
  unfold execOp
  simp only [ho, hx, Instr.loadAt, Instr.sureAddr, Sem.run_bind, Sem.run_pure, Result.andThen_ok, run_loadVar_mid w' b off ty cs d (hc w' hS) hu hd hz]

theorem wasL_at {S : SpM} : ∀ {n k : Nat}, k < n → ((wasL S n).drop (2 * k * 3)).take 3 = toldC (S.read 1024 ((751 + k : Nat) : Int)) ∧ ((wasL S n).drop ((2 * k + 1) * 3)).take 3 = toldC (S.inode 1024 (k : Int))
  | n + 1, k, hk => by
    have hl : ∀ n, (wasL S n).length = 2 * n * 3 := fun n => by
      induction n with
      | zero => rfl
      | succ n ih => unfold wasL at ih ⊢; rw [List.range_succ, List.flatMap_append, List.length_append, ih]; simp [toldC]; omega
    have hw : wasL S (n + 1) = wasL S n ++ (toldC (S.read 1024 ((751 + n : Nat) : Int)) ++ toldC (S.inode 1024 (n : Int))) := by
      unfold wasL; rw [List.range_succ, List.flatMap_append]; simp
    rw [hw]
    by_cases e : k = n
    · subst e
      constructor
      · rw [← hl k, List.drop_left]; rfl
      · rw [show (2 * k + 1) * 3 = (wasL S k).length + 3 by rw [hl]; omega, List.drop_append, List.drop_of_length_le (Nat.le_add_right _ _), Nat.add_sub_cancel_left]; rfl
    · have h1 := wasL_at (S := S) (n := n) (k := k) (by omega)
      constructor
      · rw [List.drop_append_of_le_length (by rw [hl]; omega), List.take_append_of_le_length (by rw [List.length_drop, hl]; omega)]; exact h1.1
      · rw [List.drop_append_of_le_length (by rw [hl]; omega), List.take_append_of_le_length (by rw [List.length_drop, hl]; omega)]; exact h1.2

set_option maxRecDepth 100000 in
set_option maxHeartbeats 4000000 in
theorem allocAborts_walk {R : Assn} {w : World} (h : Bears w R) {l1 l2 : List TOpM} {a1 a2 : Option Addr} {c1 c2 : Nat}
    (t1 : R.Tells (fun w => TOpsIn w (.slice a1 l1.length c1) l1)) (b1 : l1.length ≤ 9223372036854775807) (hl1 : ∀ k, k < l1.length → (l1.getD k default).Fine)
    (t2 : R.Tells (fun w => TOpsIn w (.slice a2 l2.length c2) l2)) (b2 : l2.length ≤ 9223372036854775807) (hl2 : ∀ k, k < l2.length → (l2.getD k default).Fine) :
    Calls Try.prog 11 #[.slice a1 l1.length c1, .slice a2 l2.length c2] w fun e w' => e = .returned (.bool true) ∧ Bears w' R := by
  have T1 := Lib.hid t1
  have T2 := Lib.hid t2
  have HL1 := Lib.hid hl1
  have HL2 := Lib.hid hl2
  clear t1 t2 hl1 hl2
  go_enter Try.func11, Try.ntmps11
  go_wp2_with fail
  refine (shown4_any h).mono ?_
  rintro e w1 ⟨rfl, h1⟩
  go_wp2_with fail
  refine (ground4_any h1).mono ?_
  rintro e w2 ⟨p, s, d, rfl, hfu, h2⟩
  go_wp2_with fail
  refine (sbegin_any h2).mono ?_
  rintro e w3 ⟨rfl, h3⟩
  have h4 : Bears w3 (stA s p d 1024 (outL 1024) ⟨0, true, freshF 1024, freshF 1024⟩ * R) := h3.spLeast
  generalize freshF 1024 = F0 at h4
  clear h h1 h2 h3
  go_upto_block 0 with (fail)
  go_cut [] (fun wr => ∃ d G, d.fuse = -1 ∧ Bears wr (stA s p d 1024 (outL 1024) ⟨0, true, F0, G⟩ * R))
  case first =>
    go_wp2_with fail
    go_loopw [8] (fun iv wr => ∃ k : Nat, k ≤ l1.length ∧ k ≤ 60 ∧ iv = .int .i64 k ∧ ∃ d G, d.fuse = -1 ∧ Bears wr (stA s p d 1024 (outL 1024) ⟨0, true, F0, G⟩ * R)) (fun iv _ => 60 - (intOf iv).toNat)
    case atStart => exact ⟨0, by omega, by omega, rfl, d, F0, hfu, h4⟩
    case round =>
      clear h4 hfu
      obtain ⟨k, hk, hk2, rfl, d, G, hfu, h5⟩ := hrel
      by_cases hlt : k < l1.length ∧ k < 60
      · obtain ⟨hlt, hlt2⟩ := hlt
        obtain ⟨b0, o0, rfl, q0, q1, q2⟩ := (T1.out _ h5.right).cells hlt
        have hop := HL1.out k hlt
        have hbt := fun w' (hw : Bears w' R) => (T1.out w' hw).bytes hlt
        generalize hc : l1.getD k default = op at q0 q1 q2 hop hbt
        obtain ⟨kd, n, ob, oad, ocap⟩ := op
        simp only at q0 q1 q2 hbt
        obtain ⟨kk, hkk, hkv⟩ := kind12 kd
        have Hkv := Lib.hid hkv
        have Hop := Lib.hid hop
        have Hbt := Lib.hid hbt
        clear hc hkv hop hbt
        by_cases h8 : kk < 8
        · have hcall := does4_in h5 hfu (by decide) kd n Hop.out.kind Hop.out.n Hbt.out Hop.out.b h8 Hkv.out
          have Hcall := Lib.hid hcall
          have e8 : decide ((kk : Int) < 8) = true := decide_eq_true (by omega)
          have e8n : decide (kk < 8) = true := decide_eq_true h8
          clear hcall
          go_wp2_with fail
          refine (kind4_any kd 12 _ Hop.out.kind (by omega)).mono ?_
          rintro e w' ⟨rfl, rfl⟩
          rw [Hkv.out]
          go_wp2_with fail
          refine Hcall.out.mono ?_
          rintro e w8 ⟨t, d8, G8, rfl, hfu8, h8⟩
          clear h5
          go_wp2_with fail
          go_roundw
          case rel => exact ⟨k + 1, hlt, hlt2, by go_num, d8, G8, hfu8, h8⟩
          case measure => simp [intOf]; omega
        · have e8 : decide ((kk : Int) < 8) = false := decide_eq_false (by omega)
          have e8n : decide (kk < 8) = false := decide_eq_false h8
          clear h8
          go_wp2_with fail
          refine (kind4_any kd 12 _ Hop.out.kind (by omega)).mono ?_
          rintro e w' ⟨rfl, rfl⟩
          rw [Hkv.out]
          go_wp2_with fail
          go_roundw
          case rel => exact ⟨k + 1, hlt, hlt2, by go_num, d, G, hfu, h5⟩
          case measure => simp [intOf]; omega
      · go_wp2_with fail
        all_goals
          go_meet
          case rel => exact ⟨d, G, hfu, h5⟩
  case rest =>
    obtain ⟨d5, G, hfu5, h5⟩ := hcut
    clear h4
    go_wp2_with fail
    refine (commit_st h5 (by decide) hfu5 (show (0 : Nat) < 4611686018427387904 by decide) (t := ⟨0, [], 0⟩) (S' := ⟨1, false, G, G⟩) rfl).mono ?_
    rintro e w6 ⟨d6, rfl, hfu6, h6⟩
    obtain ⟨mb, hmb⟩ : ∃ mb, blkN 1024 G = mb := ⟨_, rfl⟩
    obtain ⟨mi, hmi⟩ : ∃ mi, ifreeTo 1024 G 256 = mi := ⟨_, rfl⟩
    have hbl : ∀ (w : World) (d : DiskM) (k : List Nat) (g : Nat) (op : Bool) (F : Nat → Sec) (R : Assn), Bears w (stA s p d 1024 k ⟨g, op, F, G⟩ * R) → Calls Try.prog 18 #[.pointer (some ⟨s, 0, none⟩)] w fun e w' => e = .returned (.int .i64 mb) ∧ Bears w' (stA s p d 1024 k ⟨g, op, F, G⟩ * R) := by
      intro w d k g op F R h
      have := sblocks_any h
      rwa [hmb] at this
    have hin : ∀ (w : World) (d : DiskM) (k : List Nat) (g : Nat) (op : Bool) (F : Nat → Sec) (R : Assn), Bears w (stA s p d 1024 k ⟨g, op, F, G⟩ * R) → Calls Try.prog 19 #[.pointer (some ⟨s, 0, none⟩)] w fun e w' => e = .returned (.int .i64 mi) ∧ Bears w' (stA s p d 1024 k ⟨g, op, F, G⟩ * R) := by
      intro w d k g op F R h
      have := sinodes_any h
      rwa [hmi] at this
    clear hmb hmi h5
    go_wp2_with fail
    refine (hbl _ _ _ _ _ _ _ h6).mono ?_
    rintro e w7 ⟨rfl, h7⟩
    go_wp2_with fail
    refine (hin _ _ _ _ _ _ _ h7).mono ?_
    rintro e w8 ⟨rfl, h8⟩
    have Hbl := Lib.hid hbl
    have Hin := Lib.hid hin
    obtain ⟨S1, hS1⟩ : ∃ S : SpM, S = ⟨1, false, G, G⟩ := ⟨_, rfl⟩
    rw [← hS1] at h8
    have h9 := h8.zeroRow (e := 85) (size := 3)
    clear hbl hin h6 h7
    go_wp2_with fail
    go_loopw [13, 14] (fun v iv wr => ∃ k : Nat, k ≤ 40 ∧ iv = .int .i64 k ∧ ∃ ad cap d, v = .slice ad (2 * k) cap ∧ d.fuse = -1 ∧ Bears wr (rowA 85 3 (.slice ad (2 * k) cap) (2 * k) (wasL S1 k) * (stA s p d 1024 (outL 1024) S1 * R))) (fun _ iv _ => 40 - (intOf iv).toNat)
    case atStart => exact ⟨0, by omega, rfl, _, _, d6, rfl, hfu6, h9⟩
    case round =>
      clear h8 h9
      obtain ⟨k, hk, rfl, rad, rcap, d, rfl, hfu, h10⟩ := hrel
      by_cases hlt : k < 40
      · have hs4 : SpM.does 1024 S1 4 (k : Int) [] = (S1.read 1024 ((751 + k : Nat) : Int), S1) := by
          simp only [SpM.does, blockN]
          rw [if_pos (by omega), show (751 : Int) + (k : Int) = ((751 + k : Nat) : Int) by omega]
        have hs7 : SpM.does 1024 S1 7 (k : Int) [] = (S1.inode 1024 (k : Int), S1) := rfl
        have hw : wasL S1 (k + 1) = wasL S1 k ++ (toldC (S1.read 1024 ((751 + k : Nat) : Int)) ++ toldC (S1.inode 1024 (k : Int))) := by
          unfold wasL; rw [List.range_succ, List.flatMap_append]; simp
        generalize S1.read 1024 ((751 + k : Nat) : Int) = ta at hs4 hw
        generalize S1.inode 1024 (k : Int) = tb at hs7 hw
        have hg1 : S1.g < 4611686018427387904 := by rw [hS1]; show (1 : Nat) < 4611686018427387904; decide
        have hnil : (rowA 85 3 (.slice rad (2 * k) rcap) (2 * k) (wasL S1 k) * R).Tells (fun w => BytesIn w (.slice none 0 0) []) := fun _ _ => ⟨none, 0, rfl, fun h => absurd rfl h⟩
        have hcall4 := does4_any h10.pull2 hfu hg1 4 (k : Int) (by omega) (by omega) hnil (by simp) (kk := 4) (by omega) (by decide) hs4
        have hcall7 := fun w d k' hf (h : Bears w (stA s p d 1024 k' S1 * (rowA 85 3 (.slice rad (2 * k) rcap) (2 * k) (wasL S1 k) * R))) => does4_any h hf hg1 7 (k : Int) (by omega) (by omega) hnil (by simp) (kk := 7) (by omega) (by decide) hs7
        have Hcall4 := Lib.hid hcall4
        have Hcall7 := Lib.hid hcall7
        have Hw := Lib.hid hw
        clear hs4 hs7 hw hnil hcall4 hcall7 hS1
        go_wp2_with fail
        refine Hcall4.out.mono ?_
        rintro e w11 ⟨d11, rfl, hfu11, h11⟩
        go_wp2_with fail
        refine (Hcall7.out _ _ _ hfu11 h11).mono ?_
        rintro e w12 ⟨d12, rfl, hfu12, h12⟩
        obtain ⟨i0, hi0, hz0, hz1, hz2⟩ := info_parts i_told
        have h13 := (h12.alloc (.cells (toldC ta ++ toldC tb).toArray 85)).pull3
        have hnews := World.news_of_block (cs := (toldC ta ++ toldC tb).toArray) h13.pull2.obj
        clear h10 h11
        go_wp2_with (at_builtin; go_loud (refine wpList_append_bears h13 rfl rfl Try.underlying87 hi0 hz0 hz1 hz2 (by simp [Value.cells]) (by decide) rfl (m := 2) rfl rfl hnews (by intro u hu; simp [toldC] at hu; rcases hu with rfl | rfl | rfl | rfl | rfl | rfl <;> rfl) (by unfold maxLen; omega) (by omega) ?_); intro a' c' w14 h14)
        go_roundw
        case rel => exact ⟨k + 1, hlt, by go_num, a', c', d12, by rw [show 2 * (k + 1) = 2 * k + 2 by omega], hfu12, by rw [show 2 * (k + 1) = 2 * k + 2 by omega, Hw.out]; exact h14.pull2.right⟩
        case measure => simp [intOf]; omega
      · obtain rfl : k = 40 := by omega
        subst hS1
        go_wp2_with fail
        refine (begin_st h10.pull2 (t := ⟨0, [], 0⟩) (S' := ⟨1, true, G, G⟩) rfl).mono ?_
        rintro e w15 ⟨rfl, h15⟩
        clear h10
        go_upto_block 4 with (fail)
        go_cut [] (fun wr => ∃ d G2, d.fuse = -1 ∧ Bears wr (stA s p d 1024 (outL 1024) ⟨1, true, G, G2⟩ * (rowA 85 3 (.slice rad (2 * 40) rcap) (2 * 40) (wasL ⟨1, false, G, G⟩ 40) * R)))
        case first =>
          go_wp2_with fail
          go_loopw [15] (fun iv wr => ∃ k : Nat, k ≤ l2.length ∧ k ≤ 60 ∧ iv = .int .i64 k ∧ ∃ d G2, d.fuse = -1 ∧ Bears wr (stA s p d 1024 (outL 1024) ⟨1, true, G, G2⟩ * (rowA 85 3 (.slice rad (2 * 40) rcap) (2 * 40) (wasL ⟨1, false, G, G⟩ 40) * R))) (fun iv _ => 60 - (intOf iv).toNat)
          case atStart => exact ⟨0, by omega, by omega, rfl, d, G, hfu, h15⟩
          case round =>
            clear h15 hfu
            obtain ⟨k, hk, hk2, rfl, d, G2, hfu, h5⟩ := hrel
            by_cases hlt : k < l2.length ∧ k < 60
            · obtain ⟨hlt, hlt2⟩ := hlt
              obtain ⟨b0, o0, rfl, q0, q1, q2⟩ := (T2.out _ h5.right.right).cells hlt
              have hop := HL2.out k hlt
              have hbt := fun w' (hw : Bears w' (rowA 85 3 (.slice rad (2 * 40) rcap) (2 * 40) (wasL ⟨1, false, G, G⟩ 40) * R)) => (T2.out w' hw.right).bytes hlt
              generalize hc : l2.getD k default = op at q0 q1 q2 hop hbt
              obtain ⟨kd, n, ob, oad, ocap⟩ := op
              simp only at q0 q1 q2 hbt
              obtain ⟨kk, hkk, hkv⟩ := kind12 kd
              have Hkv := Lib.hid hkv
              have Hop := Lib.hid hop
              have Hbt := Lib.hid hbt
              clear hc hkv hop hbt
              by_cases h8 : kk < 8
              · have hcall := does4_in h5 hfu (by decide) kd n Hop.out.kind Hop.out.n Hbt.out Hop.out.b h8 Hkv.out
                have Hcall := Lib.hid hcall
                have e8 : decide ((kk : Int) < 8) = true := decide_eq_true (by omega)
                have e8n : decide (kk < 8) = true := decide_eq_true h8
                clear hcall
                go_wp2_with fail
                refine (kind4_any kd 12 _ Hop.out.kind (by omega)).mono ?_
                rintro e w' ⟨rfl, rfl⟩
                rw [Hkv.out]
                go_wp2_with fail
                refine Hcall.out.mono ?_
                rintro e w8 ⟨t, d8, G8, rfl, hfu8, h8⟩
                clear h5
                go_wp2_with fail
                go_roundw
                case rel => exact ⟨k + 1, hlt, hlt2, by go_num, d8, G8, hfu8, h8⟩
                case measure => simp [intOf]; omega
              · have e8 : decide ((kk : Int) < 8) = false := decide_eq_false (by omega)
                have e8n : decide (kk < 8) = false := decide_eq_false h8
                clear h8
                go_wp2_with fail
                refine (kind4_any kd 12 _ Hop.out.kind (by omega)).mono ?_
                rintro e w' ⟨rfl, rfl⟩
                rw [Hkv.out]
                go_wp2_with fail
                go_roundw
                case rel => exact ⟨k + 1, hlt, hlt2, by go_num, d, G2, hfu, h5⟩
                case measure => simp [intOf]; omega
            · go_wp2_with fail
              all_goals
                go_meet
                case rel => exact ⟨d, G2, hfu, h5⟩
        case rest =>
          obtain ⟨d16, G16, hfu16, h16⟩ := hcut
          clear h15
          go_wp2_with fail
          refine (abort_st h16 (t := ⟨0, [], 0⟩) (S' := ⟨1, false, G, G⟩) rfl).mono ?_
          rintro e w17 ⟨rfl, h17⟩
          clear h16
          obtain ⟨rg, rfl, _⟩ := h17.pull2.rowAt (k := 0) (by decide)
          go_wp2_with fail
          go_loopw [18] (fun iv wr => ∃ k : Nat, k ≤ 40 ∧ iv = .int .i64 k ∧ ∃ d, d.fuse = -1 ∧ Bears wr (stA s p d 1024 (outL 1024) ⟨1, false, G, G⟩ * (rowA 85 3 (.slice (some ⟨rg, 0, none⟩) (2 * 40) rcap) (2 * 40) (wasL ⟨1, false, G, G⟩ 40) * R))) (fun iv _ => 40 - (intOf iv).toNat)
          case atStart => exact ⟨0, by omega, rfl, d16, hfu16, h17⟩
          case round =>
            clear h17 hfu16
            obtain ⟨k, hk, rfl, d, hfu, h18⟩ := hrel
            by_cases hlt : k < 40
            · have hs4 : SpM.does 1024 ⟨1, false, G, G⟩ 4 (k : Int) [] = (SpM.read 1024 ⟨1, false, G, G⟩ ((751 + k : Nat) : Int), ⟨1, false, G, G⟩) := by
                simp only [SpM.does, blockN]
                rw [if_pos (by omega), show (751 : Int) + (k : Int) = ((751 + k : Nat) : Int) by omega]
              have hs7 : SpM.does 1024 ⟨1, false, G, G⟩ 7 (k : Int) [] = (SpM.inode 1024 ⟨1, false, G, G⟩ (k : Int), ⟨1, false, G, G⟩) := rfl
              obtain ⟨w4a, w7a⟩ := wasL_at (S := ⟨1, false, G, G⟩) (n := 40) hlt
              generalize SpM.read 1024 ⟨1, false, G, G⟩ ((751 + k : Nat) : Int) = ta at hs4 w4a
              generalize SpM.inode 1024 ⟨1, false, G, G⟩ (k : Int) = tb at hs7 w7a
              obtain ⟨was, hwas⟩ : ∃ was, wasL ⟨1, false, G, G⟩ 40 = was := ⟨_, rfl⟩
              rw [hwas] at h18 w4a w7a
              have hon4 : ∀ w, (∃ Q, Bears w (rowA 85 3 (.slice (some ⟨rg, 0, none⟩) (2 * 40) rcap) (2 * 40) was * Q)) → w.rangeAt rg (2 * k * 3) (toldC ta) := fun w ⟨_, hq⟩ => by
                obtain ⟨g', e, hr⟩ := hq.rowAt (k := 2 * k) (by omega)
                cases e
                rwa [w4a] at hr
              have hon7 : ∀ w, (∃ Q, Bears w (rowA 85 3 (.slice (some ⟨rg, 0, none⟩) (2 * 40) rcap) (2 * 40) was * Q)) → w.rangeAt rg ((2 * k + 1) * 3) (toldC tb) := fun w ⟨_, hq⟩ => by
                obtain ⟨g', e, hr⟩ := hq.rowAt (k := 2 * k + 1) (by omega)
                cases e
                rwa [w7a] at hr
              have hnil : (rowA 85 3 (.slice (some ⟨rg, 0, none⟩) (2 * 40) rcap) (2 * 40) was * R).Tells (fun w => BytesIn w (.slice none 0 0) []) := fun _ _ => ⟨none, 0, rfl, fun h => absurd rfl h⟩
              have hcall4 := fun w d k' hf (h : Bears w (stA s p d 1024 k' ⟨1, false, G, G⟩ * (rowA 85 3 (.slice (some ⟨rg, 0, none⟩) (2 * 40) rcap) (2 * 40) was * R))) => does4_any h hf (show (1 : Nat) < 4611686018427387904 by decide) 4 (k : Int) (by omega) (by omega) hnil (by simp) (kk := 4) (by omega) (by decide) hs4
              have hcall7 := fun w d k' hf (h : Bears w (stA s p d 1024 k' ⟨1, false, G, G⟩ * (rowA 85 3 (.slice (some ⟨rg, 0, none⟩) (2 * 40) rcap) (2 * 40) was * R))) => does4_any h hf (show (1 : Nat) < 4611686018427387904 by decide) 7 (k : Int) (by omega) (by omega) hnil (by simp) (kk := 7) (by omega) (by decide) hs7
              have Hcall4 := Lib.hid hcall4
              have Hcall7 := Lib.hid hcall7
              have Hon4 := Lib.hid hon4
              have Hon7 := Lib.hid hon7
              have Hwas := Lib.hid hwas
              clear hs4 hs7 w4a w7a hwas hnil hcall4 hcall7 hon4 hon7
              go_wp2_with fail
              have r1 : IntKind.i64.wrap (2 * (k : Int)) = 2 * (k : Int) := IntWalk.i64_in _ (by omega)
              have r2 : IntKind.i64.wrap (2 * (k : Int) + 1) = 2 * (k : Int) + 1 := IntWalk.i64_in _ (by omega)
              have i1 : (0 : Int) ≤ 2 * (k : Int) := by omega
              have i2 : 2 * (k : Int) < 80 := by omega
              have i3 : (0 : Int) ≤ 2 * (k : Int) + 1 := by omega
              have i4 : 2 * (k : Int) + 1 < 80 := by omega
              have i5 : (2 * (k : Int)).toNat = 2 * k := by omega
              have i6 : (2 * (k : Int) + 1).toNat = 2 * k + 1 := by omega
              refine wp_region_L (fun w' => ∃ Q, Bears w' (rowA 85 3 (.slice (some ⟨rg, 0, none⟩) (2 * 40) rcap) (2 * 40) was * Q)) 23
                [(true, 0), (true, 1), (true, 2), (true, 3), (true, 4), (true, 5), (true, 6), (true, 7), (false, 8), (true, 9), (true, 10), (true, 11), (true, 12), (true, 13), (true, 14), (true, 15), (true, 16), (true, 17), (true, 18), (true, 19), (false, 20), (true, 21), (true, 22)] [] (by kernel_rfl) (by kernel_rfl) ⟨_, h18.pull2.drew⟩ ?_
              simp only [pick, List.getElem?_cons_zero, List.getElem?_cons_succ]
              refine wpL_yield (v := ?_) rfl (fun w' hS => ?_) ?_
              rotate_left
              · (go_simp; try with_reducible rfl)
              simp only [Act.put, List.setIfInBounds_toArray, List.set_cons_zero, List.set_cons_succ]
              refine wpL_yield (v := ?_) rfl (fun w' hS => ?_) ?_
              rotate_left
              · (go_simp; try with_reducible rfl)
              simp only [Act.put, List.setIfInBounds_toArray, List.set_cons_zero, List.set_cons_succ]
              refine wpL_yield (v := ?_) rfl (fun w' hS => ?_) ?_
              rotate_left
              · (go_simp; try with_reducible rfl)
              simp only [Act.put, List.setIfInBounds_toArray, List.set_cons_zero, List.set_cons_succ]
              refine wpL_yield (v := ?_) rfl (fun w' hS => ?_) ?_
              rotate_left
              · (go_simp; try with_reducible rfl)
              simp only [Act.put, List.setIfInBounds_toArray, List.set_cons_zero, List.set_cons_succ]
              refine wpL_load_mid 85 _ rfl rfl rg (2 * k * 3) rfl (toldC ta) _ Hon4.out Try.underlying85 rfl (by kernel_rfl) ?_
              simp only [Act.put, List.setIfInBounds_toArray, List.set_cons_zero, List.set_cons_succ]
              refine wpL_yield (v := ?_) rfl (fun w' hS => ?_) ?_
              rotate_left
              · (go_simp; try with_reducible rfl)
              simp only [Act.put, List.setIfInBounds_toArray, List.set_cons_zero, List.set_cons_succ]
              refine wpL_yield (v := ?_) rfl (fun w' hS => ?_) ?_
              rotate_left
              · (go_simp; try with_reducible rfl)
              simp only [Act.put, List.setIfInBounds_toArray, List.set_cons_zero, List.set_cons_succ]
              refine wpL_yield (v := ?_) rfl (fun w' hS => ?_) ?_
              rotate_left
              · (go_simp; try with_reducible rfl)
              simp only [Act.put, List.setIfInBounds_toArray, List.set_cons_zero, List.set_cons_succ]
              refine wpL_eff rfl ?_
              go_simp
              refine (Hcall4.out _ _ _ hfu h18.drew).mono ?_
              rintro e w19 ⟨d19, rfl, hfu19, h19⟩
              refine ⟨⟨_, h19.pull2⟩, ?_⟩
              simp only [toldC]
              refine wpL_yield (v := ?_) rfl (fun w' hS => ?_) ?_
              rotate_left
              · (go_simp; try with_reducible rfl)
              simp only [Act.put, List.setIfInBounds_toArray, List.set_cons_zero, List.set_cons_succ]
              refine wpL_yield (v := ?_) rfl (fun w' hS => ?_) ?_
              rotate_left
              · (go_simp; try with_reducible rfl)
              simp only [Act.put, List.setIfInBounds_toArray, List.set_cons_zero, List.set_cons_succ]
              refine wpL_guarded (v := ?_) rfl (fun w' hS => ?_) ?_
              rotate_left
              · (go_simp; try with_reducible rfl)
              simp only [Act.put, List.setIfInBounds_toArray, List.set_cons_zero, List.set_cons_succ]
              refine wpL_guarded (v := ?_) rfl (fun w' hS => ?_) ?_
              rotate_left
              · (go_simp; try with_reducible rfl)
              simp only [Act.put, List.setIfInBounds_toArray, List.set_cons_zero, List.set_cons_succ]
              refine wpL_guarded (v := ?_) rfl (fun w' hS => ?_) ?_
              rotate_left
              · (go_simp; try with_reducible rfl)
              simp only [Act.put, List.setIfInBounds_toArray, List.set_cons_zero, List.set_cons_succ]
              refine wpL_guarded (v := ?_) rfl (fun w' hS => ?_) ?_
              rotate_left
              · (go_simp; try with_reducible rfl)
              simp only [Act.put, List.setIfInBounds_toArray, List.set_cons_zero, List.set_cons_succ]
              refine wpL_guarded (v := ?_) rfl (fun w' hS => ?_) ?_
              rotate_left
              · (go_simp; try with_reducible rfl)
              simp only [Act.put, List.setIfInBounds_toArray, List.set_cons_zero, List.set_cons_succ]
              refine wpL_load_midG 85 _ rfl rfl rg ((2 * k + 1) * 3) rfl (toldC tb) _ Hon7.out Try.underlying85 rfl (by kernel_rfl) ?_
              simp only [Act.put, List.setIfInBounds_toArray, List.set_cons_zero, List.set_cons_succ]
              refine wpL_guarded (v := ?_) rfl (fun w' hS => ?_) ?_
              rotate_left
              · (go_simp; try with_reducible rfl)
              simp only [Act.put, List.setIfInBounds_toArray, List.set_cons_zero, List.set_cons_succ]
              refine wpL_guarded (v := ?_) rfl (fun w' hS => ?_) ?_
              rotate_left
              · (go_simp; try with_reducible rfl)
              simp only [Act.put, List.setIfInBounds_toArray, List.set_cons_zero, List.set_cons_succ]
              refine wpL_guarded (v := ?_) rfl (fun w' hS => ?_) ?_
              rotate_left
              · (go_simp; try with_reducible rfl)
              simp only [Act.put, List.setIfInBounds_toArray, List.set_cons_zero, List.set_cons_succ]
              refine wpL_effG rfl ?_
              go_simp
              refine (Hcall7.out _ _ _ hfu19 h19).mono ?_
              rintro e w20 ⟨d20, rfl, hfu20, h20⟩
              refine ⟨⟨_, h20.pull2⟩, ?_⟩
              simp only [toldC]
              refine wpL_guarded (v := ?_) rfl (fun w' hS => ?_) ?_
              rotate_left
              · (go_simp; try with_reducible rfl)
              simp only [Act.put, List.setIfInBounds_toArray, List.set_cons_zero, List.set_cons_succ]
              refine wpL_yield (v := ?_) rfl (fun w' hS => ?_) ?_
              rotate_left
              · (go_simp; try with_reducible rfl)
              simp only [Act.put, List.setIfInBounds_toArray, List.set_cons_zero, List.set_cons_succ]
              refine wpL_nil ?_
              refine wpL_nil ?_
              go_wp2_with fail
              go_roundw
              case rel => exact ⟨k + 1, hlt, by go_num, d20, hfu20, by rw [Hwas.out]; exact h20⟩
              case measure => simp [intOf]; omega
            · obtain rfl : k = 40 := by omega
              go_wp2_with fail
              refine (Hbl.out _ _ _ _ _ _ _ h18).mono ?_
              rintro e w19 ⟨rfl, h19⟩
              go_wp2_with fail
              refine (Hin.out _ _ _ _ _ _ _ h19).mono ?_
              rintro e w20 ⟨rfl, h20⟩
              go_wp2_with fail
              refine (sgroups_any h20).mono ?_
              rintro e w21 ⟨rfl, h21⟩
              go_wp2_with fail
              go_ret
              exact ⟨rfl, h21.right.right⟩

end Go.Proofs.Ytaiobekochhemaa
