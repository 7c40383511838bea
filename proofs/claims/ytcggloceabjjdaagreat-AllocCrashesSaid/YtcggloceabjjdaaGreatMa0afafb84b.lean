/- Texts of this claim, put together: OpsZ, TOps, APlaysW, RSW13, ACrashM, ACrashesW; no condition. -/
import Derived.Test.YtcggloceabjjdaaGreatMbd27192ae8
import Derived.SizedLaws
import Derived.ChangeMaps5
import Derived.Deep.DeepCutAuto
import Derived.Deep.CutBlock
import Derived.Lib.Builder

set_option linter.unusedSimpArgs false
set_option linter.unusedVariables false

/- Readings of arguments, with the bounds of their sizes; no condition. -/
namespace Go.Proofs.YtcggloceabjjdaaGreat
open Go.RowKit Go.ChangeShapes Go.WideShapes Go.Deep

section
variable {H : Type} {enc : TypeId × Value → H} {P : Program} {W : World}

/-- The value v reads as something of type t, and is no greater than memory. -/
def TrodZ (enc : TypeId × Value → H) (P : Program) (W : World) (t : TypeId) (v : Value) : Prop :=
  ∃ fuel x, DataW.trod enc P W 0 (fun _ => true) true fuel t [v] = some x ∧ ∀ n ∈ x.1.weights P t, n ≤ reachBytes

theorem TrodZ.i64 {t : TypeId} {v : Value} (ht : P.underlying t = some (.int .i64)) (h : TrodZ enc P W t v) : ∃ z, v = .int .i64 z ∧ -9223372036854775808 ≤ z ∧ z ≤ 9223372036854775807 := by
  obtain ⟨_, _, h, _⟩ := h
  exact trod_i64 ht h
theorem TrodZ.u8 {t : TypeId} {v : Value} (ht : P.underlying t = some (.int .u8)) (h : TrodZ enc P W t v) : ∃ c, v = byteV c := by
  obtain ⟨_, _, h, _⟩ := h
  exact trod_u8 ht h
theorem TrodZ.str {t : TypeId} {v : Value} (ht : P.underlying t = some .string) (h : TrodZ enc P W t v) : ∃ s : ByteArray, v = .string s ∧ s.size ≤ reachBytes := by
  obtain ⟨_, x, h, hz⟩ := h
  obtain ⟨s, h1, rfl, _⟩ := DataW.trod_string ht h
  simp only [List.cons.injEq, and_true] at h1
  refine ⟨s, h1, ?_⟩
  have := hz s.data.toList.length (by simp [DataW.weights])
  simpa using this

theorem weightsAll_mem {e : TypeId} {n : Nat} : ∀ {l : List (DataW H)} {d : DataW H}, d ∈ l → n ∈ d.weights P e → n ∈ DataW.weightsAll P e l
  | _ :: _, _, .head _, h => List.mem_append_left _ h
  | _ :: _, _, .tail _ hm, h => List.mem_append_right _ (weightsAll_mem hm h)

/-- A slice, element by element: its cells, and their readings. -/
theorem TrodZ.slice {t e : TypeId} (ht : P.underlying t = some (.slice e)) {a : Option Addr} {len cap : Nat} (h : TrodZ enc P W t (.slice a len cap)) :
    len ≤ cap ∧ cap * P.bytesOf e ≤ reachBytes ∧ (a = none → len = 0 ∧ cap = 0) ∧ ∀ a', a = some a' → ∀ i, i < cap → ∃ n cs x, W.cells? 0 (a'.add (i * P.cellsOf e)) (P.cellsOf e) = some cs ∧ DataW.trod enc P W 0 (fun _ => true) true n e cs = some x ∧ ∀ n ∈ x.1.weights P e, n ≤ reachBytes := by
  obtain ⟨fuel, x, h, hz⟩ := h
  rcases open_slice ht h with ⟨hcs, _⟩ | ⟨a', len', cap', m, n, D, Pl, hcs, hb, hl, hm, hmm, rfl, hi⟩
  · simp only [List.cons.injEq, Value.slice.injEq, and_true] at hcs
    obtain ⟨rfl, rfl, rfl⟩ := hcs
    exact ⟨Nat.le_refl _, by simp, fun _ => ⟨rfl, rfl⟩, fun a' h => by cases h⟩
  · simp only [List.cons.injEq, Value.slice.injEq, and_true] at hcs
    obtain ⟨rfl, rfl, rfl⟩ := hcs
    simp only [if_true] at hmm
    subst hmm
    simp only [DataW.weights, ht, List.length_map, List.length_range, List.mem_cons, List.mem_append] at hz
    have h1 := hz _ (.inl rfl)
    rw [show len + (m - len) = m by omega] at h1
    refine ⟨hl, h1, (fun h => by cases h), fun a2 e2 i him => ?_⟩
    cases e2
    obtain ⟨cs, h2, h3⟩ := hi i him
    refine ⟨n, cs, _, h2, h3, fun k hk => hz k (.inr ?_)⟩
    by_cases hil : i < len
    · exact .inl (weightsAll_mem (List.mem_map.2 ⟨i, by simpa using hil, rfl⟩) hk)
    · exact .inr (weightsAll_mem (List.mem_map.2 ⟨i - len, by simp; omega, by rw [show len + (i - len) = i by omega]⟩) hk)

/-- A slice of structs whose fields are of one cell each, row by row. -/
theorem TrodZ.rows {t e : TypeId} {fs : Array Field} (ht : P.underlying t = some (.slice e)) (he : P.underlying e = some (.struct fs)) (hone : oneCellFields P fs = true) (hC : P.cellsOf e = fs.size) (hpos : 0 < fs.size)
    {a : Option Addr} {len cap : Nat} (h : TrodZ enc P W t (.slice a len cap)) :
    len * P.bytesOf e ≤ reachBytes ∧ ∃ rows : Nat → List Value, (0 < len → ∃ b o, a = some ⟨b, o, none⟩ ∧ b < W.heap.size ∧ ∀ i j, i < len → j < fs.size → W.cell? ⟨b, o + i * fs.size + j, none⟩ = (rows i)[j]?) ∧
      ∀ i, i < len → (rows i).length = fs.size ∧ ∀ (j : Nat) (f : Field), fs[j]? = some f → ∃ v, (rows i)[j]? = some v ∧ TrodZ enc P W f.type v := by
  obtain ⟨h1, h2, h3, h4⟩ := h.slice ht
  have h5 : len * P.bytesOf e ≤ reachBytes := Nat.le_trans (Nat.mul_le_mul_right _ h1) h2
  cases a with
  | none =>
    obtain ⟨rfl, rfl⟩ := h3 rfl
    exact ⟨h5, fun _ => [], fun h => absurd h (by omega), fun i h => absurd h (by omega)⟩
  | some a' =>
    have hall : ∀ i, i < len → ∃ r : List Value, r.length = fs.size ∧ (∀ j, j < fs.size → W.cell? (a'.add (i * fs.size + j)) = r[j]?) ∧ ∀ (j : Nat) (f : Field), fs[j]? = some f → ∃ v, r[j]? = some v ∧ TrodZ enc P W f.type v := by
      intro i hi
      obtain ⟨n, cs, x, hcs, hx, hz⟩ := h4 a' rfl i (by omega)
      rw [hC] at hcs
      obtain ⟨_, g2, g3⟩ := World.cells?_some hcs
      refine ⟨cs, g2, fun j hj => by rw [← add_add]; exact g3 j hj, fun j f hj => ?_⟩
      obtain ⟨ys, n', hn', rfl, hlen, hyl, hf⟩ := DataW.trod_struct he hx
      obtain ⟨ho, hk⟩ := hone_of hone j f hj
      have hjl : j < fs.size := (Array.getElem?_eq_some_iff.1 hj).1
      have g4 := hf j f hj
      rw [ho, hk] at g4
      have g5 : (cs.drop j).take 1 = [cs[j]'(by omega)] := by
        rw [List.drop_eq_getElem_cons (by omega)]
        rfl
      rw [g5, List.getElem?_eq_getElem (by omega)] at g4
      refine ⟨_, List.getElem?_eq_getElem (by omega), n', _, g4, fun k hk => hz k ?_⟩
      simp only [DataW.weights, he]
      refine DataW.weights_mem_each (j := j) (t := f.type) ?_ ?_ k hk
      · rw [List.getElem?_map, Array.getElem?_toList, hj]; rfl
      · rw [List.getElem?_map, List.getElem?_eq_getElem (by omega)]; rfl
    obtain ⟨rows, hr⟩ := choose_lt hall
    refine ⟨h5, rows, fun h0 => ?_, fun i hi => ⟨(hr i hi).1, (hr i hi).2.2⟩⟩
    obtain ⟨g1, g2, _⟩ := hr 0 h0
    have g3 := g2 0 hpos
    rw [List.getElem?_eq_getElem (by omega)] at g3
    have e0 : a'.add (0 * fs.size + 0) = a' := by simp [Addr.add]
    rw [e0] at g3
    have ex := addr_of_cell g3
    refine ⟨a'.block, a'.off, by rw [← ex], World.block_lt_of_cell? W a' g3, fun i j hi hj => ?_⟩
    have g4 := (hr i hi).2.1 j hj
    rw [ex, Addr.add_mid] at g4
    rw [← g4, Nat.add_assoc]

/-- A slice of elements of one cell each. -/
theorem TrodZ.cells {t e : TypeId} (ht : P.underlying t = some (.slice e)) (hC : P.cellsOf e = 1) {a : Option Addr} {len cap : Nat} (h : TrodZ enc P W t (.slice a len cap)) :
    len * P.bytesOf e ≤ reachBytes ∧ ∃ vs : List Value, vs.length = len ∧ (0 < len → ∃ b o, a = some ⟨b, o, none⟩ ∧ b < W.heap.size ∧ W.rangeAt b o vs) ∧ ∀ v ∈ vs, TrodZ enc P W e v := by
  obtain ⟨h1, h2, h3, h4⟩ := h.slice ht
  have h5 : len * P.bytesOf e ≤ reachBytes := Nat.le_trans (Nat.mul_le_mul_right _ h1) h2
  cases a with
  | none =>
    obtain ⟨rfl, rfl⟩ := h3 rfl
    exact ⟨h5, [], rfl, fun h => absurd h (by omega), fun v h => by cases h⟩
  | some a' =>
    have hall : ∀ i, i < len → ∃ v : Value, W.cell? (a'.add i) = some v ∧ TrodZ enc P W e v := by
      intro i hi
      obtain ⟨n, cs, x, hcs, hx, hz⟩ := h4 a' rfl i (by omega)
      rw [hC, Nat.mul_one] at hcs
      obtain ⟨_, g2, g3⟩ := World.cells?_some hcs
      obtain ⟨v, rfl⟩ : ∃ v, cs = [v] := by
        match cs, g2 with
        | [v], _ => exact ⟨v, rfl⟩
      have g4 := g3 0 (by omega)
      have e0 : ∀ a : Addr, a.add 0 = a := fun a => by simp [Addr.add]
      rw [e0] at g4
      exact ⟨v, g4, n, x, hx, hz⟩
    obtain ⟨f, hf⟩ := choose_lt hall
    refine ⟨h5, (List.range len).map f, by simp, fun h0 => ?_, fun v hv => ?_⟩
    · obtain ⟨g1, _⟩ := hf 0 h0
      have e0 : a'.add 0 = a' := by simp [Addr.add]
      rw [e0] at g1
      have ex := addr_of_cell g1
      refine ⟨a'.block, a'.off, by rw [← ex], World.block_lt_of_cell? W a' g1, fun j v hv => ?_⟩
      have hj : j < len := by have := (List.getElem?_eq_some_iff.1 hv).1; simpa using this
      have g2 := (hf j hj).1
      rw [ex, Addr.add_mid] at g2
      rw [g2]
      simpa [hj] using hv
    · obtain ⟨i, hi, rfl⟩ := List.mem_map.1 hv
      exact (hf i (by simpa using hi)).2
end

section
variable {H : Type} {enc : TypeId × Value → H} {W : World}
/-- The value v is a slice of the bytes l in the old memory. -/
theorem TrodZ.bytes {v : Value} {ad : Option Addr} {len cap : Nat} (hv : v = .slice ad len cap) (h : TrodZ enc Tryz.prog W 34 v) :
    ∃ l : List UInt8, l.length = len ∧ (Assn.old W.heap.size W).Tells (fun w => BytesIn w (.slice ad len cap) l) ∧ len ≤ 140737488351232 := by
  subst hv
  obtain ⟨h1, vs, rfl, h2, h3⟩ := h.cells (e := 5) Tryz.underlying34 (by kernel_rfl)
  rw [show Tryz.prog.bytesOf 5 = 1 from by kernel_rfl, Nat.mul_one] at h1
  have hall : ∀ i, i < vs.length → ∃ c : UInt8, vs[i]? = some (byteV c) := by
    intro i hi
    obtain ⟨c, hc⟩ := (h3 _ (List.getElem_mem hi)).u8 (by kernel_rfl)
    exact ⟨c, by rw [List.getElem?_eq_getElem hi, hc]⟩
  obtain ⟨f, hf⟩ := choose_lt hall
  have he : cellsV ((List.range vs.length).map f) = vs := by
    apply List.ext_getElem?
    intro i
    unfold cellsV
    by_cases hi : i < vs.length
    · rw [hf i hi]; simp [hi]
    · rw [List.getElem?_eq_none (by simp; omega), List.getElem?_eq_none (by omega)]
  refine ⟨(List.range vs.length).map f, by simp, fun w hw => ⟨ad, cap, by simp, fun hne => ?_⟩, by unfold reachBytes at h1; omega⟩
  have hpos : 0 < vs.length := by
    rcases Nat.eq_zero_or_pos vs.length with e | e
    · rw [e] at hne; simp at hne
    · exact e
  obtain ⟨b, o, ha, hb, hr⟩ := h2 hpos
  rw [he]
  exact ⟨b, o, ha, old_tells (p := fun w => w.rangeAt b o vs) (fun w hw => range_old hr hb hw) w hw⟩
/-- The value v is a slice of the integers l in the old memory. -/
theorem TrodZ.ints {v : Value} {ad : Option Addr} {len cap : Nat} (hv : v = .slice ad len cap) (h : TrodZ enc Tryz.prog W 50 v) :
    ∃ l : List Int, l.length = len ∧ (Assn.old W.heap.size W).Tells (fun w => IntsIn w (.slice ad len cap) l) ∧ len ≤ 140737488351232 ∧ ∀ x ∈ l, -9223372036854775808 ≤ x ∧ x ≤ 9223372036854775807 := by
  subst hv
  obtain ⟨h1, vs, rfl, h2, h3⟩ := h.cells (e := 3) Tryz.underlying50 (by kernel_rfl)
  rw [show Tryz.prog.bytesOf 3 = 8 from by kernel_rfl] at h1
  have hall : ∀ i, i < vs.length → ∃ c : Int, vs[i]? = some (.int .i64 c) ∧ -9223372036854775808 ≤ c ∧ c ≤ 9223372036854775807 := by
    intro i hi
    obtain ⟨c, hc, hb⟩ := (h3 _ (List.getElem_mem hi)).i64 (by kernel_rfl)
    exact ⟨c, by rw [List.getElem?_eq_getElem hi, hc], hb⟩
  obtain ⟨f, hf⟩ := choose_lt hall
  have he : ((List.range vs.length).map f).map (Value.int .i64) = vs := by
    apply List.ext_getElem?
    intro i
    by_cases hi : i < vs.length
    · rw [(hf i hi).1]; simp [hi]
    · rw [List.getElem?_eq_none (by simp; omega), List.getElem?_eq_none (by omega)]
  refine ⟨(List.range vs.length).map f, by simp, fun w hw => ⟨ad, cap, by simp, fun hne => ?_⟩, by unfold reachBytes at h1; omega, fun x hx => ?_⟩
  · have hpos : 0 < vs.length := by
      rcases Nat.eq_zero_or_pos vs.length with e | e
      · rw [e] at hne; simp at hne
      · exact e
    obtain ⟨b, o, ha, hb, hr⟩ := h2 hpos
    rw [he]
    exact ⟨b, o, ha, old_tells (p := fun w => w.rangeAt b o vs) (fun w hw => range_old hr hb hw) w hw⟩
  · obtain ⟨i, hi, rfl⟩ := List.mem_map.1 hx
    exact (hf i (by simpa using hi)).2
end

end Go.Proofs.YtcggloceabjjdaaGreat

/- A slice of the space's calls (a kind, a number, bytes) that came in; no condition. -/
namespace Go.Proofs.YtcggloceabjjdaaGreat
open Go.RowKit Go.ChangeShapes Go.WideShapes Go.Deep

structure TOpM where
  kind : Int
  n : Int
  b : List UInt8
  bad : Option Addr
  bcap : Nat
instance : Inhabited TOpM := ⟨⟨0, 0, [], none, 0⟩⟩
def TOpM.row (o : TOpM) : List Value := [.int .i64 o.kind, .int .i64 o.n, .slice o.bad o.b.length o.bcap]
structure TOpM.Fine (o : TOpM) : Prop where
  kind : -9223372036854775808 ≤ o.kind ∧ o.kind ≤ 9223372036854775807
  n : -9223372036854775808 ≤ o.n ∧ o.n ≤ 9223372036854775807
  b : o.b.length ≤ 140737488351232

def TOpsIn (w : World) (v : Value) (ops : List TOpM) : Prop :=
  ∃ ad cap, v = .slice ad ops.length cap ∧ (ops ≠ [] → ∃ b o, ad = some ⟨b, o, none⟩ ∧ ∀ i j u, i < ops.length → (ops.getD i default).row[j]? = some u → w.cell? ⟨b, o + i * 3 + j, none⟩ = some u) ∧
    ∀ k, k < ops.length → BytesIn w (.slice (ops.getD k default).bad (ops.getD k default).b.length (ops.getD k default).bcap) (ops.getD k default).b

theorem TOpsIn.cells {w : World} {ad : Option Addr} {n cap : Nat} {ops : List TOpM} (h : TOpsIn w (.slice ad n cap) ops) {k : Nat} (hk : k < ops.length) :
    ∃ b o, ad = some ⟨b, o, none⟩ ∧ w.cell? ⟨b, o + k * 3, none⟩ = some (.int .i64 (ops.getD k default).kind) ∧ w.cell? ⟨b, o + k * 3 + 1, none⟩ = some (.int .i64 (ops.getD k default).n) ∧
      w.cell? ⟨b, o + k * 3 + 2, none⟩ = some (.slice (ops.getD k default).bad (ops.getD k default).b.length (ops.getD k default).bcap) := by
  obtain ⟨ad', cap', hv, hr, _⟩ := h
  simp only [Value.slice.injEq] at hv
  obtain ⟨rfl, _, _⟩ := hv
  obtain ⟨b, o, e, hc⟩ := hr (by intro e; simp [e] at hk)
  exact ⟨b, o, e, hc k 0 _ hk rfl, hc k 1 _ hk rfl, hc k 2 _ hk rfl⟩
theorem TOpsIn.bytes {w : World} {v : Value} {ops : List TOpM} (h : TOpsIn w v ops) {k : Nat} (hk : k < ops.length) :
    BytesIn w (.slice (ops.getD k default).bad (ops.getD k default).b.length (ops.getD k default).bcap) (ops.getD k default).b := by
  obtain ⟨_, _, _, _, h⟩ := h
  exact h k hk

theorem row_tops {H : Type} {enc : TypeId × Value → H} {W : World} {a : Option Addr} {len cap : Nat} (h : TrodZ enc Tryz.prog W 22 (.slice a len cap)) :
    ∃ ops : List TOpM, ops.length = len ∧ (Assn.old W.heap.size W).Tells (fun w => TOpsIn w (.slice a len cap) ops) ∧ len ≤ 9223372036854775807 ∧ ∀ k, k < ops.length → (ops.getD k default).Fine := by
  obtain ⟨hm, rows, hcell, hrow⟩ := h.rows (e := 36) Tryz.underlying22 Tryz.underlying36 (by kernel_rfl) (by kernel_rfl) (by decide)
  have hby : 0 < Tryz.prog.bytesOf 36 := by decide +kernel
  have hlen : len ≤ 9223372036854775807 := by
    have := Nat.le_trans (Nat.le_mul_of_pos_right len hby) hm
    unfold reachBytes at this
    omega
  have hop : ∀ i, i < len → ∃ o : TOpM, rows i = o.row ∧ (Assn.old W.heap.size W).Tells (fun w => BytesIn w (.slice o.bad o.b.length o.bcap) o.b) ∧ o.Fine := by
    intro i hi
    obtain ⟨hl, hf⟩ := hrow i hi
    obtain ⟨v0, g0, h0⟩ := hf 0 _ rfl
    obtain ⟨v1, g1, h1⟩ := hf 1 _ rfl
    obtain ⟨v2, g2, h2⟩ := hf 2 _ rfl
    obtain ⟨z0, rfl, b0⟩ := h0.i64 (by kernel_rfl)
    obtain ⟨z1, rfl, b1⟩ := h1.i64 (by kernel_rfl)
    obtain ⟨ba, bl, bc, rfl⟩ : ∃ a l c, v2 = .slice a l c := by
      obtain ⟨_, _, hx, _⟩ := h2
      rcases open_slice Tryz.underlying34 hx with ⟨hcs, _⟩ | ⟨a', l', c', _, _, _, _, hcs, _⟩
      · simp only [List.cons.injEq, and_true] at hcs; exact ⟨_, _, _, hcs⟩
      · simp only [List.cons.injEq, and_true] at hcs; exact ⟨_, _, _, hcs⟩
    obtain ⟨l, rfl, ht, hb⟩ := TrodZ.bytes rfl h2
    refine ⟨⟨z0, z1, l, ba, bc⟩, ?_, ht, ⟨b0, b1, hb⟩⟩
    match hq : rows i, hl with
    | [u0, u1, u2], _ =>
      rw [hq] at g0 g1 g2
      simp only [List.getElem?_cons_zero, List.getElem?_cons_succ, Option.some.injEq] at g0 g1 g2
      subst g0; subst g1; subst g2
      rfl
  obtain ⟨f, hf⟩ := choose_lt hop
  have hget : ∀ i, i < len → ((List.range len).map f).getD i default = f i := by
    intro i hi
    simp [hi]
  refine ⟨(List.range len).map f, by simp, ?_, hlen, fun k hk => ?_⟩
  · intro w hw
    refine ⟨a, cap, by simp, fun hne => ?_, fun k hk => ?_⟩
    · have hpos : 0 < len := by
        rcases Nat.eq_zero_or_pos len with e | e
        · subst e; simp at hne
        · exact e
      obtain ⟨b, o, ha, hb, hc⟩ := hcell hpos
      refine ⟨b, o, ha, fun i j u hi hu => ?_⟩
      simp only [List.length_map, List.length_range] at hi
      rw [hget i hi] at hu
      have hj : j < 3 := by
        have := (List.getElem?_eq_some_iff.1 hu).1
        simpa [TOpM.row] using this
      have h1 := hc i j hi hj
      rw [(hf i hi).1, hu] at h1
      have h2 : w.rangeAt b (o + i * 3 + j) [u] := old_tells (p := fun w => w.rangeAt b (o + i * 3 + j) [u]) (fun w hw => range_old (fun j' v' hv' => by
        cases j' with
        | zero => simp only [List.getElem?_cons_zero, Option.some.injEq] at hv'; subst hv'; exact h1
        | succ n => simp at hv') hb hw) w hw
      exact h2 0 u rfl
    · simp only [List.length_map, List.length_range] at hk
      rw [hget k hk]
      exact (hf k hk).2.1 w hw
  · simp only [List.length_map, List.length_range] at hk
    rw [hget k hk]
    exact (hf k hk).2.2

end Go.Proofs.YtcggloceabjjdaaGreat

/- AllocPlays walked; no condition. -/
namespace Go.Proofs.YtcggloceabjjdaaGreat
open Go.RowKit Go.MapKept

theorem kind12' (c : Int) : ∃ s : Nat, s < 12 ∧ (if c < 0 then (-(c + 1)) % 12 else c % 12) = (s : Int) := kindN_lt c 12 (by decide)

/-- What is there of a space whose owner opens it anew. -/
theorem Bears.stReopen {s p : Nat} {d : DiskM} {k : List Nat} {S : SpM} {R : Assn} {w : World} (h : Bears w (stA s p d 1024 k S * R)) : LogOn d 1 620 S.g S.F ∧ d.len = 1024 ∧ (∀ i, (S.F i).length = 64) ∧ Bears w (diskA p d * R) := by
  obtain ⟨c, x, hok, h1⟩ := Bears.sp.1 h
  exact ⟨hok.log, hok.size, hok.f64, h1.right.right.pull2.right⟩

set_option maxRecDepth 100000 in
set_option maxHeartbeats 4000000 in
theorem allocPlays_walk {R : Assn} {w : World} (h : Bears w R) {oad : Option Addr} {on ocap : Nat} {ops : List TOpM} (hops : R.Tells (fun w => TOpsIn w (.slice oad on ocap) ops)) (hon : ops.length = on) (hfine : ∀ k, k < ops.length → (ops.getD k default).Fine) (hlo : on ≤ 9223372036854775807) :
    Calls Tryz.prog 3 #[.slice oad on ocap] w fun e w' => e = .returned (.bool true) ∧ Bears w' R := by
  have Hfine := Lib.hid hfine
  have Hops := Lib.hid hops
  have Hon := Lib.hid hon
  clear hfine hops hon
  have hsb : superB 1024 = superB 1024 := rfl
  obtain ⟨s0, hs0⟩ : ∃ s, superB 1024 = s := ⟨_, rfl⟩
  have Hs0 := Lib.hid hs0
  clear hsb hs0
  go_enter Tryz.func3, Tryz.ntmps3
  go_wp2_with fail
  refine (shown4_any h).mono ?_
  rintro e w1 ⟨rfl, h1⟩
  go_wp2_with fail
  refine (ground4_any h1).mono ?_
  rintro e w2 ⟨p, sp0, d0, rfl, hfu0, h2⟩
  go_wp2_with fail
  refine (rsnew_any h2).mono ?_
  rintro e w3 ⟨y, rfl, h3⟩
  have h4 : Bears w3 (stA sp0 p d0 1024 (outL 1024) ⟨0, false, freshF 1024, freshF 1024⟩ * (spcA y Assn.emp 1024 ⟨0, false, freshF 1024, freshF 1024⟩ * (Assn.emp * R))) := by
    have := h3.pull3.spLeast
    exact this.cast (by ac_rfl)
  have hf0 : freshF 1024 0 = s0 := Hs0.out
  have HF0 := Lib.hid hf0
  generalize freshF 1024 = F0 at h4 HF0
  clear h h1 h2 h3 hf0
  go_wp2_with fail
  go_loopw [5, 8] (fun sv iv wr => ∃ (k s : Nat) (Y : Assn) (d : DiskM) (S : SpM), k ≤ ops.length ∧ k ≤ 200 ∧ iv = .int .i64 k ∧ sv = .pointer (some ⟨s, 0, none⟩) ∧ d.fuse = -1 ∧ S.g ≤ k ∧ Hid (S.F 0 = s0) ∧ Hid (S.G 0 = s0) ∧ S.Shut ∧
    Bears wr (stA s p d 1024 (outL 1024) S * (spcA y Y 1024 S * (Y * R)))) (fun _ iv _ => 200 - (intOf iv).toNat)
  case atStart => exact ⟨0, sp0, Assn.emp, d0, _, by omega, by omega, rfl, rfl, hfu0, Nat.zero_le _, HF0, HF0, fun _ => rfl, h4⟩
  case round =>
    clear h4 hfu0 HF0
    obtain ⟨k, s, Y, d, S, hk, hk2, rfl, rfl, hfu, hSg, HF, HG, hsh, h5⟩ := hrel
    by_cases hlt : k < ops.length ∧ k < 200
    · obtain ⟨hlt, hlt2⟩ := hlt
      obtain ⟨ob, oo, rfl, q0, q1, q2⟩ := (Hops.out _ h5.right.right.right).cells hlt
      have hop := Hfine.out k hlt
      have hbt := Hops.out.mono (fun w h => h.bytes hlt)
      have hkI : (k : Int) < (on : Int) := by have := Hon.out; omega
      have hk40 : (k : Int) < 200 := by omega
      generalize hc : ops.getD k default = op at q0 q1 q2 hop hbt
      have hc2 := hc
      obtain ⟨kd, n, obs, oad, ocp⟩ := op
      simp only at q0 q1 q2 hbt
      obtain ⟨kk, hkk, hkv⟩ := kind12' kd
      have Hkv := Lib.hid hkv
      have Hop := Lib.hid hop
      have Hbt := Lib.hid hbt
      clear hc hkv hop hbt
      have hmany := rsmany_any h5.pull2 (by omega)
      have Hmany := Lib.hid hmany
      clear hmany
      go_wp2_with fail
      refine Hmany.out.mono ?_
      rintro e w' ⟨⟨m, hm, rfl⟩, rfl⟩
      by_cases hmm : 400 < (m : Int)
      · go_wp2_with fail
        go_ret
        exact ⟨rfl, h5.right.right.right⟩
      clear Hmany
      by_cases h11 : kk = 11
      · subst h11
        go_wp2_with fail
        refine (kind4_any kd 12 _ Hop.out.kind (by omega)).mono ?_
        rintro e w' ⟨rfl, rfl⟩
        rw [Hkv.out]
        obtain ⟨hL, hdl, hF64, h6⟩ := h5.stReopen
        have hop2 := space_opens h6 hL (by rw [hdl]; omega) (by rw [hdl]; omega) (by rw [hdl]; exact HF.out.trans Hs0.out.symm) hF64 (by omega)
        rw [hdl] at hop2
        have Hop2 := Lib.hid hop2
        have HL := Lib.hid hL
        clear hop2 hL hdl hF64 h5 h6
        go_wp2_with fail
        refine Hop2.out.mono ?_
        rintro e w7 ⟨s2, rfl, h7⟩
        have h8 := h7.spLeast
        obtain ⟨was, now, tv, ts, _, h9⟩ := Bears.spc.1 h8.pull2
        obtain ⟨_, _, _, c3, _, _, _⟩ := h9.spcCells
        clear h9 h7
        obtain ⟨g, op, F, G⟩ := S
        simp only at c3 hSg HF HG h8
        cases op with
        | false =>
          obtain rfl : F = G := (hsh rfl).symm
          go_wp2_with fail
          go_roundw
          case rel => exact ⟨k + 1, s2, Y, d, ⟨g, false, F, F⟩, hlt, hlt2, by go_num, rfl, hfu, Nat.le_succ_of_le hSg, HF, HF, fun _ => rfl, h8⟩
          case measure => simp [intOf]; omega
        | true =>
          have hab := fun w Q (h : Bears w (spcA y Y 1024 ⟨g, true, F, G⟩ * Q)) => rsabort_any h (by omega) (t := ⟨0, [], 0⟩) (S' := ⟨g, false, F, F⟩) rfl
          have Hab := Lib.hid hab
          clear hab
          go_wp2_with fail
          refine (Hab.out _ _ h8.pull2).mono ?_
          rintro e w9 ⟨rfl, h9⟩
          go_wp2_with fail
          go_roundw
          case rel => exact ⟨k + 1, s2, Y, d, ⟨g, false, F, F⟩, hlt, hlt2, by go_num, rfl, hfu, Nat.le_succ_of_le hSg, HF, HF, fun _ => rfl, h9.pull2⟩
          case measure => simp [intOf]; omega
      · have e11 : ((kk : Int) == 11) = false := by simpa using (show ¬ (kk : Int) = 11 by omega)
        have h64 := h5.sp64
        cases hs : S.does 1024 kk n obs with | mk t S' =>
        obtain ⟨hF2, hG2, hg2⟩ := SpM.head_does HF.out HG.out hs
        have hsh2 := SpM.shut_does hsh hs
        have hbb : obs.length ≤ 140737488355328 := by have := Hop.out.b; simp only at this; omega
        have hdo := does4_any h5 hfu (by omega) kd n Hop.out.kind Hop.out.n (fun w hw => Hbt.out w hw.right.right) hbb hkk Hkv.out hs
        have hpl := fun w Q (h : Bears w (spcA y Y 1024 S * (Y * Q))) (hq : Q.Tells (fun w => BytesIn w (.slice oad obs.length ocp) obs)) => plays4_any h h64 (by omega) kd n Hop.out.kind Hop.out.n (fun w hw => hq w hw.right) hkk Hkv.out hs
        have Hdo := Lib.hid hdo
        have Hpl := Lib.hid hpl
        have HF2 := Lib.hid hF2
        have HG2 := Lib.hid hG2
        clear hdo hpl h64 hs h5 hF2 hG2 HF HG
        go_wp2_with fail
        refine (kind4_any kd 12 _ Hop.out.kind (by omega)).mono ?_
        rintro e w' ⟨rfl, rfl⟩
        rw [Hkv.out]
        go_wp2_with fail
        refine Hdo.out.mono ?_
        rintro e w8 ⟨d8, rfl, hfu8, h8⟩
        have h9 := h8.alloc (.cells #[.int .i64 t.n, strV t.b, .int .i64 t.e] 45)
        obtain ⟨ob2, oo2, had2, r0, r1, r2⟩ := (Hops.out _ h9.right.right.right.right).cells hlt
        have e2 : ob2 = ob ∧ oo2 = oo := by simpa [eq_comm] using had2
        obtain ⟨rfl, rfl⟩ := e2
        rw [hc2] at r0 r1 r2
        simp only at r0 r1 r2
        have h10 : Bears _ (spcA y Y 1024 S * (Y * (Assn.obj w8.heap.size (.cells #[.int .i64 t.n, strV t.b, .int .i64 t.e] 45 (0, 0)) * (stA s p d8 1024 (outL 1024) S' * R)))) := h9.cast (by ac_rfl)
        have hcp := Hpl.out _ _ h10 (fun w hw => Hbt.out w hw.right.right)
        have Hcp := Lib.hid hcp
        clear q0 q1 q2 hcp h8 h10 Hpl Hdo
        go_wp2_with fail
        refine Hcp.out.mono ?_
        rintro e w11 ⟨rfl, Z, h11⟩
        have h12 := h11.alloc (.cells #[.int .i64 t.n, strV t.b, .int .i64 t.e] 45)
        have h13 : Bears _ (stA s p d8 1024 (outL 1024) S' * (spcA y (Z * Y) 1024 S' * ((Z * Y) * (Assn.obj w11.heap.size (.cells #[.int .i64 t.n, strV t.b, .int .i64 t.e] 45 (0, 0)) * (Assn.obj w8.heap.size (.cells #[.int .i64 t.n, strV t.b, .int .i64 t.e] 45 (0, 0)) * R))))) := h12.cast (by ac_rfl)
        have hal := alike4_any h13
        have Hal := Lib.hid hal
        clear hal h9 h11 h12 h13 Hcp r0 r1 r2
        go_wp2_with fail
        refine Hal.out.mono ?_
        rintro e w14 ⟨rfl, h14⟩
        have a0 := cell_of_obj h14.pull4.obj 0
        have a1 := cell_of_obj h14.pull4.obj 1
        have a2 := cell_of_obj h14.pull4.obj 2
        have b0 := cell_of_obj h14.pull5.obj 0
        have b1 := cell_of_obj h14.pull5.obj 1
        have b2 := cell_of_obj h14.pull5.obj 2
        simp only [List.getElem?_toArray, List.getElem?_cons_zero, List.getElem?_cons_succ] at a0 a1 a2 b0 b1 b2
        go_wp2_with fail
        go_roundw
        case rel => exact ⟨k + 1, s, Z * Y, d8, S', hlt, hlt2, by go_num, rfl, hfu8, by omega, HF2, HG2, hsh2, h14.pull5.right.pull4.right.cast (by ac_rfl)⟩
        case measure => simp [intOf]; omega
    · have hlt' : ¬ (k < on ∧ k < 200) := by rw [← Hon.out]; exact hlt
      go_wp2_with fail
      all_goals
        go_ret
        exact ⟨rfl, h5.right.right.right⟩

end Go.Proofs.YtcggloceabjjdaaGreat

/- Walks of the document's space, part 13: Clone; no condition. -/
namespace Go.Proofs.YtcggloceabjjdaaGreat
open Go.RowKit Go.MapKept

section
variable {y len : Nat} {Y R : Assn} {S : SpM} {w : World}

set_option maxRecDepth 100000 in
set_option maxHeartbeats 1600000 in
theorem rsspclone_any (h : Bears w (spcA y Y len S * R)) (hlen : len ≤ 8192) :
    Calls Tryz.prog 17 #[.pointer (some ⟨y, 0, none⟩)] w fun e w' => ∃ z, e = .returned (.pointer (some ⟨z, 0, none⟩)) ∧ Bears w' (spcA z Y len S * (spcA y Y len S * R)) := by
  obtain ⟨was, now, tv, ts, hts, h1⟩ := Bears.spc.1 h
  obtain ⟨ta, tc, rfl, _⟩ := h1.pull2.rowForm
  obtain ⟨c0, c1, c2, c3, c4, c5, _⟩ := h1.spcCells
  obtain ⟨i0, hi0, hz0, hz1, hz2⟩ := info_parts i_bool1
  have hone : ∀ u ∈ ts.map Value.bool, u.oneCell' = true := fun u hu => by obtain ⟨b, _, rfl⟩ := List.mem_map.1 hu; rfl
  have Hts := Lib.hid hts
  obtain ⟨g, op, F, G⟩ := S
  simp only at h1 c3 c5
  have h2 := h1.alloc (.cells #[.int .i64 (firstB len : Int), .pointer (some ⟨was, 0, none⟩), .pointer (some ⟨now, 0, none⟩), .bool op, .slice ta len tc, .int .i64 (g : Int)] 42)
  obtain ⟨d0, d1, d2, d3, d4, d5, _⟩ := h2.pull2.spcCells
  have hcl1 := rsclone_any h2.pull4 hlen
  have Hcl1 := Lib.hid hcl1
  clear hts hcl1 h
  go_enter Tryz.func17, Tryz.ntmps17
  go_wp2_with fail
  refine Hcl1.out.mono ?_
  rintro e w3 ⟨q1, rfl, h3⟩
  have h3' := h3.pull3
  obtain ⟨_, _, _, _, _, _, cf⟩ := h3'.spcCells
  have f1 := cf 1
  have h4 : Bears _ (spcObj w.heap.size q1 now (firstB len : Int) op (.slice ta len tc) (g : Int) * (rstA q1 Y len F * (rstA was Y len F * (spcObj y was now (firstB len : Int) op (.slice ta len tc) (g : Int) * (rowA 4 1 (.slice ta len tc) len (ts.map Value.bool) * (rstA now Y len G * R)))))) := (h3'.setCell (i := 1) (.pointer (some ⟨q1, 0, none⟩))).cast (by simp)
  obtain ⟨e0, e1, e2, e3, e4, e5, _⟩ := h4.pull4.spcCells
  have hcl2 := rsclone_any h4.pull6 hlen
  have Hcl2 := Lib.hid hcl2
  clear hcl2 cf h2 h3 h1
  go_wp2_with fail
  refine Hcl2.out.mono ?_
  rintro e w5 ⟨q2, rfl, h5⟩
  have h5' := h5.pull3
  obtain ⟨_, _, _, _, _, _, cf⟩ := h5'.spcCells
  have f2 := cf 2
  have h6 : Bears _ (spcObj w.heap.size q1 q2 (firstB len : Int) op (.slice ta len tc) (g : Int) * (rstA q2 Y len G * (rstA now Y len G * (rstA q1 Y len F * (rstA was Y len F * (spcObj y was now (firstB len : Int) op (.slice ta len tc) (g : Int) * (rowA 4 1 (.slice ta len tc) len (ts.map Value.bool) * R))))))) := (h5'.setCell (i := 2) (.pointer (some ⟨q2, 0, none⟩))).cast (by simp)
  have h7 := h6.zeroRow (e := 4) (size := 1)
  have hsz : (w5.setCell ⟨w.heap.size, 2, none⟩ (.pointer (some ⟨q2, 0, none⟩))).heap.size = w5.heap.size := by simp [World.setCell]
  rw [hsz] at h7
  clear hsz
  obtain ⟨g0, g1, g2, g3, g4, g5, _⟩ := h7.pull7.spcCells
  have hv := rowA_vals _ h7.pull8
  clear cf h5 h5' h4 h3'
  have Hlen : len ≤ 140737488355328 := by omega
  go_wp2_with (at_builtin; go_loud (refine wpList_append_vals h7 rfl rfl u_bools1 hi0 hz0 hz1 hz2 (by simp [Value.cells]) (by decide) rfl rfl hv hone (by omega) ?_); intro ga gc w8 h8; have k4 := h8.pull2.spcCells.2.2.2.2.2.2 4; have k4c := h8.pull2.spcCells.2.2.2.2.1)
  have h9 : Bears _ (spcObj w.heap.size q1 q2 (firstB len : Int) op (.slice ga len gc) (g : Int) * (rowA 4 1 (.slice ga len gc) len (ts.map Value.bool) * (rstA q2 Y len G * (rstA now Y len G * (rstA q1 Y len F * (rstA was Y len F * (spcObj y was now (firstB len : Int) op (.slice ta len tc) (g : Int) * (rowA 4 1 (.slice ta len tc) len (ts.map Value.bool) * R)))))))) := (h8.pull2.setCell (i := 4) (.slice ga len gc)).cast (by simp)
  go_ret
  exact ⟨w.heap.size, rfl, Bears.spc.2 ⟨q1, q2, _, ts, Hts.out, (((Bears.spc.2 ⟨was, now, .slice ta len tc, ts, Hts.out, h9.cast (by ac_rfl)⟩ : Bears _ (spcA y Y len ⟨g, op, F, G⟩ * (spcObj w.heap.size q1 q2 (firstB len : Int) op (.slice ga len gc) (g : Int) * (rowA 4 1 (.slice ga len gc) len (ts.map Value.bool) * (rstA q1 Y len F * (rstA q2 Y len G * R)))))).push5))⟩⟩
end

end Go.Proofs.YtcggloceabjjdaaGreat

/- AllocCrashes: a space's disk is cloned, has a fuse, is booted; no condition. -/
namespace Go.Proofs.YtcggloceabjjdaaGreat
open Go.RowKit Go.MapKept

section
variable {s p len : Nat} {d : DiskM} {k : List Nat} {S : SpM} {R : Assn} {w : World}
theorem Bears.stLog (h : Bears w (stA s p d len k S * R)) : LogOn d 1 620 S.g S.F ∧ d.len = len ∧ (∀ i, (S.F i).length = 64) ∧ (∀ i, (S.G i).length = 64) := by
  obtain ⟨c, x, hok, h1⟩ := Bears.sp.1 h
  exact ⟨hok.log, hok.size, hok.f64, hok.g64⟩
/-- The disk below a space. -/
theorem sdclone_any (h : Bears w (stA s p d len k S * R)) :
    Calls Tryz.prog 16 #[.pointer (some ⟨p, 0, none⟩)] w fun e w' => ∃ q, e = .returned (.pointer (some ⟨q, 0, none⟩)) ∧ Bears w' (diskA q d * (stA s p d len k S * R)) := by
  obtain ⟨c, x, hok, h1⟩ := Bears.sp.1 h
  refine (clone_any h1.pull3 hok.log.few0).mono ?_
  rintro e w' ⟨q, rfl, h2⟩
  exact ⟨q, rfl, ((Bears.sp.2 ⟨c, x, hok, h2.cast (by ac_rfl)⟩ : Bears w' (stA s p d len k S * (diskA q d * R)))).pull2⟩
theorem sdfuse_any (h : Bears w (stA s p d len k S * R)) (n : Int) (hn : n < 9223372036854775808) {d' : DiskM} (hd : d.setFuse n = d') :
    Calls Tryz.prog 20 #[.pointer (some ⟨p, 0, none⟩), .int .i64 n] w fun e w' => e = .returned (.tuple #[]) ∧ Bears w' (stA s p d' len k S * R) := by
  subst hd
  obtain ⟨c, x, hok, h1⟩ := Bears.sp.1 h
  refine (fuse_any h1.pull3 n hn).mono ?_
  rintro e w' ⟨rfl, h2⟩
  exact ⟨rfl, Bears.sp.2 ⟨c, x, ⟨hok.log.fused n, (setFuse_len d n).trans hok.size, hok.lo, hok.hi, hok.f64, hok.g64⟩, h2.cast (by ac_rfl)⟩⟩
end

theorem crash_opens {q g : Nat} {d3 d4 : DiskM} {r : Int} {F G : Nat → Sec} {R : Assn} {w : World} (ks : List Int) (hL : LogOn d3 1 620 g F) (hl : d3.len = 1024) (hg : Goes d3 r d4) (h0 : r = 0 → LogOn d4 1 620 (g + 1) G)
    (hB : Boots d4 (fun f => At 1024 1 620 f g F ∨ At 1024 1 620 f (g + 1) G)) (hk : Boots d4 (fun f => f 0 = superB 1024)) (hg2 : g < 1000000) (f64 : ∀ i, (F i).length = 64) (g64 : ∀ i, (G i).length = 64) (h : Bears w (diskA q (d4.boot ks) * R)) :
    Calls Tryz.prog 10 #[ptrB q] w fun e w' => ∃ x d6 S', e = .returned (.tuple #[ptrB x, .int .i64 0]) ∧ ((S' = ⟨g, false, F, F⟩ ∧ r ≠ 0) ∨ S' = ⟨g + 1, false, G, G⟩) ∧ Bears w' (stA x q d6 1024 (outL 1024) S' * R) := by
  obtain ⟨d6, V, g', e6, e7, L6, n6, _, hV⟩ := space_crash (by decide) (by decide) hL hl hg h0 hB hg2 ks
  have hV64 : ∀ i, (V i).length = 64 := by rcases hV with ⟨rfl, _⟩ | ⟨rfl, _⟩ <;> assumption
  have hs : (d4.boot ks).now 0 = superB 1024 := hk.boot ks
  refine (space_opens_at h rfl (show d4.len = 1024 by rw [hg.len, hl]) e6 e7 L6 n6 (by decide) (by decide) hs hV64 (by show 0 < 1000000; decide)).mono ?_
  rintro e w' ⟨x, rfl, h2⟩
  rcases hV with ⟨rfl, rfl, hr⟩ | ⟨rfl, rfl⟩
  · exact ⟨x, d6, ⟨g', false, V, V⟩, rfl, .inl ⟨rfl, hr⟩, h2.spLeast⟩
  · exact ⟨x, d6, ⟨g + 1, false, V, V⟩, rfl, .inr rfl, h2.spLeast⟩

end Go.Proofs.YtcggloceabjjdaaGreat

/- AllocCrashes walked; no condition. -/
namespace Go.Proofs.YtcggloceabjjdaaGreat
open Go.RowKit Go.MapKept

theorem neq_spc (w : World) (u : Nat) : (binOp .neq 28 (.pointer (some ⟨u, 0, none⟩)) (.pointer (some ⟨u, 0, none⟩))).run Tryz.prog w = .ok (.bool false) w := by
  have h : (Tryz.prog.info? 42).isSome = true := by kernel_rfl
  obtain ⟨j, hj⟩ := Option.isSome_iff_exists.1 h
  exact Go.Lib.run_neq_ptr_same w ⟨u, 0, none⟩ (by kernel_rfl) hj

set_option maxRecDepth 1000000 in
set_option maxHeartbeats 16000000 in
theorem allocCrashes_walk {R : Assn} {w : World} (h : Bears w R) {l1 l2 : List TOpM} {a1 a2 a3 : Option Addr} {c1 c2 c3 : Nat} {ks : List Int}
    (t1 : R.Tells (fun w => TOpsIn w (.slice a1 l1.length c1) l1)) (b1 : l1.length ≤ 9223372036854775807) (hl1 : ∀ k, k < l1.length → (l1.getD k default).Fine)
    (t2 : R.Tells (fun w => TOpsIn w (.slice a2 l2.length c2) l2)) (b2 : l2.length ≤ 9223372036854775807) (hl2 : ∀ k, k < l2.length → (l2.getD k default).Fine)
    (t3 : R.Tells (fun w => IntsIn w (.slice a3 ks.length c3) ks)) (hk1 : ∀ x ∈ ks, -9223372036854775808 ≤ x ∧ x ≤ 9223372036854775807) (hk2 : ks.length ≤ 9223372036854775807) :
    Calls Tryz.prog 4 #[.slice a1 l1.length c1, .slice a2 l2.length c2, .slice a3 ks.length c3] w fun e w' => e = .returned (.bool true) ∧ Bears w' R := by
  have T1 := Lib.hid t1
  have T2 := Lib.hid t2
  have T3 := Lib.hid t3
  have HL1 := Lib.hid hl1
  have HL2 := Lib.hid hl2
  have HK1 := Lib.hid hk1
  clear t1 t2 t3 hl1 hl2 hk1
  obtain ⟨s0, hs0⟩ : ∃ s, superB 1024 = s := ⟨_, rfl⟩
  have Hs0 := Lib.hid hs0
  clear hs0
  go_enter Tryz.func4, Tryz.ntmps4
  go_wp2_with fail
  refine (shown4_any h).mono ?_
  rintro e w1 ⟨rfl, h1⟩
  go_wp2_with fail
  refine (ground4_any h1).mono ?_
  rintro e w2 ⟨p, sp0, d0, rfl, hfu0, h2⟩
  go_wp2_with fail
  refine (rsnew_any h2).mono ?_
  rintro e w3 ⟨y, rfl, h3⟩
  have h4 : Bears w3 (stA sp0 p d0 1024 (outL 1024) ⟨0, false, freshF 1024, freshF 1024⟩ * (spcA y Assn.emp 1024 ⟨0, false, freshF 1024, freshF 1024⟩ * (Assn.emp * R))) := by
    have := h3.pull3.spLeast
    exact this.cast (by ac_rfl)
  have hf0 : freshF 1024 0 = s0 := Hs0.out
  have HF0 := Lib.hid hf0
  generalize freshF 1024 = F0 at h4 HF0
  clear h h1 h2 h3 hf0
  go_upto_block 0 with (fail)
  go_cut [] (fun wr => ∃ (Y : Assn) (d : DiskM) (S : SpM), d.fuse = -1 ∧ S.g ≤ 60 ∧ Hid (S.F 0 = s0) ∧ Hid (S.G 0 = s0) ∧ S.Shut ∧ Bears wr (stA sp0 p d 1024 (outL 1024) S * (spcA y Y 1024 S * (Y * R))))
  case first => as_aux_lemma =>
    go_wp2_with fail
    go_loopw [12] (fun iv wr => ∃ (k : Nat) (Y : Assn) (d : DiskM) (S : SpM), k ≤ l1.length ∧ k ≤ 60 ∧ iv = .int .i64 k ∧ d.fuse = -1 ∧ S.g ≤ k ∧ Hid (S.F 0 = s0) ∧ Hid (S.G 0 = s0) ∧ S.Shut ∧
      Bears wr (stA sp0 p d 1024 (outL 1024) S * (spcA y Y 1024 S * (Y * R)))) (fun iv _ => 60 - (intOf iv).toNat)
    case atStart => exact ⟨0, Assn.emp, d0, _, by omega, by omega, rfl, hfu0, Nat.zero_le _, HF0, HF0, fun _ => rfl, h4⟩
    case round =>
      clear h4 hfu0 HF0
      obtain ⟨k, Y, d, S, hk, hk2', rfl, hfu, hSg, HF, HG, hsh, h5⟩ := hrel
      by_cases hlt : k < l1.length ∧ k < 60
      · obtain ⟨hlt, hlt2⟩ := hlt
        obtain ⟨ob, oo, rfl, q0, q1, q2⟩ := (T1.out _ h5.right.right.right).cells hlt
        have hop := HL1.out k hlt
        have hbt := T1.out.mono (fun w h => h.bytes hlt)
        generalize hc : l1.getD k default = op at q0 q1 q2 hop hbt
        have hc2 := hc
        obtain ⟨kd, n, obs, oad, ocp⟩ := op
        simp only at q0 q1 q2 hbt
        obtain ⟨kk, hkk, hkv⟩ := kind12' kd
        have Hkv := Lib.hid hkv
        have Hop := Lib.hid hop
        have Hbt := Lib.hid hbt
        clear hc hkv hop hbt
        by_cases h11 : kk = 11
        · subst h11
          go_wp2_with fail
          refine (kind4_any kd 12 _ Hop.out.kind (by omega)).mono ?_
          rintro e w' ⟨rfl, rfl⟩
          rw [Hkv.out]
          go_wp2_with fail
          go_roundw
          case rel => exact ⟨k + 1, Y, d, S, hlt, hlt2, by go_num, hfu, Nat.le_succ_of_le hSg, HF, HG, hsh, h5⟩
          case measure => simp [intOf]; omega
        · have e11 : ((kk : Int) == 11) = false := by simpa using (show ¬ (kk : Int) = 11 by omega)
          have h64 := h5.sp64
          cases hs : S.does 1024 kk n obs with | mk t S' =>
          obtain ⟨hF2, hG2, hg2⟩ := SpM.head_does HF.out HG.out hs
          have hsh2 := SpM.shut_does hsh hs
          have hbb : obs.length ≤ 140737488355328 := by have := Hop.out.b; simp only at this; omega
          have hdo := does4_any h5 hfu (by omega) kd n Hop.out.kind Hop.out.n (fun w hw => Hbt.out w hw.right.right) hbb hkk Hkv.out hs
          have hpl := fun w Q (h : Bears w (spcA y Y 1024 S * (Y * Q))) (hq : Q.Tells (fun w => BytesIn w (.slice oad obs.length ocp) obs)) => plays4_any h h64 (by omega) kd n Hop.out.kind Hop.out.n (fun w hw => hq w hw.right) hkk Hkv.out hs
          have Hdo := Lib.hid hdo
          have Hpl := Lib.hid hpl
          have HF2 := Lib.hid hF2
          have HG2 := Lib.hid hG2
          clear hdo hpl h64 hs h5 hF2 hG2 HF HG
          go_wp2_with fail
          refine (kind4_any kd 12 _ Hop.out.kind (by omega)).mono ?_
          rintro e w' ⟨rfl, rfl⟩
          rw [Hkv.out]
          go_wp2_with fail
          refine Hdo.out.mono ?_
          rintro e w8 ⟨d8, rfl, hfu8, h8⟩
          obtain ⟨ob2, oo2, had2, r0, r1, r2⟩ := (T1.out _ h8.right.right.right).cells hlt
          have e2 : ob2 = ob ∧ oo2 = oo := by simpa [eq_comm] using had2
          obtain ⟨rfl, rfl⟩ := e2
          rw [hc2] at r0 r1 r2
          simp only at r0 r1 r2
          have h10 : Bears _ (spcA y Y 1024 S * (Y * (stA sp0 p d8 1024 (outL 1024) S' * R))) := h8.cast (by ac_rfl)
          have hcp := Hpl.out _ _ h10 (fun w hw => Hbt.out w hw.right)
          have Hcp := Lib.hid hcp
          clear q0 q1 q2 hcp h8 h10 Hpl Hdo
          go_wp2_with fail
          refine Hcp.out.mono ?_
          rintro e w11 ⟨rfl, Z, h11⟩
          go_wp2_with fail
          go_roundw
          case rel => exact ⟨k + 1, Z * Y, d8, S', hlt, hlt2, by go_num, hfu8, by omega, HF2, HG2, hsh2, h11.cast (by ac_rfl)⟩
          case measure => simp [intOf]; omega
      · go_wp2_with fail
        all_goals
          go_meet
          case rel => exact ⟨Y, d, S, hfu, by omega, HF, HG, hsh, h5⟩
  case rest =>
    obtain ⟨Y, d1, ⟨g, op, F, G⟩, hfu1, hSg, HF, HG, hsh, h5⟩ := hcut
    simp only at hSg HF HG
    obtain ⟨was, now, tv, ts, _, h9⟩ := Bears.spc.1 h5.pull2
    obtain ⟨_, _, _, c3, _, _, _⟩ := h9.spcCells
    clear h9 h4 HF0 hfu0
    simp only at c3
    go_upto_if 79 with (fail)
    go_cut [] (fun wr => ∃ d : DiskM, d.fuse = -1 ∧ Bears wr (stA sp0 p d 1024 (outL 1024) ⟨g, false, F, F⟩ * (spcA y Y 1024 ⟨g, false, F, F⟩ * (Y * R))))
    case first => as_aux_lemma =>
      cases op with
      | false =>
        obtain rfl : F = G := (hsh rfl).symm
        go_wp2_with fail
        go_meet
        case rel => exact ⟨d1, hfu1, h5⟩
      | true =>
        go_wp2_with fail
        refine (abort_st h5 (t := ⟨0, [], 0⟩) (S' := ⟨g, false, F, F⟩) rfl).mono ?_
        rintro e w7 ⟨rfl, h7⟩
        have hab := rsabort_any h7.pull2 (by omega) (t := ⟨0, [], 0⟩) (S' := ⟨g, false, F, F⟩) rfl
        have Hab := Lib.hid hab
        clear hab
        go_wp2_with fail
        refine Hab.out.mono ?_
        rintro e w9 ⟨rfl, h9⟩
        go_wp2_with fail
        go_meet
        case rel => exact ⟨d1, hfu1, h9.pull2⟩
    obtain ⟨d, hfu, h6⟩ := hcut
    have hg1 : g < 1000000 := by omega
    clear h5 c3 hsh HG hfu1 hSg
    obtain ⟨hL, hdl, hF64, _⟩ := h6.stLog
    have HL := Lib.hid hL
    have Hdl := Lib.hid hdl
    have HF64 := Lib.hid hF64
    clear hL hdl hF64
    go_wp2_with fail
    go_loopw [13] (fun iv wr => ∃ fz : Nat, fz ≤ 206 ∧ iv = .int .i64 fz ∧ Bears wr (stA sp0 p d 1024 (outL 1024) ⟨g, false, F, F⟩ * (spcA y Y 1024 ⟨g, false, F, F⟩ * (Y * R)))) (fun iv _ => 206 - (intOf iv).toNat)
    case atStart => exact ⟨0, by omega, rfl, h6⟩
    case round => as_aux_lemma =>
      clear h6
      obtain ⟨fz, hfz, rfl, h1⟩ := hrel
      by_cases hlt : fz < 200
      · go_wp2_with fail
        refine (sdclone_any h1).mono ?_
        rintro e w8 ⟨q, rfl, h2⟩
        have hop := space_opens h2 HL.out (by rw [Hdl.out]; decide) (by rw [Hdl.out]; decide) (by rw [Hdl.out]; exact HF.out.trans Hs0.out.symm) HF64.out (by show g < _; omega)
        rw [Hdl.out] at hop
        have Hop := Lib.hid hop
        clear hop h1
        go_wp2_with fail
        refine Hop.out.mono ?_
        rintro e w9 ⟨x, rfl, h3⟩
        have hcl := rsspclone_any h3.pull3 (by decide)
        have Hcl := Lib.hid hcl
        clear hcl h2 Hop
        go_wp2_with fail
        refine Hcl.out.mono ?_
        rintro e w10 ⟨z, rfl, h4⟩
        have h4' := h4.pull3.spLeast
        clear h3 Hcl
        go_wp2_with fail
        refine (begin_st (S := ⟨g, false, F, F⟩) h4' (t := ⟨0, [], 0⟩) (S' := ⟨g, true, F, F⟩) rfl).mono ?_
        rintro e w11 ⟨rfl, h5⟩
        go_wp2_with fail
        refine (rsbegin_any h5.pull2 (t := ⟨0, [], 0⟩) (S' := ⟨g, true, F, F⟩) rfl).mono ?_
        rintro e w12 ⟨rfl, h6⟩
        have h7 : Bears w12 (stA x q d 1024 (outL 1024) ⟨g, true, F, F⟩ * (spcA z (Assn.emp * Y) 1024 ⟨g, true, F, F⟩ * ((Assn.emp * Y) * (spcA y Y 1024 ⟨g, false, F, F⟩ * (stA sp0 p d 1024 (outL 1024) ⟨g, false, F, F⟩ * R))))) := by
          rw [Assn.emp_mul]
          exact h6.cast (by ac_rfl)
        clear h4 h4' h5 h6
        go_upto_block 4 with (fail)
        go_cut [] (fun wr => ∃ (Z : Assn) (d2 : DiskM) (G : Nat → Sec), d2.fuse = -1 ∧ Hid (G 0 = s0) ∧ Bears wr (stA x q d2 1024 (outL 1024) ⟨g, true, F, G⟩ * (spcA z (Z * Y) 1024 ⟨g, true, F, G⟩ * ((Z * Y) * (spcA y Y 1024 ⟨g, false, F, F⟩ * (stA sp0 p d 1024 (outL 1024) ⟨g, false, F, F⟩ * R))))))
        case first => as_aux_lemma =>
          go_wp2_with fail
          go_loopw [18] (fun iv wr => ∃ (k : Nat) (Z : Assn) (d2 : DiskM) (G : Nat → Sec), k ≤ l2.length ∧ k ≤ 40 ∧ iv = .int .i64 k ∧ d2.fuse = -1 ∧ Hid (G 0 = s0) ∧ Bears wr (stA x q d2 1024 (outL 1024) ⟨g, true, F, G⟩ * (spcA z (Z * Y) 1024 ⟨g, true, F, G⟩ * ((Z * Y) * (spcA y Y 1024 ⟨g, false, F, F⟩ * (stA sp0 p d 1024 (outL 1024) ⟨g, false, F, F⟩ * R)))))) (fun iv _ => 40 - (intOf iv).toNat)
          case atStart => exact ⟨0, Assn.emp, d, F, by omega, by omega, rfl, hfu, HF, h7⟩
          case round =>
            clear h7
            obtain ⟨k, Z, d2, G, hk, hk40, rfl, hfu2, HG, h5⟩ := hrel
            by_cases hlt : k < l2.length ∧ k < 40
            · obtain ⟨hlt, hlt2⟩ := hlt
              obtain ⟨ob, oo, rfl, q0, q1, q2⟩ := (T2.out _ h5.right.right.right.right.right).cells hlt
              have hop := HL2.out k hlt
              have hbt := T2.out.mono (fun w h => h.bytes hlt)
              generalize hc : l2.getD k default = op at q0 q1 q2 hop hbt
              have hc2 := hc
              obtain ⟨kd, n, obs, oad, ocp⟩ := op
              simp only at q0 q1 q2 hbt
              obtain ⟨kk, hkk, hkv⟩ := kind12' kd
              have Hkv := Lib.hid hkv
              have Hop := Lib.hid hop
              have Hbt := Lib.hid hbt
              clear hc hkv hop hbt
              by_cases h8 : kk < 8
              · have e8 : decide ((kk : Int) < 8) = true := decide_eq_true (by omega)
                have e8n : decide (kk < 8) = true := decide_eq_true h8
                have h64 := h5.sp64
                cases hs : (⟨g, true, F, G⟩ : SpM).does 1024 kk n obs with | mk t S' =>
                obtain ⟨hF2, hG2, hg2⟩ := SpM.head_does HF.out HG.out hs
                obtain ⟨x1, x2, x3⟩ := does_lt8' h8 hs
                obtain ⟨g', op', F', G'⟩ := S'
                simp only at x1 x2 x3 hG2
                obtain rfl := x1.symm
                obtain rfl := x3.symm
                subst x2
                have hbb : obs.length ≤ 140737488355328 := by have := Hop.out.b; simp only at this; omega
                have hdo := does4_any h5 hfu2 (by show g < _; omega) kd n Hop.out.kind Hop.out.n (fun w hw => Hbt.out w hw.right.right.right.right) hbb hkk Hkv.out hs
                have hpl := fun w Q (h : Bears w (spcA z (Z * Y) 1024 ⟨g, true, F, G⟩ * ((Z * Y) * Q))) (hq : Q.Tells (fun w => BytesIn w (.slice oad obs.length ocp) obs)) => plays4_any h h64 (by show g < _; omega) kd n Hop.out.kind Hop.out.n (fun w hw => hq w hw.right) hkk Hkv.out hs
                have Hdo := Lib.hid hdo
                have Hpl := Lib.hid hpl
                have HG2 := Lib.hid hG2
                clear hdo hpl h64 hs h5 hF2 hG2 HG
                go_wp2_with fail
                refine (kind4_any kd 12 _ Hop.out.kind (by omega)).mono ?_
                rintro e w' ⟨rfl, rfl⟩
                rw [Hkv.out]
                go_wp2_with fail
                refine Hdo.out.mono ?_
                rintro e w8 ⟨d8, rfl, hfu8, h8'⟩
                obtain ⟨ob2, oo2, had2, r0, r1, r2⟩ := (T2.out _ h8'.right.right.right.right.right).cells hlt
                have e2 : ob2 = ob ∧ oo2 = oo := by simpa [eq_comm] using had2
                obtain ⟨rfl, rfl⟩ := e2
                rw [hc2] at r0 r1 r2
                simp only at r0 r1 r2
                have h10 : Bears _ (spcA z (Z * Y) 1024 ⟨g, true, F, G⟩ * ((Z * Y) * (stA x q d8 1024 (outL 1024) ⟨g, true, F, G'⟩ * (spcA y Y 1024 ⟨g, false, F, F⟩ * (stA sp0 p d 1024 (outL 1024) ⟨g, false, F, F⟩ * R))))) := h8'.cast (by ac_rfl)
                have hcp := Hpl.out _ _ h10 (fun w hw => Hbt.out w hw.right.right.right)
                have Hcp := Lib.hid hcp
                clear q0 q1 q2 hcp h8' h10 Hpl Hdo
                go_wp2_with fail
                refine Hcp.out.mono ?_
                rintro e w11 ⟨rfl, Z1, h11⟩
                rw [← Assn.mul_assoc'] at h11
                go_wp2_with fail
                go_roundw
                case rel => exact ⟨k + 1, Z1 * Z, d8, G', hlt, hlt2, by go_num, hfu8, HG2, h11.cast (by ac_rfl)⟩
                case measure => simp [intOf]; omega
              · have e8 : decide ((kk : Int) < 8) = false := decide_eq_false (by omega)
                have e8n : decide (kk < 8) = false := decide_eq_false h8
                clear h8
                go_wp2_with fail
                refine (kind4_any kd 12 _ Hop.out.kind (by omega)).mono ?_
                rintro e w' ⟨rfl, rfl⟩
                rw [Hkv.out]
                go_wp2_with fail
                go_roundw
                case rel => exact ⟨k + 1, Z, d2, G, hlt, hlt2, by go_num, hfu2, HG, h5⟩
                case measure => simp [intOf]; omega
            · go_wp2_with fail
              all_goals
                go_meet
                case rel => exact ⟨Z, d2, G, hfu2, HG, h5⟩
        case rest => as_aux_lemma =>
          obtain ⟨Z, d2, G, hfu2, HG, h8⟩ := hcut
          clear h7
          obtain ⟨d3, hd3⟩ : ∃ d3, d2.setFuse (fz : Int) = d3 := ⟨_, rfl⟩
          have hfs := sdfuse_any h8 (fz : Int) (by omega) hd3
          have Hfs := Lib.hid hfs
          clear hfs hd3 h8
          go_wp2_with fail
          refine Hfs.out.mono ?_
          rintro e w9 ⟨rfl, h9⟩
          obtain ⟨hL3, hl3, _, hG64⟩ := h9.stLog
          simp only at hL3 hG64
          have hcm := scommit_cut h9 (outL_few (by decide) (by decide)) (by show g < _; omega)
          have Hcm := Lib.hid hcm
          have HL3 := Lib.hid hL3
          have Hl3 := Lib.hid hl3
          have HG64 := Lib.hid hG64
          clear hcm hL3 hl3 hG64 Hfs
          go_wp2_with fail
          refine Hcm.out.mono ?_
          rintro e w10 ⟨r, d4, rfl, k1, k2, k3, k4, k5, h10⟩
          have hk0 := k5 _ (HF.out.trans Hs0.out.symm) (HG.out.trans Hs0.out.symm)
          have hr2 := k1.ends
          have hco := fun w Q (h : Bears w (diskA q (d4.boot ks) * Q)) => crash_opens ks HL3.out Hl3.out k1 k2 k3 hk0 hg1 HF64.out HG64.out h
          have Hco := Lib.hid hco
          have Hr2 := Lib.hid hr2
          clear hco hr2 k1 k2 k3 k5 hk0 Hcm HL3 Hl3 HG64 h9
          have hzc := rscommit_any h10.pull2 (by decide) (by show g < _; omega) (t := ⟨0, [], 0⟩) (S' := ⟨g + 1, false, G, G⟩) rfl
          have Hzc := Lib.hid hzc
          clear hzc
          go_wp2_with fail
          refine Hzc.out.mono ?_
          rintro e w11 ⟨rfl, h11⟩
          have hbo := boot_to ks h11.pull2 rfl rfl (fun w' hw' => T3.out w' hw'.right.right.right.right) HK1.out hk2 (by omega)
          have Hbo := Lib.hid hbo
          clear hbo Hzc h10
          go_wp2_with fail
          refine Hbo.out.mono ?_
          rintro e w12 ⟨rfl, h12⟩
          have hop := Hco.out _ _ h12
          have Hop := Lib.hid hop
          clear hop Hco Hbo h11
          go_wp2_with fail
          refine Hop.out.mono ?_
          rintro e w13 ⟨x2, d6, S', rfl, hS', h13⟩
          have HS := Lib.hid hS'
          clear hS' Hop h12
          rcases Hr2.out with ⟨rfl, _⟩ | ⟨rfl, _, _⟩
          · have hc5 : ∀ w Q, Bears w (spcA z (Z * Y) 1024 ⟨g + 1, false, G, G⟩ * Q) → w.cell? ⟨z, 5, none⟩ = some (.int .i64 ((g : Int) + 1)) := fun w Q h => by
              obtain ⟨was, now, tv, ts, _, h1⟩ := Bears.spc.1 h
              obtain ⟨_, _, _, _, _, c5, _⟩ := h1.spcCells
              exact c5
            have Hc5 := Lib.hid hc5
            obtain ⟨gs, hgs⟩ : ∃ gs, S'.g = gs := ⟨_, rfl⟩
            have hgr := fun w R (h : Bears w (stA x2 q d6 1024 (outL 1024) S' * R)) => (sgroups_any h).mono (R' := fun e w' => e = .returned (.int .i64 (gs : Int)) ∧ Bears w' (stA x2 q d6 1024 (outL 1024) S' * R)) (fun e w' ⟨h1, h2⟩ => ⟨by rw [h1, hgs], h2⟩)
            have Hgr := Lib.hid hgr
            have Hgs := Lib.hid hgs
            clear hc5 hgr hgs
            go_wp2_with fail
            refine wp_region_L (fun w' => ∃ Q, Bears w' (spcA z (Z * Y) 1024 ⟨g + 1, false, G, G⟩ * Q)) 7 [(true, 0), (true, 2), (true, 3), (true, 4), (true, 5), (false, 1), (true, 6)] [] (by kernel_rfl) (by kernel_rfl) ⟨_, h13.pull2.drew⟩ ?_
            simp only [pick, List.getElem?_cons_zero, List.getElem?_cons_succ]
            refine wpL_yield (v := ?_) rfl (fun w' hS => ?_) ?_
            rotate_left
            · (obtain ⟨_, hS⟩ := hS; have c5 := Hc5.out _ _ hS; go_simp; try with_reducible rfl)
            simp only [Act.put, List.setIfInBounds_toArray, List.set_cons_zero, List.set_cons_succ]
            refine wpL_yield (v := ?_) rfl (fun w' hS => ?_) ?_
            rotate_left
            · (obtain ⟨_, hS⟩ := hS; have c5 := Hc5.out _ _ hS; go_simp; try with_reducible rfl)
            simp only [Act.put, List.setIfInBounds_toArray, List.set_cons_zero, List.set_cons_succ]
            refine wpL_yield (v := ?_) rfl (fun w' hS => ?_) ?_
            rotate_left
            · (obtain ⟨_, hS⟩ := hS; have c5 := Hc5.out _ _ hS; go_simp; try with_reducible rfl)
            simp only [Act.put, List.setIfInBounds_toArray, List.set_cons_zero, List.set_cons_succ]
            refine wpL_yield (v := ?_) rfl (fun w' hS => ?_) ?_
            rotate_left
            · (obtain ⟨_, hS⟩ := hS; have c5 := Hc5.out _ _ hS; go_simp; try with_reducible rfl)
            simp only [Act.put, List.setIfInBounds_toArray, List.set_cons_zero, List.set_cons_succ]
            refine wpL_yield (v := ?_) rfl (fun w' hS => ?_) ?_
            rotate_left
            · (obtain ⟨_, hS⟩ := hS; have c5 := Hc5.out _ _ hS; go_simp; try with_reducible rfl)
            simp only [Act.put, List.setIfInBounds_toArray, List.set_cons_zero, List.set_cons_succ]
            refine wpL_eff rfl ?_
            go_simp
            refine (Hgr.out _ _ h13.drew).mono ?_
            rintro e w14 ⟨rfl, h14⟩
            refine ⟨⟨_, h14.pull2⟩, ?_⟩
            try simp only [Act.put, List.setIfInBounds_toArray, List.set_cons_zero, List.set_cons_succ]
            refine wpL_yield (v := ?_) rfl (fun w' hS => ?_) ?_
            rotate_left
            · (go_simp; try with_reducible rfl)
            simp only [Act.put, List.setIfInBounds_toArray, List.set_cons_zero, List.set_cons_succ]
            refine wpL_nil ?_
            refine wpL_nil ?_
            go_upto_if 175 with (fail)
            go_cut [21] (fun v wr => ∃ (u : Nat) (U Q' : Assn), v = .pointer (some ⟨u, 0, none⟩) ∧ u = z ∧ (∀ w, Bears w (spcA u U 1024 S' * (U * Q')) → Bears w (stA sp0 p d 1024 (outL 1024) ⟨g, false, F, F⟩ * (spcA y Y 1024 ⟨g, false, F, F⟩ * (Y * R)))) ∧ Bears wr (stA x2 q d6 1024 (outL 1024) S' * (spcA u U 1024 S' * (U * Q'))))
            case first =>
              rcases HS.out with ⟨rfl, hr⟩ | rfl
              · obtain rfl : g = gs := Hgs.out
                exact absurd rfl hr
              · obtain rfl : g + 1 = gs := Hgs.out
                have e1 : (((g + 1 : Nat) : Int) == (g : Int) + 1) = true := by simp
                go_wp2_with fail
                go_meet
                case rel => exact ⟨z, Z * Y, (spcA y Y 1024 ⟨g, false, F, F⟩ * (stA sp0 p d 1024 (outL 1024) ⟨g, false, F, F⟩ * R)), rfl, rfl, fun w h => (h.right.cast (by ac_rfl) : Bears w (Z * (stA sp0 p d 1024 (outL 1024) ⟨g, false, F, F⟩ * (spcA y Y 1024 ⟨g, false, F, F⟩ * (Y * R))))).right, h14.cast (by ac_rfl)⟩
            case rest =>
              obtain ⟨u, U, Q', rfl, hu, hback, h15⟩ := hcut
              subst hu
              have hpn := fun w => neq_spc w u
              have hal := alike4_any h15
              have Hal := Lib.hid hal
              have Hback := Lib.hid hback
              clear hal hback h14 h13
              go_wp2_with fail
              refine Hal.out.mono ?_
              rintro e w16 ⟨rfl, h16⟩
              clear Hal h15
              go_wp2_with fail
              go_loopw [23] (fun iv wr => ∃ n : Nat, 751 ≤ n ∧ n ≤ 780 ∧ iv = .int .i64 n ∧ Bears wr (stA x2 q d6 1024 (outL 1024) S' * (spcA u U 1024 S' * (U * Q')))) (fun iv _ => 780 - (intOf iv).toNat)
              case atStart => exact ⟨751, by omega, by omega, rfl, h16⟩
              case round =>
                clear h16
                obtain ⟨n, hn1, hn2, rfl, h17⟩ := hrel
                by_cases hlt : n < 780
                · obtain ⟨t, ht⟩ : ∃ t, S'.read 1024 (n : Int) = t := ⟨_, rfl⟩
                  have hrd := read_st h17 (n : Int) ht
                  have hrr := fun w Q (h : Bears w (spcA u U 1024 S' * (U * Q))) => rsread_any h (by decide) (by decide) (n : Int) (by omega) ht
                  have Hrd := Lib.hid hrd
                  have Hrr := Lib.hid hrr
                  clear hrd hrr ht h17
                  go_wp2_with fail
                  refine Hrd.out.mono ?_
                  rintro e w18 ⟨ad1, n1, cap1, rfl, h18⟩
                  have h19 : Bears w18 (spcA u U 1024 S' * (U * (bufA (.slice ad1 n1 cap1) t.b * (stA x2 q d6 1024 (outL 1024) S' * Q')))) := h18.cast (by ac_rfl)
                  have hrr2 := Hrr.out _ _ h19
                  have Hrr2 := Lib.hid hrr2
                  clear hrr2 h18 h19 Hrd Hrr
                  go_wp2_with fail
                  refine Hrr2.out.mono ?_
                  rintro e w20 ⟨ad2, n2, cap2, rfl, h20⟩
                  have hb2 := buf_tells _ h20
                  have hb1 := buf_tells _ h20.pull4
                  have h21 : Bears w20 (stA x2 q d6 1024 (outL 1024) S' * (spcA u U 1024 S' * (U * Q'))) := (h20.right.cast (by ac_rfl) : Bears w20 (bufA (.slice ad1 n1 cap1) t.b * (stA x2 q d6 1024 (outL 1024) S' * (spcA u U 1024 S' * (U * Q'))))).right
                  clear Hrr2 h20
                  go_wp2_with (first | (refine wpList_op rfl (exec_convert rfl rfl (run_convert_in hb1)) ?_) | (refine wpList_op rfl (exec_convert rfl rfl (run_convert_in hb2)) ?_))
                  go_roundw
                  case rel => exact ⟨n + 1, by omega, hlt, by go_num, h21⟩
                  case measure => simp [intOf]; omega
                · go_wp2_with fail
                  go_ret
                  exact ⟨rfl, (Hback.out _ h17.right).right.right.right⟩
          · have hc5 : ∀ w Q, Bears w (spcA z (Z * Y) 1024 ⟨g + 1, false, G, G⟩ * Q) → w.cell? ⟨z, 5, none⟩ = some (.int .i64 ((g : Int) + 1)) := fun w Q h => by
              obtain ⟨was, now, tv, ts, _, h1⟩ := Bears.spc.1 h
              obtain ⟨_, _, _, _, _, c5, _⟩ := h1.spcCells
              exact c5
            have Hc5 := Lib.hid hc5
            obtain ⟨gs, hgs⟩ : ∃ gs, S'.g = gs := ⟨_, rfl⟩
            have hgr := fun w R (h : Bears w (stA x2 q d6 1024 (outL 1024) S' * R)) => (sgroups_any h).mono (R' := fun e w' => e = .returned (.int .i64 (gs : Int)) ∧ Bears w' (stA x2 q d6 1024 (outL 1024) S' * R)) (fun e w' ⟨h1, h2⟩ => ⟨by rw [h1, hgs], h2⟩)
            have Hgr := Lib.hid hgr
            have Hgs := Lib.hid hgs
            clear hc5 hgr hgs
            go_wp2_with fail
            refine wp_region_L (fun w' => ∃ Q, Bears w' (spcA z (Z * Y) 1024 ⟨g + 1, false, G, G⟩ * Q)) 7 [(true, 0), (true, 2), (true, 3), (true, 4), (true, 5), (false, 1), (true, 6)] [] (by kernel_rfl) (by kernel_rfl) ⟨_, h13.pull2.drew⟩ ?_
            simp only [pick, List.getElem?_cons_zero, List.getElem?_cons_succ]
            refine wpL_yield (v := ?_) rfl (fun w' hS => ?_) ?_
            rotate_left
            · (obtain ⟨_, hS⟩ := hS; have c5 := Hc5.out _ _ hS; go_simp; try with_reducible rfl)
            simp only [Act.put, List.setIfInBounds_toArray, List.set_cons_zero, List.set_cons_succ]
            refine wpL_yield (v := ?_) rfl (fun w' hS => ?_) ?_
            rotate_left
            · (obtain ⟨_, hS⟩ := hS; have c5 := Hc5.out _ _ hS; go_simp; try with_reducible rfl)
            simp only [Act.put, List.setIfInBounds_toArray, List.set_cons_zero, List.set_cons_succ]
            refine wpL_yield (v := ?_) rfl (fun w' hS => ?_) ?_
            rotate_left
            · (obtain ⟨_, hS⟩ := hS; have c5 := Hc5.out _ _ hS; go_simp; try with_reducible rfl)
            simp only [Act.put, List.setIfInBounds_toArray, List.set_cons_zero, List.set_cons_succ]
            refine wpL_yield (v := ?_) rfl (fun w' hS => ?_) ?_
            rotate_left
            · (obtain ⟨_, hS⟩ := hS; have c5 := Hc5.out _ _ hS; go_simp; try with_reducible rfl)
            simp only [Act.put, List.setIfInBounds_toArray, List.set_cons_zero, List.set_cons_succ]
            refine wpL_yield (v := ?_) rfl (fun w' hS => ?_) ?_
            rotate_left
            · (obtain ⟨_, hS⟩ := hS; have c5 := Hc5.out _ _ hS; go_simp; try with_reducible rfl)
            simp only [Act.put, List.setIfInBounds_toArray, List.set_cons_zero, List.set_cons_succ]
            refine wpL_eff rfl ?_
            go_simp
            refine (Hgr.out _ _ h13.drew).mono ?_
            rintro e w14 ⟨rfl, h14⟩
            refine ⟨⟨_, h14.pull2⟩, ?_⟩
            try simp only [Act.put, List.setIfInBounds_toArray, List.set_cons_zero, List.set_cons_succ]
            refine wpL_yield (v := ?_) rfl (fun w' hS => ?_) ?_
            rotate_left
            · (go_simp; try with_reducible rfl)
            simp only [Act.put, List.setIfInBounds_toArray, List.set_cons_zero, List.set_cons_succ]
            refine wpL_nil ?_
            refine wpL_nil ?_
            go_upto_if 175 with (fail)
            go_cut [21] (fun v wr => ∃ (u : Nat) (U Q' : Assn), v = .pointer (some ⟨u, 0, none⟩) ∧ True ∧ (∀ w, Bears w (spcA u U 1024 S' * (U * Q')) → Bears w (stA sp0 p d 1024 (outL 1024) ⟨g, false, F, F⟩ * (spcA y Y 1024 ⟨g, false, F, F⟩ * (Y * R)))) ∧ Bears wr (stA x2 q d6 1024 (outL 1024) S' * (spcA u U 1024 S' * (U * Q'))))
            case first =>
              rcases HS.out with ⟨rfl, hr⟩ | rfl
              · obtain rfl : g = gs := Hgs.out
                have e1 : ((g : Int) == (g : Int) + 1) = false := by simp [beq_eq_false_iff_ne]; omega
                go_wp2_with fail
                go_meet
                case rel => exact ⟨y, Y, Z * (spcA z (Z * Y) 1024 ⟨g + 1, false, G, G⟩ * (stA sp0 p d 1024 (outL 1024) ⟨g, false, F, F⟩ * R)), rfl, trivial, fun w h => (h.cast (by ac_rfl) : Bears w (Z * (spcA z (Z * Y) 1024 ⟨g + 1, false, G, G⟩ * (stA sp0 p d 1024 (outL 1024) ⟨g, false, F, F⟩ * (spcA y Y 1024 ⟨g, false, F, F⟩ * (Y * R)))))).right.right, h14.cast (by ac_rfl)⟩
              · obtain rfl : g + 1 = gs := Hgs.out
                have e1 : (((g + 1 : Nat) : Int) == (g : Int) + 1) = true := by simp
                go_wp2_with fail
                go_meet
                case rel => exact ⟨z, Z * Y, (spcA y Y 1024 ⟨g, false, F, F⟩ * (stA sp0 p d 1024 (outL 1024) ⟨g, false, F, F⟩ * R)), rfl, trivial, fun w h => (h.right.cast (by ac_rfl) : Bears w (Z * (stA sp0 p d 1024 (outL 1024) ⟨g, false, F, F⟩ * (spcA y Y 1024 ⟨g, false, F, F⟩ * (Y * R))))).right, h14.cast (by ac_rfl)⟩
            case rest =>
              obtain ⟨u, U, Q', rfl, hu, hback, h15⟩ := hcut
              clear hu
              have hal := alike4_any h15
              have Hal := Lib.hid hal
              have Hback := Lib.hid hback
              clear hal hback h14 h13
              go_wp2_with fail
              refine Hal.out.mono ?_
              rintro e w16 ⟨rfl, h16⟩
              clear Hal h15
              go_wp2_with fail
              go_loopw [23] (fun iv wr => ∃ n : Nat, 751 ≤ n ∧ n ≤ 780 ∧ iv = .int .i64 n ∧ Bears wr (stA x2 q d6 1024 (outL 1024) S' * (spcA u U 1024 S' * (U * Q')))) (fun iv _ => 780 - (intOf iv).toNat)
              case atStart => exact ⟨751, by omega, by omega, rfl, h16⟩
              case round =>
                clear h16
                obtain ⟨n, hn1, hn2, rfl, h17⟩ := hrel
                by_cases hlt : n < 780
                · obtain ⟨t, ht⟩ : ∃ t, S'.read 1024 (n : Int) = t := ⟨_, rfl⟩
                  have hrd := read_st h17 (n : Int) ht
                  have hrr := fun w Q (h : Bears w (spcA u U 1024 S' * (U * Q))) => rsread_any h (by decide) (by decide) (n : Int) (by omega) ht
                  have Hrd := Lib.hid hrd
                  have Hrr := Lib.hid hrr
                  clear hrd hrr ht h17
                  go_wp2_with fail
                  refine Hrd.out.mono ?_
                  rintro e w18 ⟨ad1, n1, cap1, rfl, h18⟩
                  have h19 : Bears w18 (spcA u U 1024 S' * (U * (bufA (.slice ad1 n1 cap1) t.b * (stA x2 q d6 1024 (outL 1024) S' * Q')))) := h18.cast (by ac_rfl)
                  have hrr2 := Hrr.out _ _ h19
                  have Hrr2 := Lib.hid hrr2
                  clear hrr2 h18 h19 Hrd Hrr
                  go_wp2_with fail
                  refine Hrr2.out.mono ?_
                  rintro e w20 ⟨ad2, n2, cap2, rfl, h20⟩
                  have hb2 := buf_tells _ h20
                  have hb1 := buf_tells _ h20.pull4
                  have h21 : Bears w20 (stA x2 q d6 1024 (outL 1024) S' * (spcA u U 1024 S' * (U * Q'))) := (h20.right.cast (by ac_rfl) : Bears w20 (bufA (.slice ad1 n1 cap1) t.b * (stA x2 q d6 1024 (outL 1024) S' * (spcA u U 1024 S' * (U * Q'))))).right
                  clear Hrr2 h20
                  go_wp2_with (first | (refine wpList_op rfl (exec_convert rfl rfl (run_convert_in hb1)) ?_) | (refine wpList_op rfl (exec_convert rfl rfl (run_convert_in hb2)) ?_))
                  go_roundw
                  case rel => exact ⟨n + 1, by omega, hlt, by go_num, h21⟩
                  case measure => simp [intOf]; omega
                · go_wp2_with fail
                  go_roundw
                  case rel => exact ⟨fz + 7, by omega, by go_num, Hback.out _ h17.right⟩
                  case measure => simp [intOf]; omega
      · go_wp2_with fail
        go_ret
        exact ⟨rfl, h1.right.right.right⟩

end Go.Proofs.YtcggloceabjjdaaGreat
