/- Texts of this claim, put together: RowB, Ops, COps, CPlaysW, OpsZ; no condition. -/
import Derived.Test.YtggbnelbnbaoiaaM28442d4041
import Derived.Test.YtggbnelbnbaoiaaChecked
import Derived.Deep.Slices
import Derived.Deep.Fields
import Derived.Deep.DeepCutAuto
import Derived.Deep.CutBlock
import Derived.SizedLaws
import Derived.ChangeMaps5

set_option linter.unusedSimpArgs false
set_option linter.unusedVariables false

/- From the readings of a row to what a walk is told of its slices; no condition. -/
namespace Go.Proofs.Ytggbnelbnbaoiaa
open Go.RowKit

theorem old_tells {W : World} {p : World → Prop} (h : ∀ w, (∀ b, b < W.heap.size → w.heap[b]? = W.heap[b]?) → p w) : (Assn.old W.heap.size W).Tells p := by
  rintro w ⟨F, rfl, h0, _, _, _, h4⟩
  exact h w h4

/-- The form in which a slice of integers comes in. -/
abbrev RowIn (k : IntKind) (w : World) (a : Option Addr) (len cap : Nat) (zs : List Int) : Prop :=
  (a = none ∧ len = 0 ∧ cap = 0 ∧ zs = []) ∨
  ∃ x, a = some x ∧ len ≤ cap ∧ cap ≤ maxLen ∧ zs.length = cap ∧ (∀ i, i < zs.length → w.cell? (x.add i) = some (.int k (zs.getD i 0))) ∧ ∀ n ∈ zs, (Lit.int k n).wf = true

theorem addr_of_cell {w : World} {x : Addr} {v : Value} (h : w.cell? x = some v) : x = ⟨x.block, x.off, none⟩ := by
  unfold World.cell? at h
  split at h
  · cases hs : x.spot with
    | none => cases x; simp_all
    | some s => simp [hs] at h
  · cases h

theorem row_range {k : IntKind} {W : World} {a : Option Addr} {len cap : Nat} {zs : List Int} (h : RowIn k W a len cap zs) (hl : 0 < len) :
    ∃ b o, a = some ⟨b, o, none⟩ ∧ b < W.heap.size ∧ W.rangeAt b o ((zs.take len).map (Value.int k)) := by
  rcases h with ⟨_, h0, _⟩ | ⟨x, rfl, hlc, _, hz, hc, _⟩
  · omega
  · have h0 := hc 0 (by omega)
    have e0 : x.add 0 = x := by simp [Addr.add]
    rw [e0] at h0
    have ex := addr_of_cell h0
    refine ⟨x.block, x.off, by rw [← ex], World.block_lt_of_cell? W x h0, fun j v hv => ?_⟩
    rw [List.getElem?_map, List.getElem?_take] at hv
    split at hv
    · rename_i hj
      have hj' : j < zs.length := by omega
      have := hc j hj'
      rw [ex, Addr.add_mid] at this
      rw [this]
      rw [List.getElem?_eq_getElem hj'] at hv
      simp only [Option.map_some, Option.some.injEq] at hv
      rw [← hv, List.getD_eq_getElem?_getD, List.getElem?_eq_getElem hj']
      rfl
    · cases hv

theorem range_old {W w : World} {b o : Nat} {cs : List Value} (h : W.rangeAt b o cs) (hb : b < W.heap.size) (hw : ∀ b, b < W.heap.size → w.heap[b]? = W.heap[b]?) : w.rangeAt b o cs :=
  rangeAt_block h (hw b hb)

theorem row_bytes {W : World} {a : Option Addr} {len cap : Nat} {zs : List Int} (h : RowIn .u8 W a len cap zs) :
    ∃ l : List UInt8, l.length = len ∧ (Assn.old W.heap.size W).Tells (fun w => BytesIn w (.slice a len cap) l) ∧ len ≤ 9223372036854775807 := by
  have hlen : (zs.take len).length = len ∧ len ≤ 9223372036854775807 := by
    rcases h with ⟨_, rfl, _, rfl⟩ | ⟨x, _, hlc, hm, hz, _, _⟩
    · simp
    · unfold maxLen at hm
      simp; omega
  have hwf : ∀ n ∈ zs.take len, 0 ≤ n ∧ n ≤ 255 := by
    intro n hn
    rcases h with ⟨_, _, _, rfl⟩ | ⟨x, _, _, _, _, _, hw⟩
    · simp at hn
    · have := hw n (List.mem_of_mem_take hn)
      simp [Lit.wf, IntKind.min, IntKind.max, IntKind.signed, IntKind.bits] at this
      omega
  refine ⟨(zs.take len).map (fun n => UInt8.ofNat n.toNat), by simpa using hlen.1, old_tells (fun w hw => ?_), hlen.2⟩
  have hl2 : ((zs.take len).map (fun n => UInt8.ofNat n.toNat)).length = len := by simpa using hlen.1
  refine ⟨a, cap, by rw [hl2], fun hne => ?_⟩
  have hpos : 0 < len := by rw [← hl2]; exact List.length_pos_iff.2 hne
  obtain ⟨b, o, ha, hb, hr⟩ := row_range h hpos
  refine ⟨b, o, ha, ?_⟩
  have e : cellsV ((zs.take len).map (fun n => UInt8.ofNat n.toNat)) = (zs.take len).map (Value.int .u8) := by
    unfold cellsV
    rw [List.map_map]
    refine List.map_congr_left (fun n hn => ?_)
    have := hwf n hn
    simp only [Function.comp_apply, byteV]
    congr 1
    rw [UInt8.toNat_ofNat_of_lt' (by show n.toNat < 256; omega)]
    omega
  rw [e]
  exact range_old hr hb hw

theorem row_ints {W : World} {a : Option Addr} {len cap : Nat} {zs : List Int} (h : RowIn .i64 W a len cap zs) :
    ∃ l : List Int, l.length = len ∧ (Assn.old W.heap.size W).Tells (fun w => IntsIn w (.slice a len cap) l) ∧ len ≤ 9223372036854775807 ∧ ∀ x ∈ l, -9223372036854775808 ≤ x ∧ x ≤ 9223372036854775807 := by
  have hlen : (zs.take len).length = len ∧ len ≤ 9223372036854775807 := by
    rcases h with ⟨_, rfl, _, rfl⟩ | ⟨x, _, hlc, hm, hz, _, _⟩
    · simp
    · unfold maxLen at hm
      simp; omega
  refine ⟨zs.take len, hlen.1, old_tells (fun w hw => ?_), hlen.2, fun n hn => ?_⟩
  · refine ⟨a, cap, by rw [hlen.1], fun hne => ?_⟩
    have hpos : 0 < len := by rw [← hlen.1]; exact List.length_pos_iff.2 hne
    obtain ⟨b, o, ha, hb, hr⟩ := row_range h hpos
    exact ⟨b, o, ha, range_old hr hb hw⟩
  · rcases h with ⟨_, _, _, rfl⟩ | ⟨x, _, _, _, _, _, hw⟩
    · simp at hn
    · have := hw n (List.mem_of_mem_take hn)
      simp [Lit.wf, IntKind.min, IntKind.max, IntKind.signed, IntKind.bits] at this
      omega

theorem old_below {W w' : World} (h : Bears w' (Assn.old W.heap.size W)) : Below W.heap.size W w' := by
  obtain ⟨F, rfl, h0, h1, h2, h3, h4⟩ := h
  exact ⟨h1, h2, h3, h0, h4⟩

end Go.Proofs.Ytggbnelbnbaoiaa

/- A slice of calls (structs of five cells) that came in: its cells; no condition. -/
namespace Go.Proofs.Ytggbnelbnbaoiaa
open Go.RowKit Go.ChangeShapes Go.WideShapes Go.Deep

section
variable {H : Type} {enc : TypeId × Value → H} {P : Program} {W : World} {spare : Nat → Bool} {held : Bool}

/-- The cells of a slice of structs whose fields are of one cell each, row by row. -/
theorem trod_rows {t e : TypeId} {fs : Array Field} (ht : P.underlying t = some (.slice e)) (he : P.underlying e = some (.struct fs)) (hone : oneCellFields P fs = true) (hC : P.cellsOf e = fs.size) (hpos : 0 < fs.size)
    {a : Option Addr} {len cap fuel : Nat} {x : DataW H × List MemPlace} (h : DataW.trod enc P W 0 spare held fuel t [.slice a len cap] = some x) :
    len ≤ maxLen ∧ ∃ rows : Nat → List Value, (0 < len → ∃ b o, a = some ⟨b, o, none⟩ ∧ b < W.heap.size ∧ ∀ i j, i < len → j < fs.size → W.cell? ⟨b, o + i * fs.size + j, none⟩ = (rows i)[j]?) ∧
      ∀ i, i < len → (rows i).length = fs.size ∧ ∀ (j : Nat) (f : Field), fs[j]? = some f → ∃ v n y, (rows i)[j]? = some v ∧ DataW.trod enc P W 0 spare held n f.type [v] = some y := by
  rcases open_slice ht h with ⟨hcs, _⟩ | ⟨a', len', cap', m, n, D, Pl, hcs, hb, hl, hm, hmm, hx, hi⟩
  · simp only [List.cons.injEq, Value.slice.injEq, and_true] at hcs
    obtain ⟨_, rfl, _⟩ := hcs
    exact ⟨by omega, fun _ => [], fun h => absurd h (by omega), fun i h => absurd h (by omega)⟩
  · simp only [List.cons.injEq, Value.slice.injEq, and_true] at hcs
    obtain ⟨rfl, rfl, rfl⟩ := hcs
    have hlm : len ≤ m := by rw [hmm]; split <;> omega
    obtain ⟨rows, hr⟩ := choose_lt hi
    have hrow : ∀ i, i < len → (rows i).length = fs.size ∧ ∀ j, j < fs.size → W.cell? (a'.add (i * fs.size + j)) = (rows i)[j]? := by
      intro i hi
      obtain ⟨h1, _⟩ := hr i (by omega)
      rw [hC] at h1
      obtain ⟨_, h2, h3⟩ := World.cells?_some h1
      exact ⟨h2, fun j hj => by rw [← add_add]; exact h3 j hj⟩
    refine ⟨by omega, rows, fun h0 => ?_, fun i hi => ⟨(hrow i hi).1, fun j f hj => ?_⟩⟩
    · obtain ⟨h1, h2⟩ := hrow 0 h0
      have h3 := h2 0 hpos
      rw [List.getElem?_eq_getElem (by omega)] at h3
      have e0 : a'.add (0 * fs.size + 0) = a' := by simp [Addr.add]
      rw [e0] at h3
      have ex := addr_of_cell h3
      refine ⟨a'.block, a'.off, by rw [← ex], World.block_lt_of_cell? W a' h3, fun i j hi hj => ?_⟩
      have h4 := (hrow i hi).2 j hj
      rw [ex, Addr.add_mid] at h4
      rw [← h4, Nat.add_assoc]
    · obtain ⟨hcl, h2⟩ := hrow i hi
      obtain ⟨_, h1⟩ := hr i (by omega)
      obtain ⟨ys, n', hn', hy, hlen, hyl, hf⟩ := DataW.trod_struct he h1
      obtain ⟨ho, hk⟩ := hone_of hone j f hj
      have hjl : j < fs.size := (Array.getElem?_eq_some_iff.1 hj).1
      have h4 := hf j f hj
      rw [ho, hk] at h4
      have h5 : ((rows i).drop j).take 1 = [(rows i)[j]'(by omega)] := by
        rw [List.drop_eq_getElem_cons (by omega)]
        rfl
      rw [h5, List.getElem?_eq_getElem (by omega)] at h4
      exact ⟨_, _, _, List.getElem?_eq_getElem (by omega), h4⟩

theorem trod_i64 {t : TypeId} {v : Value} {n : Nat} {y : DataW H × List MemPlace} (ht : P.underlying t = some (.int .i64)) (h : DataW.trod enc P W 0 spare held n t [v] = some y) :
    ∃ z, v = .int .i64 z ∧ -9223372036854775808 ≤ z ∧ z ≤ 9223372036854775807 := by
  obtain ⟨z, h1, _, h2⟩ := DataW.trod_int ht h
  simp only [List.cons.injEq, and_true] at h1
  simp [Lit.wf, IntKind.min, IntKind.max, IntKind.signed, IntKind.bits] at h2
  exact ⟨z, h1, by omega, by omega⟩
theorem trod_u8 {t : TypeId} {v : Value} {n : Nat} {y : DataW H × List MemPlace} (ht : P.underlying t = some (.int .u8)) (h : DataW.trod enc P W 0 spare held n t [v] = some y) : ∃ c, v = byteV c := by
  obtain ⟨z, h1, _, h2⟩ := DataW.trod_int ht h
  simp only [List.cons.injEq, and_true] at h1
  simp [Lit.wf, IntKind.min, IntKind.max, IntKind.signed, IntKind.bits] at h2
  refine ⟨UInt8.ofNat z.toNat, ?_⟩
  rw [h1]
  unfold byteV
  congr 1
  rw [UInt8.toNat_ofNat_of_lt' (by show z.toNat < 256; omega)]
  omega
theorem trod_row {t e : TypeId} {k : IntKind} {v : Value} {n : Nat} {y : DataW H × List MemPlace} (ht : P.underlying t = some (.slice e)) (he : P.underlying e = some (.int k)) (hc : P.cellsOf e = 1)
    (h : DataW.trod enc P W 0 (fun _ => true) held n t [v] = some y) : ∃ a len cap zs, v = .slice a len cap ∧ RowIn k W a len cap zs := by
  rcases open_ints ht he hc h with ⟨hcs, _⟩ | ⟨x, l, c, zs, hcs, _, hl, hm, hz, _, hcell, hwz⟩
  · simp only [List.cons.injEq, and_true] at hcs
    exact ⟨none, 0, 0, [], hcs, .inl ⟨rfl, rfl, rfl, rfl⟩⟩
  · simp only [List.cons.injEq, and_true] at hcs
    exact ⟨_, _, _, zs, hcs, .inr ⟨_, rfl, hl, hm, by simpa using hz, hcell, hwz⟩⟩
end

/-- A call of the disk's laws. -/
structure OpM where
  kind : Int
  at' : Int
  n : Int
  byte : UInt8
  kad : Option Addr
  kcap : Nat
  keep : List Int
instance : Inhabited OpM := ⟨⟨0, 0, 0, 0, none, 0, []⟩⟩
def OpM.row (o : OpM) : List Value := [.int .i64 o.kind, .int .i64 o.at', .int .i64 o.n, byteV o.byte, .slice o.kad o.keep.length o.kcap]
structure OpM.Fine (o : OpM) : Prop where
  kind : -9223372036854775808 ≤ o.kind ∧ o.kind ≤ 9223372036854775807
  at' : -9223372036854775808 ≤ o.at' ∧ o.at' ≤ 9223372036854775807
  n : -9223372036854775808 ≤ o.n ∧ o.n ≤ 9223372036854775807
  keeps : o.keep.length ≤ 9223372036854775807
  keep : ∀ x ∈ o.keep, -9223372036854775808 ≤ x ∧ x ≤ 9223372036854775807

def OpsIn (w : World) (v : Value) (ops : List OpM) : Prop :=
  ∃ ad cap, v = .slice ad ops.length cap ∧ (ops ≠ [] → ∃ b o, ad = some ⟨b, o, none⟩ ∧ ∀ i j u, i < ops.length → (ops.getD i default).row[j]? = some u → w.cell? ⟨b, o + i * 5 + j, none⟩ = some u) ∧
    ∀ k, k < ops.length → IntsIn w (.slice (ops.getD k default).kad (ops.getD k default).keep.length (ops.getD k default).kcap) (ops.getD k default).keep

theorem OpsIn.cells {w : World} {ad : Option Addr} {n cap : Nat} {ops : List OpM} (h : OpsIn w (.slice ad n cap) ops) {k : Nat} (hk : k < ops.length) :
    ∃ b o, ad = some ⟨b, o, none⟩ ∧ w.cell? ⟨b, o + k * 5, none⟩ = some (.int .i64 (ops.getD k default).kind) ∧ w.cell? ⟨b, o + k * 5 + 1, none⟩ = some (.int .i64 (ops.getD k default).at') ∧
      w.cell? ⟨b, o + k * 5 + 2, none⟩ = some (.int .i64 (ops.getD k default).n) ∧ w.cell? ⟨b, o + k * 5 + 3, none⟩ = some (byteV (ops.getD k default).byte) ∧
      w.cell? ⟨b, o + k * 5 + 4, none⟩ = some (.slice (ops.getD k default).kad (ops.getD k default).keep.length (ops.getD k default).kcap) := by
  obtain ⟨ad', cap', hv, hr, _⟩ := h
  simp only [Value.slice.injEq] at hv
  obtain ⟨rfl, _, _⟩ := hv
  obtain ⟨b, o, e, hc⟩ := hr (by intro e; simp [e] at hk)
  exact ⟨b, o, e, hc k 0 _ hk rfl, hc k 1 _ hk rfl, hc k 2 _ hk rfl, hc k 3 _ hk rfl, hc k 4 _ hk rfl⟩
theorem OpsIn.keep {w : World} {v : Value} {ops : List OpM} (h : OpsIn w v ops) {k : Nat} (hk : k < ops.length) :
    IntsIn w (.slice (ops.getD k default).kad (ops.getD k default).keep.length (ops.getD k default).kcap) (ops.getD k default).keep := by
  obtain ⟨ad', cap', hv, hr, h⟩ := h
  exact h k hk

end Go.Proofs.Ytggbnelbnbaoiaa

/- A slice of the cache's calls (structs of four cells) that came in; no condition. -/
namespace Go.Proofs.Ytggbnelbnbaoiaa
open Go.RowKit Go.ChangeShapes Go.WideShapes Go.Deep

structure COpM where
  kind : Int
  at' : Int
  n : Int
  byte : UInt8
instance : Inhabited COpM := ⟨⟨0, 0, 0, 0⟩⟩
def COpM.row (o : COpM) : List Value := [.int .i64 o.kind, .int .i64 o.at', .int .i64 o.n, byteV o.byte]
structure COpM.Fine (o : COpM) : Prop where
  kind : -9223372036854775808 ≤ o.kind ∧ o.kind ≤ 9223372036854775807
  at' : -9223372036854775808 ≤ o.at' ∧ o.at' ≤ 9223372036854775807
  n : -9223372036854775808 ≤ o.n ∧ o.n ≤ 9223372036854775807

def COpsIn (w : World) (v : Value) (ops : List COpM) : Prop :=
  ∃ ad cap, v = .slice ad ops.length cap ∧ (ops ≠ [] → ∃ b o, ad = some ⟨b, o, none⟩ ∧ ∀ i j u, i < ops.length → (ops.getD i default).row[j]? = some u → w.cell? ⟨b, o + i * 4 + j, none⟩ = some u)

theorem COpsIn.range {w : World} {ad : Option Addr} {n cap : Nat} {ops : List COpM} (h : COpsIn w (.slice ad n cap) ops) {k : Nat} (hk : k < ops.length) :
    ∃ b o, ad = some ⟨b, o, none⟩ ∧ w.rangeAt b (o + k * 4) (ops.getD k default).row := by
  obtain ⟨ad', cap', hv, hr⟩ := h
  simp only [Value.slice.injEq] at hv
  obtain ⟨rfl, _, _⟩ := hv
  obtain ⟨b, o, e, hc⟩ := hr (by intro e; simp [e] at hk)
  exact ⟨b, o, e, fun j u hu => hc k j u hk hu⟩

theorem COpsIn.cells {w : World} {ad : Option Addr} {n cap : Nat} {ops : List COpM} (h : COpsIn w (.slice ad n cap) ops) {k : Nat} (hk : k < ops.length) :
    ∃ b o, ad = some ⟨b, o, none⟩ ∧ w.cell? ⟨b, o + k * 4, none⟩ = some (.int .i64 (ops.getD k default).kind) ∧ w.cell? ⟨b, o + k * 4 + 1, none⟩ = some (.int .i64 (ops.getD k default).at') ∧
      w.cell? ⟨b, o + k * 4 + 2, none⟩ = some (.int .i64 (ops.getD k default).n) ∧ w.cell? ⟨b, o + k * 4 + 3, none⟩ = some (byteV (ops.getD k default).byte) := by
  obtain ⟨b, o, e, hr⟩ := h.range hk
  exact ⟨b, o, e, hr 0 _ rfl, hr 1 _ rfl, hr 2 _ rfl, hr 3 _ rfl⟩

theorem row_cops {H : Type} {enc : TypeId × Value → H} {W : World} {held : Bool} {a : Option Addr} {len cap fuel : Nat} {x : DataW H × List MemPlace}
    (h : DataW.trod enc Try.prog W 0 (fun _ => true) held fuel 55 [.slice a len cap] = some x) :
    ∃ ops : List COpM, ops.length = len ∧ (Assn.old W.heap.size W).Tells (fun w => COpsIn w (.slice a len cap) ops) ∧ len ≤ 9223372036854775807 ∧ ∀ k, k < ops.length → (ops.getD k default).Fine := by
  obtain ⟨hm, rows, hcell, hrow⟩ := trod_rows (P := Try.prog) (e := 62) Try.underlying55 Try.underlying62 (by kernel_rfl) (by kernel_rfl) (by decide) h
  have hop : ∀ i, i < len → ∃ o : COpM, rows i = o.row ∧ o.Fine := by
    intro i hi
    obtain ⟨hl, hf⟩ := hrow i hi
    obtain ⟨v0, n0, y0, g0, h0⟩ := hf 0 _ rfl
    obtain ⟨v1, n1, y1, g1, h1⟩ := hf 1 _ rfl
    obtain ⟨v2, n2, y2, g2, h2⟩ := hf 2 _ rfl
    obtain ⟨v3, n3, y3, g3, h3⟩ := hf 3 _ rfl
    obtain ⟨z0, rfl, b0⟩ := trod_i64 (by kernel_rfl) h0
    obtain ⟨z1, rfl, b1⟩ := trod_i64 (by kernel_rfl) h1
    obtain ⟨z2, rfl, b2⟩ := trod_i64 (by kernel_rfl) h2
    obtain ⟨c, rfl⟩ := trod_u8 (by kernel_rfl) h3
    refine ⟨⟨z0, z1, z2, c⟩, ?_, ⟨b0, b1, b2⟩⟩
    match hq : rows i, hl with
    | [u0, u1, u2, u3], _ =>
      rw [hq] at g0 g1 g2 g3
      simp only [List.getElem?_cons_zero, List.getElem?_cons_succ, Option.some.injEq] at g0 g1 g2 g3
      subst g0; subst g1; subst g2; subst g3
      rfl
  obtain ⟨f, hf⟩ := choose_lt hop
  have hget : ∀ i, i < len → ((List.range len).map f).getD i default = f i := by
    intro i hi
    simp [hi]
  refine ⟨(List.range len).map f, by simp, ?_, by unfold maxLen at hm; omega, fun k hk => ?_⟩
  · intro w hw
    refine ⟨a, cap, by simp, fun hne => ?_⟩
    have hpos : 0 < len := by
      rcases Nat.eq_zero_or_pos len with e | e
      · subst e; simp at hne
      · exact e
    obtain ⟨b, o, ha, hb, hc⟩ := hcell hpos
    refine ⟨b, o, ha, fun i j u hi hu => ?_⟩
    simp only [List.length_map, List.length_range] at hi
    rw [hget i hi] at hu
    have hj : j < 4 := by
      have := (List.getElem?_eq_some_iff.1 hu).1
      simpa [COpM.row] using this
    have h1 := hc i j hi hj
    rw [(hf i hi).1, hu] at h1
    have h2 : w.rangeAt b (o + i * 4 + j) [u] := old_tells (p := fun w => w.rangeAt b (o + i * 4 + j) [u]) (fun w hw => range_old (fun j' v' hv' => by
      cases j' with
      | zero => simp only [List.getElem?_cons_zero, Option.some.injEq] at hv'; subst hv'; exact h1
      | succ n => simp at hv') hb hw) w hw
    exact h2 0 u rfl
  · simp only [List.length_map, List.length_range] at hk
    rw [hget k hk]
    exact (hf k hk).2

end Go.Proofs.Ytggbnelbnbaoiaa

/- CachePlays walked; no condition. -/
namespace Go.Proofs.Ytggbnelbnbaoiaa
open Go.RowKit Go.MapKept

theorem made_bytesC (n : Nat) : madeCells #[Value.int .u8 0] n = (cellsV (List.replicate n 0)).toArray := by
  unfold madeCells cellsV byteV
  apply Array.ext
  · simp
  · intro i h1 h2
    simp [Nat.mod_one]
theorem run_make_bytesC (w : World) (n : Nat) (hn : n ≤ 16384) : (Instr.makeSlice 33 (.int .i64 n) (.int .i64 n)).run Try.prog w = .ok (.slice (some ⟨w.heap.size, 0, none⟩) n n) (w.alloc (.cells (cellsV (List.replicate n 0)).toArray 5)) := by
  obtain ⟨i0, hi0, hz0, hz1, hz2⟩ := info_parts i_byte
  have h := run_makeSlice (P := Try.prog) (w := w) 33 5 i0 _ u_bytes hi0 hz0 .i64 .i64 (n : Int) (n : Int) (by omega) (Int.le_refl _) (by rw [hz1, Int.toNat_natCast]; omega) (by rw [hz2]; omega) (by omega)
  rw [hz1, Int.toNat_natCast, Nat.mul_one, show (Value.int .u8 0).cells = #[Value.int .u8 0] by simp [Value.cells], made_bytesC] at h
  exact h
theorem i_int1 : (Try.prog.info? 3).map (fun i => (i.zero, i.size, i.bytes)) = some (some (.int .i64 0), 1, 8) := by kernel_rfl
theorem u_ints1 : Try.prog.underlying 40 = some (.slice 3) := by kernel_rfl

abbrev copObj (ob : Nat) (kd at' n : Int) (c : UInt8) : Assn := Assn.obj ob (.cells #[.int .i64 kd, .int .i64 at', .int .i64 n, byteV c] 62 (0, 0))
/-- The program's cache, and the document's. -/
abbrev twoC (c p x y yd : Nat) (Y : Assn) (cm : CacheM) (d dr : DiskM) (g : Nat) (R : Assn) : Assn := cacheA c p x cm * (diskA p d * (walObj x p 0 40 (g : Int) * (refC y yd Y cm dr * (Y * R))))
theorem twoC_wf {c p x y yd : Nat} {Y : Assn} {cm : CacheM} {d dr : DiskM} {g : Nat} {R : Assn} {w : World} (h : Bears w (twoC c p x y yd Y cm d dr g R)) : cm.WF := by
  obtain ⟨_, _, _, _, _, _, hwf, _⟩ := Bears.cache.1 h
  exact hwf

set_option maxRecDepth 100000 in
set_option maxHeartbeats 16000000 in
theorem cachePlays_walk {R : Assn} {w : World} (h : Bears w R) (most : Int) (hm : -9223372036854775808 ≤ most ∧ most ≤ 9223372036854775807) {oad : Option Addr} {on ocap : Nat} {ops : List COpM} (hops : R.Tells (fun w => COpsIn w (.slice oad on ocap) ops)) (hon : ops.length = on)
    (hfine : ∀ k, k < ops.length → (ops.getD k default).Fine) (hlo : on ≤ 9223372036854775807) :
    Calls Try.prog 7 #[.int .i64 most, .slice oad on ocap] w fun e w' => e = .returned (.bool true) ∧ Bears w' R := by
  have Hfine := Lib.hid hfine
  have Hops := Lib.hid hops
  have Hon := Lib.hid hon
  obtain ⟨s, hs, hks⟩ := kindC_lt most 60 (by omega)
  rw [show ((60 : Nat) : Int) = 60 from rfl] at hks
  have Hks := Lib.hid hks
  clear hfine hops hon hks
  go_enter Try.func7, Try.ntmps7
  go_wp2_with fail
  refine (shown3_any h).mono ?_
  rintro e w1 ⟨rfl, h1⟩
  go_wp2_with fail
  refine (kind_any most 60 w1 hm (by omega)).mono ?_
  rintro e w1' ⟨rfl, rfl⟩
  rw [Hks.out]
  go_wp2_with fail
  refine (ground3_any h1 _ (by omega)).mono ?_
  rintro e w2 ⟨p, c, x, d0, rfl, L, hdl, hfu, _, _, h2⟩
  go_wp2_with fail
  refine (plain_any h2 _).mono ?_
  rintro e w3 ⟨y, yd, Y0, rfl, h3⟩
  go_wp2_with fail
  have hS0 : ∀ M, SameC (CacheM.new M) d0 (DiskM.new 100) 0 (fun _ => zeroSec) 0 := fun M => ⟨L, Nat.le_refl _, hfu, hdl, rfl, rfl, rfl, rfl, fun _ _ => rfl, by simp [CacheM.new]⟩
  have HS0 := Lib.hid (hS0 (1 + (s : Int)))
  clear hS0 L hdl hfu h2 h1 h
  have h4 : Bears w3 (twoC c p x y yd Y0 (CacheM.new (1 + (s : Int))) d0 (DiskM.new 100) 0 R) := h3.cast (by unfold twoC; ac_rfl)
  clear h3
  go_loopw [10] (fun iv wr => ∃ (k : Nat) (cm : CacheM) (d dr : DiskM) (g : Nat) (F : Nat → Sec) (Y : Assn), k ≤ ops.length ∧ k ≤ 250 ∧ iv = .int .i64 k ∧ SameC cm d dr g F k ∧ Bears wr (twoC c p x y yd Y cm d dr g R)) (fun iv _ => 250 - (intOf iv).toNat)
  case atStart => exact ⟨0, _, _, _, 0, _, Y0, by omega, by omega, rfl, HS0.out, h4⟩
  case round =>
    clear h4 HS0
    obtain ⟨k, cm, d, dr, g, F, Y, hk, hk2, rfl, hS, h7⟩ := hrel
    have hwf := twoC_wf h7
    have hln := hS.length hwf.nodup
    by_cases hlt : k < ops.length ∧ k < 250
    · obtain ⟨hlt, hlt2⟩ := hlt
      obtain ⟨ob, oo, had, q0, q1, q2, q3⟩ := (Hops.out _ h7.right.right.right.right.right).cells hlt
      have hfi := Hfine.out k hlt
      have hkI : (k : Int) < (on : Int) := by have := Hon.out; omega
      have hk40 : (k : Int) < 250 := by omega
      subst had
      generalize ops.getD k default = op at q0 q1 q2 q3 hfi
      obtain ⟨kd, at', n', bc⟩ := op
      simp only at q0 q1 q2 q3
      obtain ⟨fk, fa, fn⟩ := hfi
      simp only at fk fa fn
      obtain ⟨kk, hkk, ek⟩ := kindC_lt kd 9 (by omega)
      rw [show ((9 : Nat) : Int) = 9 from rfl] at ek
      have hkc := fun w => kind_any kd 9 w fk (by omega)
      simp only [ek] at hkc
      have hA := h7.alloc (.cells #[.int .i64 kd, .int .i64 at', .int .i64 n', byteV bc] 62)
      have Hkc := Lib.hid hkc
      have HS := Lib.hid hS
      have Hwf := Lib.hid hwf
      have hA0 := cell_of_obj hA.obj 0
      have hA1 := cell_of_obj hA.obj 1
      have hA2 := cell_of_obj hA.obj 2
      have hA3 := cell_of_obj hA.obj 3
      simp only [List.getElem?_toArray, List.getElem?_cons_zero, List.getElem?_cons_succ] at hA0 hA1 hA2 hA3
      clear ek hkc hS hwf
      go_wp2_with fail
      refine (Hkc.out _).mono ?_
      rintro e0 w' ⟨rfl, rfl⟩
      generalize hob : wr.heap.size = ob1 at *
      clear hob q0 q1 q2 q3
      have hA : Bears _ (copObj ob1 kd at' n' bc * twoC c p x y yd Y cm d dr g R) := hA
      clear h7
      go_upto_block 2 with (fail)
      go_cut [12, 13] (fun ev fv wr => ∃ (cm : CacheM) (d dr : DiskM) (g : Nat) (F : Nat → Sec) (Y : Assn) (r : Int), ev = .int .i64 r ∧ fv = .int .i64 r ∧ SameC cm d dr g F (k + 1) ∧ Bears wr (copObj ob1 kd at' n' bc * twoC c p x y yd Y cm d dr g R))
      case first =>
        go_upto_if 56 with (fail)
        go_cut [56] (fun v wr => v = .bool (kk == 0 || kk == 1 || kk == 2) ∧ Bears wr (copObj ob1 kd at' n' bc * twoC c p x y yd Y cm d dr g R))
        case first =>
          as_aux_lemma =>
          clear Hkc
          obtain rfl | rfl | rfl | rfl | rfl | rfl | rfl | rfl | rfl : kk = 0 ∨ kk = 1 ∨ kk = 2 ∨ kk = 3 ∨ kk = 4 ∨ kk = 5 ∨ kk = 6 ∨ kk = 7 ∨ kk = 8 := by omega
          all_goals
            go_wp2_with fail
            go_meet
            case rel => exact ⟨rfl, hA⟩
        case' rest =>
          obtain ⟨rfl, hB⟩ := hcut
        clear hA hA0 hA1 hA2 hA3
        have hA := hB
        have hA0 := cell_of_obj hA.obj 0
        have hA1 := cell_of_obj hA.obj 1
        have hA2 := cell_of_obj hA.obj 2
        have hA3 := cell_of_obj hA.obj 3
        simp only [List.getElem?_toArray, List.getElem?_cons_zero, List.getElem?_cons_succ] at hA0 hA1 hA2 hA3
        clear hB
        by_cases hw : (kk == 0 || kk == 1 || kk == 2) = true
        · as_aux_lemma =>
          rw [hw]
          clear hw Hkc
          by_cases hin : 0 ≤ at' ∧ at' < 40
          · obtain ⟨i0, i1⟩ := hin
            have d0 : decide (at' ≥ 0) = true := decide_eq_true i0
            go_wp2_with fail
            go_roundw
            case rel => exact ⟨k + 1, cm, d, dr, g, F, Y, hlt, by omega, by go_num, HS.out.more, hA.right⟩
            case measure => simp [intOf]; omega
          · have hout : ¬ (0 ≤ at' ∧ at' < 40) := hin
            obtain ⟨r, s2, cm', hrd⟩ : ∃ r s2 cm', cm.read d at' = (r, s2, cm') := ⟨_, _, _, rfl⟩
            have hrd2 := (HS.out.read hout).trans hrd
            have hS2 := HS.out.readTo hrd
            have Hrd := Lib.hid hrd
            have Hrd2 := Lib.hid hrd2
            have HS2 := Lib.hid hS2
            clear hrd hrd2 hS2 hout
            have hin2 : at' < 0 ∨ 40 ≤ at' := by omega
            clear hin
            rcases hin2 with hin2 | hin2
            all_goals
              have hcr := cread_one (hA.cast (by unfold twoC; ac_rfl) : Bears _ (cacheA c p x cm * (diskA p d * (copObj ob1 kd at' n' bc * (walObj x p 0 40 (g : Int) * (refC y yd Y cm dr * (Y * R))))))) (by omega) Hrd.out
              have Hcr := Lib.hid hcr
              clear hcr
              go_wp2_with fail
              clear hA hA0 hA1 hA2 hA3
              refine Hcr.out.mono ?_
              rintro e1 w8 ⟨a1, n1, c1, rfl, h8⟩
              have b1 := cell_of_obj h8.pull4.obj 1
              simp only [List.getElem?_toArray, List.getElem?_cons_zero, List.getElem?_cons_succ] at b1
              have hcr := rcread_any (R := bufA (.slice a1 n1 c1) s2 * (cacheA c p x cm' * (diskA p d * (copObj ob1 kd at' n' bc * (walObj x p 0 40 (g : Int) * R))))) (h8.cast (by ac_rfl)) Hwf.out.nodup (by omega) (by rw [HS.out.rquiet]; simp) Hrd2.out
              have Hcr2 := Lib.hid hcr
              clear hcr h8 Hcr
              go_wp2_with fail
              refine Hcr2.out.mono ?_
              rintro e1 w9 ⟨a2, n2, c2, rfl, Z, h9⟩
              obtain ⟨Y2, hY2⟩ : ∃ Y2, Z * Y = Y2 := ⟨_, rfl⟩
              rw [hY2] at h9
              have h10 : Bears w9 (bufA (.slice a1 n1 c1) s2 * (bufA (.slice a2 n2 c2) s2 * (copObj ob1 kd at' n' bc * twoC c p x y yd Y2 cm' d dr g R))) := h9.cast (by unfold twoC; ac_rfl)
              have r1 := run_convert_in (buf_tells _ h10)
              have r2 := run_convert_in (buf_tells _ h10.pull2)
              have hl8 := h10.bufLen
              have hbig : s2.length ≤ 9223372036854775807 := by have := h10.bufMax; unfold maxLen at this; omega
              have Hl8 := Lib.hid hl8
              have h11 := h10.pull2.right
              clear hY2 h9 hl8 h10 Hcr2
              go_wp2_with (first | (refine wpList_conv rfl rfl rfl r1 ?_) | (refine wpList_conv rfl rfl rfl r2 ?_))
              clear r1 r2
              go_loopw [16] (fun iv wr => ∃ (j : Nat) (lb : List UInt8), j ≤ n1 ∧ iv = .int .i64 j ∧ lb.length = n1 ∧ Bears wr (bufA (.slice a1 n1 c1) lb * (copObj ob1 kd at' n' bc * twoC c p x y yd Y2 cm' d dr g R))) (fun iv _ => n1 - (intOf iv).toNat)
              case atStart => exact ⟨0, s2, by omega, rfl, Hl8.out.symm, h11⟩
              case round =>
                clear h11
                obtain ⟨j, lb, hj, rfl, hlb, h14⟩ := hrel
                by_cases hlt3 : j < n1
                · obtain ⟨g', o, rfl, hc, hfz, hset⟩ := h14.bufAt (j := j) (by omega)
                  have h15 : Bears (wr.setCell ⟨g', o + j, none⟩ (.int .u8 98)) _ := hset 98
                  have hl2 : (lb.set j 98).length = n1 := by simpa using hlb
                  have hl' : n1 ≤ 9223372036854775807 := by rw [Hl8.out]; exact hbig
                  generalize lb.getD j 0 = old at hc
                  generalize lb.set j 98 = lb2 at h15 hl2
                  have Hl2 := Lib.hid hl2
                  unfold byteV at hc
                  clear hset h14 hl2 hlb
                  go_wp2_with fail
                  go_roundw
                  case rel => exact ⟨j + 1, lb2, hlt3, by go_num, Hl2.out, h15⟩
                  case measure => simp [intOf]; omega
                · go_wp2_with fail
                  go_meet
                  case rel => exact ⟨cm', d, dr, g, F, Y2, r, rfl, rfl, HS2.out.more, h14.right⟩
        · have hw2 : (kk == 0 || kk == 1 || kk == 2) = false := (Bool.not_eq_true _).mp hw
          rw [hw2]
          have hk38 : 3 ≤ kk := by simp at hw; omega
          clear hw hw2
          go_upto_if 96 with (fail)
          go_cut [96] (fun v wr => v = .bool (kk == 3 || kk == 4 || kk == 8) ∧ Bears wr (copObj ob1 kd at' n' bc * twoC c p x y yd Y cm d dr g R))
          case first =>
            as_aux_lemma =>
            clear Hkc
            obtain rfl | rfl | rfl | rfl | rfl | rfl : kk = 3 ∨ kk = 4 ∨ kk = 5 ∨ kk = 6 ∨ kk = 7 ∨ kk = 8 := by omega
            all_goals
              go_wp2_with fail
              go_meet
              case rel => exact ⟨rfl, hA⟩
          case' rest =>
            obtain ⟨rfl, hB⟩ := hcut
          clear hA hA0 hA1 hA2 hA3
          have hA := hB
          have hA0 := cell_of_obj hA.obj 0
          have hA1 := cell_of_obj hA.obj 1
          have hA2 := cell_of_obj hA.obj 2
          have hA3 := cell_of_obj hA.obj 3
          simp only [List.getElem?_toArray, List.getElem?_cons_zero, List.getElem?_cons_succ] at hA0 hA1 hA2 hA3
          clear hB
          by_cases hw : (kk == 3 || kk == 4 || kk == 8) = true
          · as_aux_lemma =>
            rw [hw]
            have h71 := fun w => kind_any n' 71 w fn (by omega)
            obtain ⟨m, hm, em⟩ := kindC_lt n' 71 (by omega)
            rw [show ((71 : Nat) : Int) = 71 from rfl] at em
            simp only [em] at h71
            have H71 := Lib.hid h71
            have hmk := fun w => run_make_bytesC w m (by omega)
            have Hmk := Lib.hid hmk
            clear h71 em hmk hw
            go_wp2_with fail
            refine (full_any hA bc).mono ?_
            rintro e1 w8 ⟨g0, rfl, h8⟩
            have c0 := cell_of_obj h8.pull2.obj 0
            have c2 := cell_of_obj h8.pull2.obj 2
            simp only [List.getElem?_toArray, List.getElem?_cons_zero, List.getElem?_cons_succ] at c0 c2
            clear hA0 hA1 hA2 hA3 hA
            go_wp2_with fail
            refine (Hkc.out _).mono ?_
            rintro e1 w' ⟨rfl, rfl⟩
            go_upto_if 106 with (fail)
            go_cut [17] (fun v wr => ∃ (gg : Nat) (bl : List UInt8), v = .slice (some ⟨gg, 0, none⟩) bl.length bl.length ∧ bl.length ≤ 71 ∧ Bears wr (Assn.obj gg (.cells (cellsV bl).toArray 5 (0, 0)) * (copObj ob1 kd at' n' bc * twoC c p x y yd Y cm d dr g R)))
            case first =>
              by_cases h88 : kk = 8
              · subst h88
                go_wp2_with fail
                refine (H71.out _).mono ?_
                rintro e1 w' ⟨rfl, rfl⟩
                go_wp2_with (refine wpList_op rfl (exec_make rfl rfl rfl (Hmk.out _)) ?_)
                go_meet
                case rel => exact ⟨w8.heap.size, List.replicate m 0, by simp, by simp; omega, (h8.right.alloc _)⟩
              · have h8I : (kk : Int) ≠ 8 := by omega
                go_wp2_with fail
                go_meet
                case rel => exact ⟨g0, fullB bc, by simp [fullB], by simp [fullB], h8⟩
            case' rest =>
              clear c0 c2 h8 Hmk H71
              obtain ⟨gg, bl, rfl, hbl, hB⟩ := hcut
            obtain ⟨r, cm', hwd⟩ : ∃ r cm', cm.write 100 at' bl = (r, cm') := ⟨_, _, rfl⟩
            have hS2 := HS.out.writeTo hwd
            have hw1 : cm.write dr.len at' bl = (r, cm') := by rw [HS.out.rlen]; exact hwd
            have hw2 : cm.write d.len at' bl = (r, cm') := by rw [HS.out.len]; exact hwd
            have HS2 := Lib.hid hS2
            have Hw2 := Lib.hid hw2
            have hG : (Assn.obj gg (.cells (cellsV bl).toArray 5 (0, 0)) * (copObj ob1 kd at' n' bc * (cacheA c p x cm * (diskA p d * (walObj x p 0 40 (g : Int) * R))))).Tells (fun w => BytesIn w (.slice (some ⟨gg, 0, none⟩) bl.length bl.length) bl) := BytesIn.tells bl.length bl.length rfl
            have hcr := rcwrite_any (R := Assn.obj gg (.cells (cellsV bl).toArray 5 (0, 0)) * (copObj ob1 kd at' n' bc * (cacheA c p x cm * (diskA p d * (walObj x p 0 40 (g : Int) * R))))) (hB.cast (by unfold twoC; ac_rfl)) Hwf.out.nodup (by omega) hG hw1 (by omega)
            have c1 := cell_of_obj hB.pull2.obj 1
            simp only [List.getElem?_toArray, List.getElem?_cons_zero, List.getElem?_cons_succ] at c1
            have Hcr := Lib.hid hcr
            clear hcr hG hw1 hw2 hwd hS2 hB
            go_wp2_with fail
            refine Hcr.out.mono ?_
            rintro e1 w9 ⟨rfl, Z, h9⟩
            obtain ⟨Y2, hY2⟩ : ∃ Y2, Z * Y = Y2 := ⟨_, rfl⟩
            rw [hY2] at h9
            have hG : (Assn.obj gg (.cells (cellsV bl).toArray 5 (0, 0)) * (copObj ob1 kd at' n' bc * (walObj x p 0 40 (g : Int) * (refC y yd Y2 cm' dr * (Y2 * R))))).Tells (fun w => BytesIn w (.slice (some ⟨gg, 0, none⟩) bl.length bl.length) bl) := BytesIn.tells bl.length bl.length rfl
            have hcw := cwrite_to (h9.cast (by ac_rfl) : Bears w9 (cacheA c p x cm * (diskA p d * (Assn.obj gg (.cells (cellsV bl).toArray 5 (0, 0)) * (copObj ob1 kd at' n' bc * (walObj x p 0 40 (g : Int) * (refC y yd Y2 cm' dr * (Y2 * R)))))))) Hw2.out hG (by omega)
            have c1 := cell_of_obj (h9.cast (by ac_rfl) : Bears w9 (copObj ob1 kd at' n' bc * (refC y yd Y2 cm' dr * (Y2 * (Assn.obj gg (.cells (cellsV bl).toArray 5 (0, 0)) * (cacheA c p x cm * (diskA p d * (walObj x p 0 40 (g : Int) * R)))))))).obj 1
            simp only [List.getElem?_toArray, List.getElem?_cons_zero, List.getElem?_cons_succ] at c1
            have Hcw := Lib.hid hcw
            clear hcw hG h9 hY2 Hcr
            go_wp2_with fail
            refine Hcw.out.mono ?_
            rintro e1 w10 ⟨rfl, h10⟩
            have h13 : Bears w10 (Assn.obj gg (.cells (cellsV bl).toArray 5 (0, 0)) * (copObj ob1 kd at' n' bc * twoC c p x y yd Y2 cm' d dr g R)) := h10.cast (by unfold twoC; ac_rfl)
            clear h10 c1 Hcw
            go_wp2_with fail
            go_loopw [18] (fun iv wr => ∃ (j : Nat) (lb : List UInt8), j ≤ bl.length ∧ iv = .int .i64 j ∧ lb.length = bl.length ∧ Bears wr (Assn.obj gg (.cells (cellsV lb).toArray 5 (0, 0)) * (copObj ob1 kd at' n' bc * twoC c p x y yd Y2 cm' d dr g R))) (fun iv _ => bl.length - (intOf iv).toNat)
            case atStart => exact ⟨0, bl, by omega, rfl, rfl, h13⟩
            case round =>
              clear h13
              obtain ⟨j, lb, hj, rfl, hlb, h14⟩ := hrel
              by_cases hlt3 : j < bl.length
              · have hjI : (j : Int) < (bl.length : Int) := by omega
                have hc := h14.byteCell (j := j) (by omega)
                have hf := frozen_of_obj h14.obj j
                have h15 := h14.setByte j 99
                have hl2 : (lb.set j 99).length = bl.length := by simpa using hlb
                generalize lb.set j 99 = lb2 at h15 hl2
                generalize lb.getD j 0 = old at hc
                unfold byteV at hc h15
                have Hl2 := Lib.hid hl2
                clear hl2 hlb h14
                go_wp2_with fail
                go_roundw
                case rel => exact ⟨j + 1, lb2, hlt3, by go_num, Hl2.out, h15⟩
                case measure => simp [intOf]; omega
              · go_wp2_with fail
                go_meet
                case rel => exact ⟨cm', d, dr, g, F, Y2, r, rfl, rfl, HS2.out.more, h14.right⟩
          · have hw2 : (kk == 3 || kk == 4 || kk == 8) = false := (Bool.not_eq_true _).mp hw
            rw [hw2]
            obtain rfl | rfl | rfl : kk = 5 ∨ kk = 6 ∨ kk = 7 := by simp at hw; omega
            · as_aux_lemma =>
              clear hw hw2 Hkc hk38
              obtain ⟨r, cm', hb⟩ : ∃ r cm', cm.begins = (r, cm') := ⟨_, _, rfl⟩
              have hS2 := HS.out.beginTo hb
              have HS2 := Lib.hid hS2
              have Hb := Lib.hid hb
              clear hb hS2 hA0 hA1 hA2 hA3
              go_wp2_with fail
              refine (cbegin_to hA.pull2 Hb.out).mono ?_
              rintro e1 w8 ⟨rfl, h8⟩
              go_wp2_with fail
              refine (rcbegin_any (R := Y * (cacheA c p x cm' * (copObj ob1 kd at' n' bc * (diskA p d * (walObj x p 0 40 (g : Int) * R))))) (h8.cast (by ac_rfl)) Hb.out).mono ?_
              rintro e1 w9 ⟨rfl, h9⟩
              have h10 : Bears w9 (copObj ob1 kd at' n' bc * twoC c p x y yd Y cm' d dr g R) := h9.cast (by unfold twoC; ac_rfl)
              clear h9 h8 hA
              go_wp2_with fail
              go_meet
              case rel => exact ⟨cm', d, dr, g, F, Y, r, rfl, rfl, HS2.out.more, h10⟩
            · as_aux_lemma =>
              clear hw hw2 Hkc hk38 hA0 hA1 hA2 hA3
              cases ho : cm.isOpen with
              | false =>
                have Ho := Lib.hid ho
                clear ho
                go_wp2_with fail
                refine (ccommit_closed hA.pull2 Ho.out).mono ?_
                rintro e1 w8 ⟨rfl, rfl⟩
                go_wp2_with fail
                refine (rccommit_no (R := Y * (cacheA c p x cm * (copObj ob1 kd at' n' bc * (diskA p d * (walObj x p 0 40 (g : Int) * R))))) (hA.cast (by unfold twoC; ac_rfl)) Ho.out).mono ?_
                rintro e1 w9 ⟨rfl, h9⟩
                have h10 : Bears w9 (copObj ob1 kd at' n' bc * twoC c p x y yd Y cm d dr g R) := h9.cast (by unfold twoC; ac_rfl)
                clear h9 hA
                go_wp2_with fail
                go_meet
                case rel => exact ⟨cm, d, dr, g, F, Y, 30, rfl, rfl, HS.out.more, h10⟩
              | true =>
                have hS := HS.out
                have hc1 := ccommit_log (hA.cast (by unfold twoC; ac_rfl) : Bears _ (cacheA c p x cm * (walObj x p 0 40 (g : Int) * (diskA p d * (copObj ob1 kd at' n' bc * (refC y yd Y cm dr * (Y * R))))))) ho hS.log hS.fuse (by have := hS.few; omega) (by omega)
                have hc2 := fun w' Q (h' : Bears w' (refC y yd Y cm dr * (Y * Q))) => rccommit_any h' ho Hwf.out.nodup (by omega) hS.roff hS.rfuse hS.rquiet (fun z hz _ => by have := hS.range z hz; rw [hS.rlen]; omega) Hwf.out.bytes
                have hdl : dr.len = d.len := by rw [hS.rlen, hS.len]
                rw [hdl] at hc2
                have Hc1 := Lib.hid hc1
                have Hc2 := Lib.hid hc2
                have Hdl := Lib.hid hdl
                clear ho hS hc1 hc2 hdl hA
                go_wp2_with fail
                refine Hc1.out.mono ?_
                rintro e1 w8 (⟨rfl, hP, l, d', _, hL, hf', hl', _, h8⟩ | ⟨rfl, hP, h8⟩)
                · have HP := Lib.hid hP
                  have HL := Lib.hid hL
                  have Hf := Lib.hid hf'
                  have Hl := Lib.hid hl'
                  clear hP hL hf' hl'
                  go_wp2_with fail
                  refine (Hc2.out _ (cacheA c p x cm.commits * (walObj x p 0 40 ((g + 1 : Nat) : Int) * (diskA p d' * (copObj ob1 kd at' n' bc * R)))) (h8.cast (by ac_rfl))).mono ?_
                  rintro e1 w9 (⟨rfl, _, Z, dr', r1, r2, r3, r4, r5, h9⟩ | ⟨_, hno, _⟩)
                  case inr => exact absurd HP.out hno
                  obtain ⟨Y2, hY2⟩ : ∃ Y2, Z * Y = Y2 := ⟨_, rfl⟩
                  rw [hY2] at h9
                  have h10 : Bears w9 (copObj ob1 kd at' n' bc * twoC c p x y yd Y2 cm.commits d' dr' (g + 1) R) := h9.cast (by unfold twoC; ac_rfl)
                  have hS2 := HS.out.commitTo HL.out Hf.out Hl.out r1 r2 r3 (r4.trans Hdl.out.symm) r5
                  have HS2 := Lib.hid hS2
                  clear h9 h8 hY2 r1 r2 r3 r4 r5 hS2
                  go_wp2_with fail
                  go_meet
                  case rel => exact ⟨cm.commits, d', dr', g + 1, _, Y2, 0, rfl, rfl, HS2.out, h10⟩
                · have HP := Lib.hid hP
                  clear hP
                  go_wp2_with fail
                  refine (Hc2.out _ (cacheA c p x cm * (walObj x p 0 40 (g : Int) * (diskA p d * (copObj ob1 kd at' n' bc * R)))) (h8.cast (by ac_rfl))).mono ?_
                  rintro e1 w9 (⟨_, hyes, _⟩ | ⟨rfl, _, h9⟩)
                  case inl => exact absurd hyes HP.out
                  have h10 : Bears w9 (copObj ob1 kd at' n' bc * twoC c p x y yd Y cm d dr g R) := h9.cast (by unfold twoC; ac_rfl)
                  clear h9 h8
                  go_wp2_with fail
                  go_meet
                  case rel => exact ⟨cm, d, dr, g, F, Y, 20, rfl, rfl, HS.out.more, h10⟩
            · as_aux_lemma =>
              clear hw hw2 Hkc hk38
              obtain ⟨r, cm', hb⟩ : ∃ r cm', cm.abort = (r, cm') := ⟨_, _, rfl⟩
              have hS2 := HS.out.abortTo hb
              have HS2 := Lib.hid hS2
              have Hb := Lib.hid hb
              clear hb hS2 hA0 hA1 hA2 hA3
              go_wp2_with fail
              refine (cabort_to hA.pull2 Hb.out).mono ?_
              rintro e1 w8 ⟨rfl, h8⟩
              go_wp2_with fail
              refine (rcabort_any (R := cacheA c p x cm' * (copObj ob1 kd at' n' bc * (diskA p d * (walObj x p 0 40 (g : Int) * R)))) (h8.cast (by ac_rfl)) (by omega) Hb.out).mono ?_
              rintro e1 w9 ⟨rfl, Z, h9⟩
              obtain ⟨Y2, hY2⟩ : ∃ Y2, Z * Y = Y2 := ⟨_, rfl⟩
              rw [hY2] at h9
              have h10 : Bears w9 (copObj ob1 kd at' n' bc * twoC c p x y yd Y2 cm' d dr g R) := h9.cast (by unfold twoC; ac_rfl)
              clear h9 h8 hA hY2
              go_wp2_with fail
              go_meet
              case rel => exact ⟨cm', d, dr, g, F, Y2, r, rfl, rfl, HS2.out.more, h10⟩
      case' rest =>
        obtain ⟨cm, d, dr, g, F, Y, r, rfl, rfl, hS, hB⟩ := hcut
      as_aux_lemma =>
        clear hA0 hA1 hA2 hA3 hA HS Hwf hln
        have hwf := twoC_wf hB.right
        have hln := hS.length hwf.nodup
        obtain ⟨xs, lv, g2, hxs, hl, h1⟩ := Bears.rc.1 (hB.cast (by unfold twoC; ac_rfl) : Bears _ (refC y yd Y cm dr * (copObj ob1 kd at' n' bc * (cacheA c p x cm * (diskA p d * (walObj x p 0 40 (g : Int) * (Y * R)))))))
        obtain ⟨la, lc, rfl, hlc⟩ := hl.form
        have hxl : xs.length = cm.lines.length := by rw [← hxs]; simp
        have hxn : xs.length ≤ 100 := by omega
        have hxi : xs.map (·.2.at') = cm.lines.map (·.at') := by rw [← hxs, List.map_map]; rfl
        have h2 := h1.zeroRow (e := 3) (size := 1)
        obtain ⟨i0, hi0, hz0, hz1, hz2⟩ := info_parts i_int1
        have Hl := Lib.hid hl
        have Hxs := Lib.hid hxs
        have Hxi := Lib.hid hxi
        have HS := Lib.hid hS
        have Hxl := Lib.hid hxl
        clear hxl hxs hl hxi hwf hS h1 hB
        go_wp2_with fail
        generalize wc.alloc (.cells #[] 3) = w1 at h2 ⊢
        generalize wc.heap.size = hb0 at h2 ⊢
        go_loopw [19, 20] (fun v iv wr => ∃ (j : Nat) (a : Option Addr) (cc : Nat), j ≤ xs.length ∧ iv = .int .i64 j ∧ v = .slice a j cc ∧ Bears wr (rowA 3 1 (.slice a j cc) j (intsV ((xs.take j).map (·.2.at'))) *
          (rcObj y yd cm.most cm.misses cm.isOpen (.slice la xs.length lc) g2 * (refA yd Y dr * (copObj ob1 kd at' n' bc * (cacheA c p x cm * (diskA p d * (walObj x p 0 40 (g : Int) * (Y * R))))))))) (fun _ iv _ => xs.length - (intOf iv).toNat)
        case atStart => exact ⟨0, _, 0, by omega, rfl, rfl, h2⟩
        case round =>
          clear h2
          obtain ⟨j, a, cc, hj, rfl, rfl, h4⟩ := hrel
          obtain ⟨_, _, _, _, _, _, _, c7, _, _⟩ := h4.pull2.rcCells
          by_cases hlt3 : j < xs.length
          · as_aux_lemma =>
            have hltI : (j : Int) < (xs.length : Int) := by omega
            obtain ⟨q0, q1, q2⟩ := lineCells_at hlt3
            obtain ⟨lb, lo, rfl, m0⟩ := (Hl.out.tells _ h4.pull8.left).cell q0
            have htk := take_snoc hlt3
            generalize xs.getD j default = z at m0 htk
            obtain ⟨pv, zat, zb, zp⟩ := z
            simp only at m0
            have m0' : wr.cell? ⟨lb, lo + j * 3, none⟩ = some (.int .i64 zat) := m0
            have Htk := Lib.hid htk
            clear q0 q1 q2 m0 htk
            go_wp2_with (at_builtin; refine wpList_append_bears (h4.alloc (.cells #[.int .i64 zat] 3)).pull2 rfl rfl u_ints1 hi0 hz0 hz1 hz2 (by simp [Value.cells]) (by decide) rfl (m := 1) rfl rfl (World.news_of_block (cs := #[.int .i64 zat]) (h4.alloc _).obj) (by intro u hu; simp at hu; rcases hu with rfl; rfl) (by unfold maxLen; omega) (by omega) ?_; intro pa pc w8 h8)
            go_roundw
            case rel =>
              refine ⟨j + 1, pa, pc, hlt3, by go_num, rfl, ?_⟩
              rw [Htk.out, List.map_append]
              have := h8.pull2.right
              simpa [intsV] using this
            case measure => simp [intOf]; omega
          · as_aux_lemma =>
            obtain rfl : j = xs.length := by omega
            rw [List.take_length, Hxi.out] at h4
            have hll : (cm.lines.map (·.at')).length = xs.length := by rw [List.length_map, Hxl.out]
            have h5 : Bears wr (cacheA c p x cm * (rowA 3 1 (.slice a xs.length cc) xs.length (intsV (cm.lines.map (·.at'))) * (rcObj y yd cm.most cm.misses cm.isOpen (.slice la xs.length lc) g2 * (refA yd Y dr * (copObj ob1 kd at' n' bc * (diskA p d * (walObj x p 0 40 (g : Int) * (Y * R)))))))) := h4.cast (by ac_rfl)
            have hch := cheld_to (n := xs.length) (l := cm.lines.map (·.at')) h5 Hxl.out.symm rfl (by omega)
            have Hch := Lib.hid hch
            have Hll := Lib.hid hll
            clear hch hll h4 h5
            go_wp2_with fail
            refine Hch.out.mono ?_
            rintro e1 w8 ⟨a2, c2, rfl, h6⟩
            have t1 : (rowA 3 1 (.slice a2 xs.length c2) xs.length (intsV (cm.lines.map (·.at'))) * (cacheA c p x cm * (rowA 3 1 (.slice a xs.length cc) xs.length (intsV (cm.lines.map (·.at'))) * (rcObj y yd cm.most cm.misses cm.isOpen (.slice la xs.length lc) g2 * (refA yd Y dr * (copObj ob1 kd at' n' bc * (diskA p d * (walObj x p 0 40 (g : Int) * (Y * R))))))))).Tells (fun w => IntsIn w (.slice a2 xs.length c2) (cm.lines.map (·.at'))) := rowA_ints Hll.out.symm
            have t2 : (rowA 3 1 (.slice a2 xs.length c2) xs.length (intsV (cm.lines.map (·.at'))) * (cacheA c p x cm * (rowA 3 1 (.slice a xs.length cc) xs.length (intsV (cm.lines.map (·.at'))) * (rcObj y yd cm.most cm.misses cm.isOpen (.slice la xs.length lc) g2 * (refA yd Y dr * (copObj ob1 kd at' n' bc * (diskA p d * (walObj x p 0 40 (g : Int) * (Y * R))))))))).Tells (fun w => IntsIn w (.slice a xs.length cc) (cm.lines.map (·.at'))) := (rowA_ints Hll.out.symm).right.right
            have hin := ints_any h6 t1 t2 (by omega) (by omega)
            rw [decide_eq_true rfl] at hin
            have Hin := Lib.hid hin
            clear hin t1 t2 h6 Hch
            go_wp2_with fail
            refine Hin.out.mono ?_
            rintro e1 w9 ⟨rfl, h7⟩
            have h12 : Bears w9 (copObj ob1 kd at' n' bc * (cacheA c p x cm * (rcObj y yd cm.most cm.misses cm.isOpen (.slice la xs.length lc) g2 * (refA yd Y dr * (diskA p d * (walObj x p 0 40 (g : Int) * (Y * R))))))) := (h7.right.cast (by ac_rfl) : Bears w9 (rowA 3 1 (.slice a xs.length cc) xs.length (intsV (cm.lines.map (·.at'))) * (copObj ob1 kd at' n' bc * (cacheA c p x cm * (rcObj y yd cm.most cm.misses cm.isOpen (.slice la xs.length lc) g2 * (refA yd Y dr * (diskA p d * (walObj x p 0 40 (g : Int) * (Y * R))))))))).right
            have h13 : Bears w9.drew (refC y yd Y cm dr * (Y * (copObj ob1 kd at' n' bc * (cacheA c p x cm * (diskA p d * (walObj x p 0 40 (g : Int) * R)))))) := Bears.rc.2 ⟨xs, _, g2, Hxs.out, Hl.out, h12.drew.cast (by ac_rfl)⟩
            have b5 := h12.drew.pull3.rcCells.2.2.2.2.2.1
            clear h7 Hin
            go_wp2_with fail
            refine wp_region_L (fun w' => w'.cell? ⟨y, 5, none⟩ = some (.int .i64 cm.misses)) 23 [(true, 0), (true, 1), (true, 2), (true, 3), (true, 4), (true, 5), (true, 6), (true, 7), (true, 8), (true, 10), (false, 9), (false, 11), (true, 12), (true, 13), (true, 14), (true, 15), (true, 17), (true, 18), (true, 19), (true, 20), (false, 16), (true, 21), (true, 22)] [] (by kernel_rfl) (by kernel_rfl) b5 ?_
            simp only [pick, List.getElem?_cons_zero, List.getElem?_cons_succ]
            refine wpL_yield (v := ?_) rfl (fun w' hS => ?_) ?_
            rotate_left
            · (go_simp; try with_reducible rfl)
            simp only [Act.put, List.setIfInBounds_toArray, List.set_cons_zero, List.set_cons_succ]
            refine wpL_yield (v := ?_) rfl (fun w' hS => ?_) ?_
            rotate_left
            · (go_simp; try with_reducible rfl)
            simp only [Act.put, List.setIfInBounds_toArray, List.set_cons_zero, List.set_cons_succ]
            refine wpL_yield (v := ?_) rfl (fun w' hS => ?_) ?_
            rotate_left
            · (go_simp; try with_reducible rfl)
            simp only [Act.put, List.setIfInBounds_toArray, List.set_cons_zero, List.set_cons_succ]
            refine wpL_yield (v := ?_) rfl (fun w' hS => ?_) ?_
            rotate_left
            · (go_simp; try with_reducible rfl)
            simp only [Act.put, List.setIfInBounds_toArray, List.set_cons_zero, List.set_cons_succ]
            refine wpL_guarded (v := ?_) rfl (fun w' hS => ?_) ?_
            rotate_left
            · (go_simp; try with_reducible rfl)
            simp only [Act.put, List.setIfInBounds_toArray, List.set_cons_zero, List.set_cons_succ]
            refine wpL_guarded (v := ?_) rfl (fun w' hS => ?_) ?_
            rotate_left
            · (go_simp; try with_reducible rfl)
            simp only [Act.put, List.setIfInBounds_toArray, List.set_cons_zero, List.set_cons_succ]
            refine wpL_yield (v := ?_) rfl (fun w' hS => ?_) ?_
            rotate_left
            · (go_simp; try with_reducible rfl)
            simp only [Act.put, List.setIfInBounds_toArray, List.set_cons_zero, List.set_cons_succ]
            refine wpL_yield (v := ?_) rfl (fun w' hS => ?_) ?_
            rotate_left
            · (go_simp; try with_reducible rfl)
            simp only [Act.put, List.setIfInBounds_toArray, List.set_cons_zero, List.set_cons_succ]
            refine wpL_guarded (v := ?_) rfl (fun w' hS => ?_) ?_
            rotate_left
            · (go_simp; try with_reducible rfl)
            simp only [Act.put, List.setIfInBounds_toArray, List.set_cons_zero, List.set_cons_succ]
            refine wpL_guarded (v := ?_) rfl (fun w' hS => ?_) ?_
            rotate_left
            · (go_simp; try with_reducible rfl)
            simp only [Act.put, List.setIfInBounds_toArray, List.set_cons_zero, List.set_cons_succ]
            refine wpL_effG rfl ?_
            go_simp
            refine (cpinned_any h12.drew.pull2).mono ?_
            rintro e w' ⟨rfl, rfl⟩
            refine ⟨b5, ?_⟩
            refine wpL_effG rfl ?_
            go_simp
            refine (rcpinned_any (R := _) h13 rfl (by omega)).mono ?_
            rintro e w' ⟨rfl, rfl⟩
            refine ⟨b5, ?_⟩
            refine wpL_guarded (v := ?_) rfl (fun w' hS => ?_) ?_
            rotate_left
            · (go_simp; try with_reducible rfl)
            simp only [Act.put, List.setIfInBounds_toArray, List.set_cons_zero, List.set_cons_succ]
            refine wpL_yield (v := ?_) rfl (fun w' hS => ?_) ?_
            rotate_left
            · (go_simp; try with_reducible rfl)
            simp only [Act.put, List.setIfInBounds_toArray, List.set_cons_zero, List.set_cons_succ]
            refine wpL_yield (v := ?_) rfl (fun w' hS => ?_) ?_
            rotate_left
            · (go_simp; try with_reducible rfl)
            simp only [Act.put, List.setIfInBounds_toArray, List.set_cons_zero, List.set_cons_succ]
            refine wpL_guarded (v := ?_) rfl (fun w' hS => ?_) ?_
            rotate_left
            · (have s5 := hS; go_simp; try with_reducible rfl)
            simp only [Act.put, List.setIfInBounds_toArray, List.set_cons_zero, List.set_cons_succ]
            refine wpL_guarded (v := ?_) rfl (fun w' hS => ?_) ?_
            rotate_left
            · (have s5 := hS; go_simp; try with_reducible rfl)
            simp only [Act.put, List.setIfInBounds_toArray, List.set_cons_zero, List.set_cons_succ]
            refine wpL_guarded (v := ?_) rfl (fun w' hS => ?_) ?_
            rotate_left
            · (have s5 := hS; go_simp; try with_reducible rfl)
            simp only [Act.put, List.setIfInBounds_toArray, List.set_cons_zero, List.set_cons_succ]
            refine wpL_guarded (v := ?_) rfl (fun w' hS => ?_) ?_
            rotate_left
            · (have s5 := hS; go_simp; try with_reducible rfl)
            simp only [Act.put, List.setIfInBounds_toArray, List.set_cons_zero, List.set_cons_succ]
            refine wpL_guarded (v := ?_) rfl (fun w' hS => ?_) ?_
            rotate_left
            · (have s5 := hS; go_simp; try with_reducible rfl)
            simp only [Act.put, List.setIfInBounds_toArray, List.set_cons_zero, List.set_cons_succ]
            refine wpL_effG rfl ?_
            go_simp
            refine (cmisses_any h12.drew.pull2).mono ?_
            rintro e w' ⟨rfl, rfl⟩
            refine ⟨b5, ?_⟩
            refine wpL_guarded (v := ?_) rfl (fun w' hS => ?_) ?_
            rotate_left
            · (go_simp; try with_reducible rfl)
            simp only [Act.put, List.setIfInBounds_toArray, List.set_cons_zero, List.set_cons_succ]
            refine wpL_yield (v := ?_) rfl (fun w' hS => ?_) ?_
            rotate_left
            · (go_simp; try with_reducible rfl)
            simp only [Act.put, List.setIfInBounds_toArray, List.set_cons_zero, List.set_cons_succ]
            refine wpL_nil ?_
            refine wpL_nil ?_
            go_wp2_with fail
            go_roundw
            case rel => exact ⟨k + 1, cm, d, dr, g, F, Y, hlt, by omega, by go_num, HS.out, (h13.cast (by unfold twoC; ac_rfl) : Bears w9.drew (copObj ob1 kd at' n' bc * twoC c p x y yd Y cm d dr g R)).right⟩
            case measure => simp [intOf]; omega
    · have hlt' : ¬ (k < on ∧ k < 250) := by rw [← Hon.out]; exact hlt
      go_wp2_with fail
      all_goals
        go_ret
        exact ⟨rfl, h7.right.right.right.right.right⟩

end Go.Proofs.Ytggbnelbnbaoiaa

/- Readings of arguments, with the bounds of their sizes; no condition. -/
namespace Go.Proofs.Ytggbnelbnbaoiaa
open Go.RowKit Go.ChangeShapes Go.WideShapes Go.Deep

section
variable {H : Type} {enc : TypeId × Value → H} {P : Program} {W : World}

/-- The value v reads as something of type t, and is no greater than memory. -/
def TrodZ (enc : TypeId × Value → H) (P : Program) (W : World) (t : TypeId) (v : Value) : Prop :=
  ∃ fuel x, DataW.trod enc P W 0 (fun _ => true) true fuel t [v] = some x ∧ ∀ n ∈ x.1.weights P t, n ≤ reachBytes

theorem TrodZ.i64 {t : TypeId} {v : Value} (ht : P.underlying t = some (.int .i64)) (h : TrodZ enc P W t v) : ∃ z, v = .int .i64 z ∧ -9223372036854775808 ≤ z ∧ z ≤ 9223372036854775807 := by
  obtain ⟨_, _, h, _⟩ := h
  exact trod_i64 ht h
theorem TrodZ.u8 {t : TypeId} {v : Value} (ht : P.underlying t = some (.int .u8)) (h : TrodZ enc P W t v) : ∃ c, v = byteV c := by
  obtain ⟨_, _, h, _⟩ := h
  exact trod_u8 ht h
theorem TrodZ.str {t : TypeId} {v : Value} (ht : P.underlying t = some .string) (h : TrodZ enc P W t v) : ∃ s : ByteArray, v = .string s ∧ s.size ≤ reachBytes := by
  obtain ⟨_, x, h, hz⟩ := h
  obtain ⟨s, h1, rfl, _⟩ := DataW.trod_string ht h
  simp only [List.cons.injEq, and_true] at h1
  refine ⟨s, h1, ?_⟩
  have := hz s.data.toList.length (by simp [DataW.weights])
  simpa using this

theorem weightsAll_mem {e : TypeId} {n : Nat} : ∀ {l : List (DataW H)} {d : DataW H}, d ∈ l → n ∈ d.weights P e → n ∈ DataW.weightsAll P e l
  | _ :: _, _, .head _, h => List.mem_append_left _ h
  | _ :: _, _, .tail _ hm, h => List.mem_append_right _ (weightsAll_mem hm h)

/-- A slice, element by element: its cells, and their readings. -/
theorem TrodZ.slice {t e : TypeId} (ht : P.underlying t = some (.slice e)) {a : Option Addr} {len cap : Nat} (h : TrodZ enc P W t (.slice a len cap)) :
    len ≤ cap ∧ cap * P.bytesOf e ≤ reachBytes ∧ (a = none → len = 0 ∧ cap = 0) ∧ ∀ a', a = some a' → ∀ i, i < cap → ∃ n cs x, W.cells? 0 (a'.add (i * P.cellsOf e)) (P.cellsOf e) = some cs ∧ DataW.trod enc P W 0 (fun _ => true) true n e cs = some x ∧ ∀ n ∈ x.1.weights P e, n ≤ reachBytes := by
  obtain ⟨fuel, x, h, hz⟩ := h
  rcases open_slice ht h with ⟨hcs, _⟩ | ⟨a', len', cap', m, n, D, Pl, hcs, hb, hl, hm, hmm, rfl, hi⟩
  · simp only [List.cons.injEq, Value.slice.injEq, and_true] at hcs
    obtain ⟨rfl, rfl, rfl⟩ := hcs
    exact ⟨Nat.le_refl _, by simp, fun _ => ⟨rfl, rfl⟩, fun a' h => by cases h⟩
  · simp only [List.cons.injEq, Value.slice.injEq, and_true] at hcs
    obtain ⟨rfl, rfl, rfl⟩ := hcs
    simp only [if_true] at hmm
    subst hmm
    simp only [DataW.weights, ht, List.length_map, List.length_range, List.mem_cons, List.mem_append] at hz
    have h1 := hz _ (.inl rfl)
    rw [show len + (m - len) = m by omega] at h1
    refine ⟨hl, h1, (fun h => by cases h), fun a2 e2 i him => ?_⟩
    cases e2
    obtain ⟨cs, h2, h3⟩ := hi i him
    refine ⟨n, cs, _, h2, h3, fun k hk => hz k (.inr ?_)⟩
    by_cases hil : i < len
    · exact .inl (weightsAll_mem (List.mem_map.2 ⟨i, by simpa using hil, rfl⟩) hk)
    · exact .inr (weightsAll_mem (List.mem_map.2 ⟨i - len, by simp; omega, by rw [show len + (i - len) = i by omega]⟩) hk)

/-- A slice of structs whose fields are of one cell each, row by row. -/
theorem TrodZ.rows {t e : TypeId} {fs : Array Field} (ht : P.underlying t = some (.slice e)) (he : P.underlying e = some (.struct fs)) (hone : oneCellFields P fs = true) (hC : P.cellsOf e = fs.size) (hpos : 0 < fs.size)
    {a : Option Addr} {len cap : Nat} (h : TrodZ enc P W t (.slice a len cap)) :
    len * P.bytesOf e ≤ reachBytes ∧ ∃ rows : Nat → List Value, (0 < len → ∃ b o, a = some ⟨b, o, none⟩ ∧ b < W.heap.size ∧ ∀ i j, i < len → j < fs.size → W.cell? ⟨b, o + i * fs.size + j, none⟩ = (rows i)[j]?) ∧
      ∀ i, i < len → (rows i).length = fs.size ∧ ∀ (j : Nat) (f : Field), fs[j]? = some f → ∃ v, (rows i)[j]? = some v ∧ TrodZ enc P W f.type v := by
  obtain ⟨h1, h2, h3, h4⟩ := h.slice ht
  have h5 : len * P.bytesOf e ≤ reachBytes := Nat.le_trans (Nat.mul_le_mul_right _ h1) h2
  cases a with
  | none =>
    obtain ⟨rfl, rfl⟩ := h3 rfl
    exact ⟨h5, fun _ => [], fun h => absurd h (by omega), fun i h => absurd h (by omega)⟩
  | some a' =>
    have hall : ∀ i, i < len → ∃ r : List Value, r.length = fs.size ∧ (∀ j, j < fs.size → W.cell? (a'.add (i * fs.size + j)) = r[j]?) ∧ ∀ (j : Nat) (f : Field), fs[j]? = some f → ∃ v, r[j]? = some v ∧ TrodZ enc P W f.type v := by
      intro i hi
      obtain ⟨n, cs, x, hcs, hx, hz⟩ := h4 a' rfl i (by omega)
      rw [hC] at hcs
      obtain ⟨_, g2, g3⟩ := World.cells?_some hcs
      refine ⟨cs, g2, fun j hj => by rw [← add_add]; exact g3 j hj, fun j f hj => ?_⟩
      obtain ⟨ys, n', hn', rfl, hlen, hyl, hf⟩ := DataW.trod_struct he hx
      obtain ⟨ho, hk⟩ := hone_of hone j f hj
      have hjl : j < fs.size := (Array.getElem?_eq_some_iff.1 hj).1
      have g4 := hf j f hj
      rw [ho, hk] at g4
      have g5 : (cs.drop j).take 1 = [cs[j]'(by omega)] := by
        rw [List.drop_eq_getElem_cons (by omega)]
        rfl
      rw [g5, List.getElem?_eq_getElem (by omega)] at g4
      refine ⟨_, List.getElem?_eq_getElem (by omega), n', _, g4, fun k hk => hz k ?_⟩
      simp only [DataW.weights, he]
      refine DataW.weights_mem_each (j := j) (t := f.type) ?_ ?_ k hk
      · rw [List.getElem?_map, Array.getElem?_toList, hj]; rfl
      · rw [List.getElem?_map, List.getElem?_eq_getElem (by omega)]; rfl
    obtain ⟨rows, hr⟩ := choose_lt hall
    refine ⟨h5, rows, fun h0 => ?_, fun i hi => ⟨(hr i hi).1, (hr i hi).2.2⟩⟩
    obtain ⟨g1, g2, _⟩ := hr 0 h0
    have g3 := g2 0 hpos
    rw [List.getElem?_eq_getElem (by omega)] at g3
    have e0 : a'.add (0 * fs.size + 0) = a' := by simp [Addr.add]
    rw [e0] at g3
    have ex := addr_of_cell g3
    refine ⟨a'.block, a'.off, by rw [← ex], World.block_lt_of_cell? W a' g3, fun i j hi hj => ?_⟩
    have g4 := (hr i hi).2.1 j hj
    rw [ex, Addr.add_mid] at g4
    rw [← g4, Nat.add_assoc]

/-- A slice of elements of one cell each. -/
theorem TrodZ.cells {t e : TypeId} (ht : P.underlying t = some (.slice e)) (hC : P.cellsOf e = 1) {a : Option Addr} {len cap : Nat} (h : TrodZ enc P W t (.slice a len cap)) :
    len * P.bytesOf e ≤ reachBytes ∧ ∃ vs : List Value, vs.length = len ∧ (0 < len → ∃ b o, a = some ⟨b, o, none⟩ ∧ b < W.heap.size ∧ W.rangeAt b o vs) ∧ ∀ v ∈ vs, TrodZ enc P W e v := by
  obtain ⟨h1, h2, h3, h4⟩ := h.slice ht
  have h5 : len * P.bytesOf e ≤ reachBytes := Nat.le_trans (Nat.mul_le_mul_right _ h1) h2
  cases a with
  | none =>
    obtain ⟨rfl, rfl⟩ := h3 rfl
    exact ⟨h5, [], rfl, fun h => absurd h (by omega), fun v h => by cases h⟩
  | some a' =>
    have hall : ∀ i, i < len → ∃ v : Value, W.cell? (a'.add i) = some v ∧ TrodZ enc P W e v := by
      intro i hi
      obtain ⟨n, cs, x, hcs, hx, hz⟩ := h4 a' rfl i (by omega)
      rw [hC, Nat.mul_one] at hcs
      obtain ⟨_, g2, g3⟩ := World.cells?_some hcs
      obtain ⟨v, rfl⟩ : ∃ v, cs = [v] := by
        match cs, g2 with
        | [v], _ => exact ⟨v, rfl⟩
      have g4 := g3 0 (by omega)
      have e0 : ∀ a : Addr, a.add 0 = a := fun a => by simp [Addr.add]
      rw [e0] at g4
      exact ⟨v, g4, n, x, hx, hz⟩
    obtain ⟨f, hf⟩ := choose_lt hall
    refine ⟨h5, (List.range len).map f, by simp, fun h0 => ?_, fun v hv => ?_⟩
    · obtain ⟨g1, _⟩ := hf 0 h0
      have e0 : a'.add 0 = a' := by simp [Addr.add]
      rw [e0] at g1
      have ex := addr_of_cell g1
      refine ⟨a'.block, a'.off, by rw [← ex], World.block_lt_of_cell? W a' g1, fun j v hv => ?_⟩
      have hj : j < len := by have := (List.getElem?_eq_some_iff.1 hv).1; simpa using this
      have g2 := (hf j hj).1
      rw [ex, Addr.add_mid] at g2
      rw [g2]
      simpa [hj] using hv
    · obtain ⟨i, hi, rfl⟩ := List.mem_map.1 hv
      exact (hf i (by simpa using hi)).2
end

section
variable {H : Type} {enc : TypeId × Value → H} {W : World}
/-- The value v is a slice of the bytes l in the old memory. -/
theorem TrodZ.bytes {v : Value} {ad : Option Addr} {len cap : Nat} (hv : v = .slice ad len cap) (h : TrodZ enc Try.prog W 33 v) :
    ∃ l : List UInt8, l.length = len ∧ (Assn.old W.heap.size W).Tells (fun w => BytesIn w (.slice ad len cap) l) ∧ len ≤ 140737488351232 := by
  subst hv
  obtain ⟨h1, vs, rfl, h2, h3⟩ := h.cells (e := 5) Try.underlying33 (by kernel_rfl)
  rw [show Try.prog.bytesOf 5 = 1 from by kernel_rfl, Nat.mul_one] at h1
  have hall : ∀ i, i < vs.length → ∃ c : UInt8, vs[i]? = some (byteV c) := by
    intro i hi
    obtain ⟨c, hc⟩ := (h3 _ (List.getElem_mem hi)).u8 (by kernel_rfl)
    exact ⟨c, by rw [List.getElem?_eq_getElem hi, hc]⟩
  obtain ⟨f, hf⟩ := choose_lt hall
  have he : cellsV ((List.range vs.length).map f) = vs := by
    apply List.ext_getElem?
    intro i
    unfold cellsV
    by_cases hi : i < vs.length
    · rw [hf i hi]; simp [hi]
    · rw [List.getElem?_eq_none (by simp; omega), List.getElem?_eq_none (by omega)]
  refine ⟨(List.range vs.length).map f, by simp, fun w hw => ⟨ad, cap, by simp, fun hne => ?_⟩, by unfold reachBytes at h1; omega⟩
  have hpos : 0 < vs.length := by
    rcases Nat.eq_zero_or_pos vs.length with e | e
    · rw [e] at hne; simp at hne
    · exact e
  obtain ⟨b, o, ha, hb, hr⟩ := h2 hpos
  rw [he]
  exact ⟨b, o, ha, old_tells (p := fun w => w.rangeAt b o vs) (fun w hw => range_old hr hb hw) w hw⟩
/-- The value v is a slice of the integers l in the old memory. -/
theorem TrodZ.ints {v : Value} {ad : Option Addr} {len cap : Nat} (hv : v = .slice ad len cap) (h : TrodZ enc Try.prog W 40 v) :
    ∃ l : List Int, l.length = len ∧ (Assn.old W.heap.size W).Tells (fun w => IntsIn w (.slice ad len cap) l) ∧ len ≤ 140737488351232 ∧ ∀ x ∈ l, -9223372036854775808 ≤ x ∧ x ≤ 9223372036854775807 := by
  subst hv
  obtain ⟨h1, vs, rfl, h2, h3⟩ := h.cells (e := 3) Try.underlying40 (by kernel_rfl)
  rw [show Try.prog.bytesOf 3 = 8 from by kernel_rfl] at h1
  have hall : ∀ i, i < vs.length → ∃ c : Int, vs[i]? = some (.int .i64 c) ∧ -9223372036854775808 ≤ c ∧ c ≤ 9223372036854775807 := by
    intro i hi
    obtain ⟨c, hc, hb⟩ := (h3 _ (List.getElem_mem hi)).i64 (by kernel_rfl)
    exact ⟨c, by rw [List.getElem?_eq_getElem hi, hc], hb⟩
  obtain ⟨f, hf⟩ := choose_lt hall
  have he : ((List.range vs.length).map f).map (Value.int .i64) = vs := by
    apply List.ext_getElem?
    intro i
    by_cases hi : i < vs.length
    · rw [(hf i hi).1]; simp [hi]
    · rw [List.getElem?_eq_none (by simp; omega), List.getElem?_eq_none (by omega)]
  refine ⟨(List.range vs.length).map f, by simp, fun w hw => ⟨ad, cap, by simp, fun hne => ?_⟩, by unfold reachBytes at h1; omega, fun x hx => ?_⟩
  · have hpos : 0 < vs.length := by
      rcases Nat.eq_zero_or_pos vs.length with e | e
      · rw [e] at hne; simp at hne
      · exact e
    obtain ⟨b, o, ha, hb, hr⟩ := h2 hpos
    rw [he]
    exact ⟨b, o, ha, old_tells (p := fun w => w.rangeAt b o vs) (fun w hw => range_old hr hb hw) w hw⟩
  · obtain ⟨i, hi, rfl⟩ := List.mem_map.1 hx
    exact (hf i (by simpa using hi)).2
end

end Go.Proofs.Ytggbnelbnbaoiaa
