/- Texts of this claim, put together: RowB; no condition. -/
import Derived.Test.YtggbnelbnbaoiaaM26025afd3a

set_option linter.unusedSimpArgs false
set_option linter.unusedVariables false

/- From the readings of a row to what a walk is told of its slices; no condition. -/
namespace Go.Proofs.Ytggbnelbnbaoiaa
open Go.RowKit

theorem old_tells {W : World} {p : World → Prop} (h : ∀ w, (∀ b, b < W.heap.size → w.heap[b]? = W.heap[b]?) → p w) : (Assn.old W.heap.size W).Tells p := by
  rintro w ⟨F, rfl, h0, _, _, _, h4⟩
  exact h w h4

/-- The form in which a slice of integers comes in. -/
abbrev RowIn (k : IntKind) (w : World) (a : Option Addr) (len cap : Nat) (zs : List Int) : Prop :=
  (a = none ∧ len = 0 ∧ cap = 0 ∧ zs = []) ∨
  ∃ x, a = some x ∧ len ≤ cap ∧ cap ≤ maxLen ∧ zs.length = cap ∧ (∀ i, i < zs.length → w.cell? (x.add i) = some (.int k (zs.getD i 0))) ∧ ∀ n ∈ zs, (Lit.int k n).wf = true

theorem addr_of_cell {w : World} {x : Addr} {v : Value} (h : w.cell? x = some v) : x = ⟨x.block, x.off, none⟩ := by
  unfold World.cell? at h
  split at h
  · cases hs : x.spot with
    | none => cases x; simp_all
    | some s => simp [hs] at h
  · cases h

theorem row_range {k : IntKind} {W : World} {a : Option Addr} {len cap : Nat} {zs : List Int} (h : RowIn k W a len cap zs) (hl : 0 < len) :
    ∃ b o, a = some ⟨b, o, none⟩ ∧ b < W.heap.size ∧ W.rangeAt b o ((zs.take len).map (Value.int k)) := by
  rcases h with ⟨_, h0, _⟩ | ⟨x, rfl, hlc, _, hz, hc, _⟩
  · omega
  · have h0 := hc 0 (by omega)
    have e0 : x.add 0 = x := by simp [Addr.add]
    rw [e0] at h0
    have ex := addr_of_cell h0
    refine ⟨x.block, x.off, by rw [← ex], World.block_lt_of_cell? W x h0, fun j v hv => ?_⟩
    rw [List.getElem?_map, List.getElem?_take] at hv
    split at hv
    · rename_i hj
      have hj' : j < zs.length := by omega
      have := hc j hj'
      rw [ex, Addr.add_mid] at this
      rw [this]
      rw [List.getElem?_eq_getElem hj'] at hv
      simp only [Option.map_some, Option.some.injEq] at hv
      rw [← hv, List.getD_eq_getElem?_getD, List.getElem?_eq_getElem hj']
      rfl
    · cases hv

theorem range_old {W w : World} {b o : Nat} {cs : List Value} (h : W.rangeAt b o cs) (hb : b < W.heap.size) (hw : ∀ b, b < W.heap.size → w.heap[b]? = W.heap[b]?) : w.rangeAt b o cs :=
  rangeAt_block h (hw b hb)

theorem row_bytes {W : World} {a : Option Addr} {len cap : Nat} {zs : List Int} (h : RowIn .u8 W a len cap zs) :
    ∃ l : List UInt8, l.length = len ∧ (Assn.old W.heap.size W).Tells (fun w => BytesIn w (.slice a len cap) l) ∧ len ≤ 9223372036854775807 := by
  have hlen : (zs.take len).length = len ∧ len ≤ 9223372036854775807 := by
    rcases h with ⟨_, rfl, _, rfl⟩ | ⟨x, _, hlc, hm, hz, _, _⟩
    · simp
    · unfold maxLen at hm
      simp; omega
  have hwf : ∀ n ∈ zs.take len, 0 ≤ n ∧ n ≤ 255 := by
    intro n hn
    rcases h with ⟨_, _, _, rfl⟩ | ⟨x, _, _, _, _, _, hw⟩
    · simp at hn
    · have := hw n (List.mem_of_mem_take hn)
      simp [Lit.wf, IntKind.min, IntKind.max, IntKind.signed, IntKind.bits] at this
      omega
  refine ⟨(zs.take len).map (fun n => UInt8.ofNat n.toNat), by simpa using hlen.1, old_tells (fun w hw => ?_), hlen.2⟩
  have hl2 : ((zs.take len).map (fun n => UInt8.ofNat n.toNat)).length = len := by simpa using hlen.1
  refine ⟨a, cap, by rw [hl2], fun hne => ?_⟩
  have hpos : 0 < len := by rw [← hl2]; exact List.length_pos_iff.2 hne
  obtain ⟨b, o, ha, hb, hr⟩ := row_range h hpos
  refine ⟨b, o, ha, ?_⟩
  have e : cellsV ((zs.take len).map (fun n => UInt8.ofNat n.toNat)) = (zs.take len).map (Value.int .u8) := by
    unfold cellsV
    rw [List.map_map]
    refine List.map_congr_left (fun n hn => ?_)
    have := hwf n hn
    simp only [Function.comp_apply, byteV]
    congr 1
    rw [UInt8.toNat_ofNat_of_lt' (by show n.toNat < 256; omega)]
    omega
  rw [e]
  exact range_old hr hb hw

theorem row_ints {W : World} {a : Option Addr} {len cap : Nat} {zs : List Int} (h : RowIn .i64 W a len cap zs) :
    ∃ l : List Int, l.length = len ∧ (Assn.old W.heap.size W).Tells (fun w => IntsIn w (.slice a len cap) l) ∧ len ≤ 9223372036854775807 ∧ ∀ x ∈ l, -9223372036854775808 ≤ x ∧ x ≤ 9223372036854775807 := by
  have hlen : (zs.take len).length = len ∧ len ≤ 9223372036854775807 := by
    rcases h with ⟨_, rfl, _, rfl⟩ | ⟨x, _, hlc, hm, hz, _, _⟩
    · simp
    · unfold maxLen at hm
      simp; omega
  refine ⟨zs.take len, hlen.1, old_tells (fun w hw => ?_), hlen.2, fun n hn => ?_⟩
  · refine ⟨a, cap, by rw [hlen.1], fun hne => ?_⟩
    have hpos : 0 < len := by rw [← hlen.1]; exact List.length_pos_iff.2 hne
    obtain ⟨b, o, ha, hb, hr⟩ := row_range h hpos
    exact ⟨b, o, ha, range_old hr hb hw⟩
  · rcases h with ⟨_, _, _, rfl⟩ | ⟨x, _, _, _, _, _, hw⟩
    · simp at hn
    · have := hw n (List.mem_of_mem_take hn)
      simp [Lit.wf, IntKind.min, IntKind.max, IntKind.signed, IntKind.bits] at this
      omega

theorem old_below {W w' : World} (h : Bears w' (Assn.old W.heap.size W)) : Below W.heap.size W w' := by
  obtain ⟨F, rfl, h0, h1, h2, h3, h4⟩ := h
  exact ⟨h1, h2, h3, h0, h4⟩

end Go.Proofs.Ytggbnelbnbaoiaa
