/- Bytes in memory; rows that a slice owns; no condition. -/
import Derived.Test.YtaiobekochhemaaMaps
import Derived.Deep.MidRow
import Derived.Maps.AppendAt
import Derived.Deep.AppendLies
namespace Go.Proofs.Ytaiobekochhemaa
open Go.RowKit Go.MapKept

abbrev byteV (u : UInt8) : Value := .int .u8 (u.toNat : Int)
def cellsV (l : List UInt8) : List Value := l.map byteV
/-- An array of bytes. -/
def secV (l : List UInt8) : Value := .agg (cellsV l).toArray

@[simp] theorem length_cellsV (l : List UInt8) : (cellsV l).length = l.length := by simp [cellsV]
theorem byteV_inj {a b : UInt8} (h : byteV a = byteV b) : a = b := by
  unfold byteV at h
  simp only [Value.int.injEq, true_and] at h
  exact UInt8.toNat_inj.1 (by omega)
theorem cellsV_inj {a b : List UInt8} (h : cellsV a = cellsV b) : a = b := by
  unfold cellsV at h
  exact List.map_inj_right (fun x y h => byteV_inj h) |>.1 h
theorem oneCell_cellsV (l : List UInt8) : ∀ v ∈ cellsV l, v.oneCell' = true := by
  intro v hv
  obtain ⟨u, _, rfl⟩ := List.mem_map.1 hv
  rfl

/-- The slice v reads as the bytes l. -/
def BytesIn (w : World) (v : Value) (l : List UInt8) : Prop :=
  ∃ ad cap, v = .slice ad l.length cap ∧ (l ≠ [] → ∃ b o, ad = some ⟨b, o, none⟩ ∧ w.rangeAt b o (cellsV l))

theorem BytesIn.at {w : World} {ad : Option Addr} {n cap : Nat} {l : List UInt8} (h : BytesIn w (.slice ad n cap) l) (hl : l ≠ []) : ∃ b o, ad = some ⟨b, o, none⟩ ∧ w.rangeAt b o (cellsV l) := by
  obtain ⟨ad', cap', hv, hr⟩ := h
  simp only [Value.slice.injEq] at hv
  obtain ⟨rfl, _, _⟩ := hv
  exact hr hl
theorem BytesIn.cell {w : World} {ad : Option Addr} {n cap : Nat} {l : List UInt8} (h : BytesIn w (.slice ad n cap) l) {j : Nat} (hj : j < l.length) : ∃ b o, ad = some ⟨b, o, none⟩ ∧ w.cell? ⟨b, o + j, none⟩ = some (byteV (l.getD j 0)) := by
  obtain ⟨b, o, e, hr⟩ := h.at (by intro e; simp [e] at hj)
  refine ⟨b, o, e, hr j _ ?_⟩
  simp [cellsV, hj]
theorem BytesIn.len {w : World} {ad : Option Addr} {n cap : Nat} {l : List UInt8} (h : BytesIn w (.slice ad n cap) l) : n = l.length := by
  obtain ⟨ad', cap', hv, hr⟩ := h
  simp only [Value.slice.injEq] at hv
  exact hv.2.1

/-- The slice v reads as the ints l. -/
def IntsIn (w : World) (v : Value) (l : List Int) : Prop :=
  ∃ ad cap, v = .slice ad l.length cap ∧ (l ≠ [] → ∃ b o, ad = some ⟨b, o, none⟩ ∧ w.rangeAt b o (l.map (Value.int .i64)))
theorem IntsIn.at {w : World} {ad : Option Addr} {n cap : Nat} {l : List Int} (h : IntsIn w (.slice ad n cap) l) (hl : l ≠ []) : ∃ b o, ad = some ⟨b, o, none⟩ ∧ w.rangeAt b o (l.map (Value.int .i64)) := by
  obtain ⟨ad', cap', hv, hr⟩ := h
  simp only [Value.slice.injEq] at hv
  obtain ⟨rfl, _, _⟩ := hv
  exact hr hl

theorem IntsIn.cell {w : World} {b o n cap : Nat} {l : List Int} (h : IntsIn w (.slice (some ⟨b, o, none⟩) n cap) l) {j : Nat} (hj : j < l.length) : w.cell? ⟨b, o + j, none⟩ = some (.int .i64 (l.getD j 0)) := by
  obtain ⟨b', o', e, hr⟩ := h.at (by intro e; simp [e] at hj)
  cases e
  refine hr j _ ?_
  simp [hj]

/-- A row that a slice owns. -/
def rowA (e : TypeId) (size : Nat) (v : Value) (n : Nat) (xs : List Value) : Assn where
  holds w F := w.ownsRow 0 e size v n xs ∧ F = fun b => v.ownBlock = some b
  lt := by
    rintro w F ⟨h, rfl⟩ b hb
    exact (h.lt b hb).2
  loc := by
    rintro w w' F ⟨h, rfl⟩ hm hs
    refine ⟨⟨h.1, ?_⟩, rfl⟩
    rcases h.2 with hn | ⟨g, cap, cur, rfl, hb, hg, r⟩
    · exact .inl hn
    · exact .inr ⟨g, cap, cur, rfl, hb, (hs g rfl).trans hg, r⟩

theorem Bears.row {w : World} {e : TypeId} {size : Nat} {v : Value} {n : Nat} {xs : List Value} {R : Assn} (h : Bears w (rowA e size v n xs * R)) : w.ownsRow 0 e size v n xs := by
  obtain ⟨F, G, H, ⟨h, rfl⟩, _⟩ := h; exact h

theorem Bears.nilRow {w : World} {e : TypeId} {size : Nat} {R : Assn} : Bears w (rowA e size (.slice none 0 0) 0 [] * R) ↔ Bears w R := by
  constructor
  · exact fun h => h.right
  · rintro ⟨H, hR⟩
    exact ⟨_, _, H, ⟨World.ownsRow_nil _ _ _ _, rfl⟩, hR, fun b h1 _ => by simp [Value.ownBlock] at h1, rfl⟩

/-- The rows that a slice owns, one by one. -/
theorem Bears.rowForm {w : World} {e : TypeId} {size : Nat} {v : Value} {n : Nat} {xs : List Value} {R : Assn} (h : Bears w (rowA e size v n xs * R)) :
    ∃ a c, v = .slice a n c ∧ n ≤ c ∧ c ≤ maxLen ∧ ∀ k, k < n → ∃ g, a = some ⟨g, 0, none⟩ ∧ w.rangeAt g (k * size) ((xs.drop (k * size)).take size) := by
  obtain ⟨hl, h⟩ := h.row
  rcases h with ⟨rfl, rfl⟩ | ⟨g, cap, cur, rfl, _, hg, hn, hm, hs, ht⟩
  · exact ⟨none, 0, rfl, Nat.le_refl _, Nat.zero_le _, fun k hk => absurd hk (Nat.not_lt_zero k)⟩
  · refine ⟨_, cap, rfl, hn, hm, fun k _ => ⟨g, rfl, fun j v hv => ?_⟩⟩
    rw [cell_of_obj hg]
    rw [← ht, List.getElem?_take, List.getElem?_drop, List.getElem?_take] at hv
    split at hv
    · split at hv
      · simpa using hv
      · cases hv
    · cases hv

theorem Bears.rowAt {w : World} {e : TypeId} {size : Nat} {a : Option Addr} {c n : Nat} {xs : List Value} {R : Assn} (h : Bears w (rowA e size (.slice a n c) n xs * R)) {k : Nat} (hk : k < n) :
    ∃ g, a = some ⟨g, 0, none⟩ ∧ w.rangeAt g (k * size) ((xs.drop (k * size)).take size) := by
  obtain ⟨a', c', hv, _, _, hr⟩ := h.rowForm
  simp only [Value.slice.injEq] at hv
  obtain ⟨rfl, _, rfl⟩ := hv
  exact hr k hk

/-- Behind an append to a row. -/
theorem Bears.appended {w w' : World} {e : TypeId} {size : Nat} {v v' : Value} {n n' : Nat} {xs xs' : List Value} {R : Assn} (h : Bears w (rowA e size v n xs * R))
    (ho : w'.ownsRow 0 e size v' n' xs') (hg : w.grownBy w' v.ownBlock) (hl : v'.ownBlock = v.ownBlock ∨ v'.ownBlock = some w.heap.size) : Bears w' (rowA e size v' n' xs' * R) := by
  obtain ⟨F, G, H, ⟨h, rfl⟩, hR, hd, rfl⟩ := h
  refine ⟨_, _, H, ⟨ho, rfl⟩, R.loc hR ⟨hg.os, hg.tape, hg.output, hg.size⟩ (fun b hb => hg.block b (R.lt hR b hb) (fun e => hd b e.symm hb)), fun b h1 h2 => ?_, rfl⟩
  rcases hl with hl | hl
  · exact hd b (hl ▸ h1) h2
  · have h3 := R.lt hR b h2
    rw [hl] at h1
    cases h1
    omega

/-- Cells, set one behind the other. -/
def setList (c : Array Value) : Nat → List Value → Array Value
  | _, [] => c
  | o, v :: r => setList (c.setIfInBounds o v) (o + 1) r

theorem Bears.setCells {b : Nat} {t : TypeId} {fz : Nat × Nat} {R : Assn} : ∀ (o : Nat) (vs : List Value) {w : World} {c : Array Value}, Bears w (Assn.obj b (.cells c t fz) * R) →
    Bears (w.setCells b o vs) (Assn.obj b (.cells (setList c o vs) t fz) * R)
  | _, [], _, _, h => h
  | o, v :: r, _, _, h => Bears.setCells (o + 1) r (h.setCell v)

theorem setList_toList : ∀ (vs : List Value) (o : Nat) (c : Array Value), o + vs.length ≤ c.size → (setList c o vs).toList = c.toList.take o ++ vs ++ c.toList.drop (o + vs.length)
  | [], o, c, _ => by simp [setList]
  | v :: r, o, c, h => by
    simp only [List.length_cons] at h
    simp only [setList]
    rw [setList_toList r (o + 1) (c.setIfInBounds o v) (by simp; omega)]
    simp only [Array.toList_setIfInBounds, List.length_cons]
    rw [List.take_succ_eq_append_getElem (by simp; omega), List.take_set_of_le (by omega), List.drop_set_of_lt (by omega)]
    simp only [List.getElem_set_self, List.append_assoc, List.cons_append, List.nil_append]
    rw [show o + 1 + r.length = o + (r.length + 1) by omega]

theorem size_setList : ∀ (vs : List Value) (o : Nat) (c : Array Value), (setList c o vs).size = c.size
  | [], _, _ => rfl
  | v :: r, o, c => by simp only [setList]; rw [size_setList r (o + 1)]; simp

theorem setList_all (c cs : Array Value) (h : cs.size = c.size) : setList c 0 cs.toList = cs := by
  apply Array.toList_inj.1
  rw [setList_toList _ _ _ (by simp [h])]
  simp [h]

/-- A whole object of cells: what it reads as. -/
theorem rangeAt_of_obj {w : World} {b : Nat} {c : Array Value} {t : TypeId} {fz : Nat × Nat} (h : w.heap[b]? = some (.cells c t fz)) : w.rangeAt b 0 c.toList := by
  intro j v hv
  rw [cell_of_obj h]
  simpa using hv

theorem rangeAt_block {w w' : World} {b o : Nat} {cs : List Value} (h : w.rangeAt b o cs) (e : w'.heap[b]? = w.heap[b]?) : w'.rangeAt b o cs := by
  intro j v hv
  rw [World.cell?_of_block (a := ⟨b, o + j, none⟩) e]
  exact h j v hv
theorem rangeAt_lt {w : World} {b o : Nat} {cs : List Value} (h : w.rangeAt b o cs) (hne : cs ≠ []) : b < w.heap.size := by
  cases cs with
  | nil => exact absurd rfl hne
  | cons c cs => exact World.block_lt_of_cell? w ⟨b, o + 0, none⟩ (h 0 c rfl)
theorem rangeAt_alloc {w : World} {b o : Nat} {cs : List Value} (h : w.rangeAt b o cs) (hne : cs ≠ []) (ob : Obj) : (w.alloc ob).rangeAt b o cs :=
  rangeAt_block h (Below.heap_alloc _ _ _ (rangeAt_lt h hne))
theorem rangeAt_tail {w : World} {b o : Nat} {c : Value} {cs : List Value} (h : w.rangeAt b o (c :: cs)) : w.rangeAt b (o + 1) cs := by
  intro j v hv
  rw [show o + 1 + j = o + (j + 1) by omega]
  exact h (j + 1) v (by simpa using hv)
theorem rangeAt_drew {w : World} {b o : Nat} {cs : List Value} (h : w.rangeAt b o cs) : w.drew.rangeAt b o cs := h

theorem BytesIn.obj' {w : World} {b : Nat} {l : List UInt8} {t : TypeId} {fz : Nat × Nat} (h : w.heap[b]? = some (.cells (cellsV l).toArray t fz)) (cap : Nat) : BytesIn w (.slice (some ⟨b, 0, none⟩) l.length cap) l :=
  ⟨_, cap, rfl, fun _ => ⟨b, 0, rfl, by simpa using rangeAt_of_obj h⟩⟩

theorem BytesIn.tells {g : Nat} {l : List UInt8} {t : TypeId} {fz : Nat × Nat} {R : Assn} (n cap : Nat) (hn : n = l.length) : (Assn.obj g (.cells (cellsV l).toArray t fz) * R).Tells (fun w => BytesIn w (.slice (some ⟨g, 0, none⟩) n cap) l) := by
  intro w h
  subst hn
  exact ⟨_, cap, rfl, fun _ => ⟨g, 0, rfl, by have := rangeAt_of_obj h.obj; simpa using this⟩⟩

theorem IntsIn.tells {g : Nat} {l : List Int} {t : TypeId} {fz : Nat × Nat} {R : Assn} (n cap : Nat) (hn : n = l.length) : (Assn.obj g (.cells (l.map (Value.int .i64)).toArray t fz) * R).Tells (fun w => IntsIn w (.slice (some ⟨g, 0, none⟩) n cap) l) := by
  intro w h
  subst hn
  exact ⟨_, cap, rfl, fun _ => ⟨g, 0, rfl, by have := rangeAt_of_obj h.obj; simpa using this⟩⟩

theorem IntsIn.nil {R : Assn} (cap : Nat) : R.Tells (fun w => IntsIn w (.slice none 0 cap) []) := fun _ _ => ⟨none, cap, rfl, fun h => absurd rfl h⟩

end Go.Proofs.Ytaiobekochhemaa
