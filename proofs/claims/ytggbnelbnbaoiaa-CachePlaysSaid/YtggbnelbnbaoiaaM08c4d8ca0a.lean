/- Texts of this claim, put together: Sep, Maps, Mem, DiskM, Laws, DiskW1, Region, DiskW2; no condition. -/
import Derived.WalkKit
import Derived.WalkSpells
import Derived.WalkLawsBesides
import Derived.MapKept
import Derived.Maps.Own
import Derived.Deep.MidRow
import Derived.Maps.AppendAt
import Derived.Deep.AppendLies
import Derived.StillTailTactics
import Derived.Deep.RegionHeld3
import Derived.Lib.Hide
import Derived.Test.YtggbnelbnbaoiaaProg

set_option linter.unusedSimpArgs false
set_option linter.unusedVariables false

/- A small logic of separate pieces of memory: assertions over a world, each with the set of blocks that it speaks of; no condition. -/
namespace Go.Proofs.Ytggbnelbnbaoiaa
open Go.RowKit

/-- What a call leaves as it is beside the heap; and that no block goes. -/
structure Meta' (w w' : World) : Prop where
  os : w'.os = w.os
  tape : w'.tape = w.tape
  output : w'.output = w.output
  size : w.heap.size ≤ w'.heap.size

theorem Meta'.refl (w : World) : Meta' w w := ⟨rfl, rfl, rfl, Nat.le_refl _⟩
theorem Meta'.trans {a b c : World} (h : Meta' a b) (k : Meta' b c) : Meta' a c :=
  ⟨k.os.trans h.os, k.tape.trans h.tape, k.output.trans h.output, Nat.le_trans h.size k.size⟩

/-- An assertion: 'holds w F': it is true of w, and looks at the blocks F alone. -/
structure Assn where
  holds : World → (Nat → Prop) → Prop
  lt : ∀ {w F}, holds w F → ∀ b, F b → b < w.heap.size
  loc : ∀ {w w' F}, holds w F → Meta' w w' → (∀ b, F b → w'.heap[b]? = w.heap[b]?) → holds w' F

theorem Assn.ext' {A B : Assn} (h : ∀ w F, A.holds w F ↔ B.holds w F) : A = B := by
  cases A; cases B
  congr 1
  funext w F
  exact propext (h w F)

def Assn.star (A B : Assn) : Assn where
  holds w F := ∃ G H, A.holds w G ∧ B.holds w H ∧ (∀ b, G b → H b → False) ∧ F = (fun b => G b ∨ H b)
  lt := by
    rintro w F ⟨G, H, hA, hB, _, rfl⟩ b hb
    rcases hb with hb | hb
    · exact A.lt hA b hb
    · exact B.lt hB b hb
  loc := by
    rintro w w' F ⟨G, H, hA, hB, hd, rfl⟩ hm hs
    exact ⟨G, H, A.loc hA hm (fun b hb => hs b (.inl hb)), B.loc hB hm (fun b hb => hs b (.inr hb)), hd, rfl⟩

/-- Nothing. -/
def Assn.emp : Assn where
  holds _ F := F = fun _ => False
  lt := by rintro w F rfl b hb; exact hb.elim
  loc := by rintro w w' F h _ _; exact h

/-- A fact that hangs on no memory. -/
def Assn.fact (p : Prop) : Assn where
  holds _ F := p ∧ F = fun _ => False
  lt := by rintro w F ⟨_, rfl⟩ b hb; exact hb.elim
  loc := by rintro w w' F h _ _; exact h

def Assn.ex {α : Type} (A : α → Assn) : Assn where
  holds w F := ∃ x, (A x).holds w F
  lt := by rintro w F ⟨x, h⟩ b hb; exact (A x).lt h b hb
  loc := by rintro w w' F ⟨x, h⟩ hm hs; exact ⟨x, (A x).loc h hm hs⟩

/-- Block b is the object o. -/
def Assn.obj (b : Nat) (o : Obj) : Assn where
  holds w F := w.heap[b]? = some o ∧ F = fun k => k = b
  lt := by
    rintro w F ⟨h, rfl⟩ k rfl
    exact (Array.getElem?_eq_some_iff.1 h).1
  loc := by
    rintro w w' F ⟨h, rfl⟩ _ hs
    exact ⟨(hs b rfl).trans h, rfl⟩

instance : Mul Assn := ⟨Assn.star⟩

theorem Assn.mul_def (A B : Assn) : A * B = A.star B := rfl

theorem Assn.mul_comm' (A B : Assn) : A * B = B * A := by
  apply Assn.ext'
  intro w F
  constructor
  · rintro ⟨G, H, hA, hB, hd, rfl⟩
    exact ⟨H, G, hB, hA, fun b h1 h2 => hd b h2 h1, by funext b; exact propext Or.comm⟩
  · rintro ⟨G, H, hA, hB, hd, rfl⟩
    exact ⟨H, G, hB, hA, fun b h1 h2 => hd b h2 h1, by funext b; exact propext Or.comm⟩

theorem Assn.mul_assoc' (A B C : Assn) : A * B * C = A * (B * C) := by
  apply Assn.ext'
  intro w F
  constructor
  · rintro ⟨GH, K, ⟨G, H, hA, hB, hd, rfl⟩, hC, hd2, rfl⟩
    exact ⟨G, _, hA, ⟨H, K, hB, hC, fun b h1 h2 => hd2 b (.inr h1) h2, rfl⟩,
      fun b h1 h2 => h2.elim (hd b h1) (hd2 b (.inl h1)), by funext b; exact propext or_assoc⟩
  · rintro ⟨G, HK, hA, ⟨H, K, hB, hC, hd, rfl⟩, hd2, rfl⟩
    exact ⟨_, K, ⟨G, H, hA, hB, fun b h1 h2 => hd2 b h1 (.inl h2), rfl⟩, hC,
      fun b h1 h2 => h1.elim (fun h1 => hd2 b h1 (.inr h2)) (fun h1 => hd b h1 h2), by funext b; exact propext or_assoc.symm⟩

instance : Std.Associative (α := Assn) (· * ·) := ⟨Assn.mul_assoc'⟩
instance : Std.Commutative (α := Assn) (· * ·) := ⟨Assn.mul_comm'⟩

theorem Assn.mul_emp (A : Assn) : A * Assn.emp = A := by
  apply Assn.ext'
  intro w F
  constructor
  · rintro ⟨G, H, hA, rfl, _, rfl⟩
    have : (fun b => G b ∨ False) = G := by funext b; simp
    rw [this]
    exact hA
  · intro h
    exact ⟨F, _, h, rfl, fun b _ h2 => h2, by funext b; simp⟩

theorem Assn.emp_mul (A : Assn) : Assn.emp * A = A := by rw [Assn.mul_comm', Assn.mul_emp]

/-- The world bears the assertion. -/
def Bears (w : World) (A : Assn) : Prop := ∃ F, A.holds w F

theorem Bears.cast {w : World} {A B : Assn} (h : Bears w A) (e : A = B) : Bears w B := e ▸ h

theorem Bears.pull2 {w : World} {A B R : Assn} (h : Bears w (A * (B * R))) : Bears w (B * (A * R)) := h.cast (by ac_rfl)
theorem Bears.pull3 {w : World} {A B C R : Assn} (h : Bears w (A * (B * (C * R)))) : Bears w (C * (A * (B * R))) := h.cast (by ac_rfl)
theorem Bears.pull4 {w : World} {A B C D R : Assn} (h : Bears w (A * (B * (C * (D * R))))) : Bears w (D * (A * (B * (C * R)))) := h.cast (by ac_rfl)
theorem Bears.pull5 {w : World} {A B C D E R : Assn} (h : Bears w (A * (B * (C * (D * (E * R)))))) : Bears w (E * (A * (B * (C * (D * R))))) := h.cast (by ac_rfl)
theorem Bears.pull6 {w : World} {A B C D E F R : Assn} (h : Bears w (A * (B * (C * (D * (E * (F * R))))))) : Bears w (F * (A * (B * (C * (D * (E * R)))))) := h.cast (by ac_rfl)

theorem Bears.pull7 {w : World} {A B C D E F G R : Assn} (h : Bears w (A * (B * (C * (D * (E * (F * (G * R)))))))) : Bears w (G * (A * (B * (C * (D * (E * (F * R))))))) := h.cast (by ac_rfl)
theorem Bears.pull8 {w : World} {A B C D E F G H R : Assn} (h : Bears w (A * (B * (C * (D * (E * (F * (G * (H * R))))))))) : Bears w (H * (A * (B * (C * (D * (E * (F * (G * R)))))))) := h.cast (by ac_rfl)

/-- The third and the fourth change places; and others. -/
theorem Bears.c34 {w : World} {A B C D R : Assn} (h : Bears w (A * (B * (C * (D * R))))) : Bears w (A * (B * (D * (C * R)))) := h.cast (by ac_rfl)
theorem Bears.c23 {w : World} {A B C R : Assn} (h : Bears w (A * (B * (C * R)))) : Bears w (A * (C * (B * R))) := h.cast (by ac_rfl)
theorem Bears.c45 {w : World} {A B C D E R : Assn} (h : Bears w (A * (B * (C * (D * (E * R)))))) : Bears w (A * (B * (C * (E * (D * R))))) := h.cast (by ac_rfl)
/-- The first goes behind the others. -/
theorem Bears.push2 {w : World} {A B R : Assn} (h : Bears w (A * (B * R))) : Bears w (B * (A * R)) := h.cast (by ac_rfl)
theorem Bears.push3 {w : World} {A B C R : Assn} (h : Bears w (A * (B * (C * R)))) : Bears w (B * (C * (A * R))) := h.cast (by ac_rfl)
theorem Bears.push4 {w : World} {A B C D R : Assn} (h : Bears w (A * (B * (C * (D * R))))) : Bears w (B * (C * (D * (A * R)))) := h.cast (by ac_rfl)
theorem Bears.push5 {w : World} {A B C D E R : Assn} (h : Bears w (A * (B * (C * (D * (E * R)))))) : Bears w (B * (C * (D * (E * (A * R))))) := h.cast (by ac_rfl)
theorem Bears.push6 {w : World} {A B C D E F R : Assn} (h : Bears w (A * (B * (C * (D * (E * (F * R))))))) : Bears w (B * (C * (D * (E * (F * (A * R)))))) := h.cast (by ac_rfl)
/-- Two that stand together. -/
theorem Bears.pair {w : World} {A B R : Assn} (h : Bears w (A * (B * R))) : Bears w ((A * B) * R) := h.cast (by ac_rfl)
theorem Bears.unpair {w : World} {A B R : Assn} (h : Bears w ((A * B) * R)) : Bears w (A * (B * R)) := h.cast (by ac_rfl)

theorem Bears.keep {w w' : World} {A : Assn} (h : Bears w A) (hm : Meta' w w') (hs : ∀ b, b < w.heap.size → w'.heap[b]? = w.heap[b]?) : Bears w' A := by
  obtain ⟨F, h⟩ := h
  exact ⟨F, A.loc h hm (fun b hb => hs b (A.lt h b hb))⟩

theorem Bears.ex {α : Type} {w : World} {A : α → Assn} {R : Assn} : Bears w (Assn.ex A * R) ↔ ∃ x, Bears w (A x * R) := by
  constructor
  · rintro ⟨F, G, H, ⟨x, hA⟩, hR, hd, rfl⟩
    exact ⟨x, _, G, H, hA, hR, hd, rfl⟩
  · rintro ⟨x, F, G, H, hA, hR, hd, rfl⟩
    exact ⟨_, G, H, ⟨x, hA⟩, hR, hd, rfl⟩

theorem Bears.fact {w : World} {p : Prop} {R : Assn} : Bears w (Assn.fact p * R) ↔ p ∧ Bears w R := by
  constructor
  · rintro ⟨F, G, H, ⟨hp, rfl⟩, hR, hd, rfl⟩
    exact ⟨hp, H, hR⟩
  · rintro ⟨hp, H, hR⟩
    exact ⟨_, _, H, ⟨hp, rfl⟩, hR, fun b h1 _ => h1, rfl⟩

theorem Bears.left {w : World} {A R : Assn} (h : Bears w (A * R)) : Bears w A := by
  obtain ⟨F, G, H, hA, _, _, _⟩ := h; exact ⟨G, hA⟩
theorem Bears.right {w : World} {A R : Assn} (h : Bears w (A * R)) : Bears w R := by
  obtain ⟨F, G, H, _, hR, _, _⟩ := h; exact ⟨H, hR⟩

/-- A block, and its frame. -/
theorem Bears.obj {w : World} {b : Nat} {o : Obj} {R : Assn} (h : Bears w (Assn.obj b o * R)) : w.heap[b]? = some o := by
  obtain ⟨F, G, H, ⟨h, rfl⟩, _⟩ := h; exact h

/-- THE STEP THAT CLOSES A WALK: of the world w nothing but the one block b has changed: what else it bore, it bears. -/
theorem Bears.put {w w' : World} {b : Nat} {o o' : Obj} {R : Assn} (h : Bears w (Assn.obj b o * R)) (hm : Meta' w w')
    (hs : ∀ k, k < w.heap.size → k ≠ b → w'.heap[k]? = w.heap[k]?) (hb : w'.heap[b]? = some o') : Bears w' (Assn.obj b o' * R) := by
  obtain ⟨F, G, H, ⟨h, rfl⟩, hR, hd, rfl⟩ := h
  exact ⟨_, _, H, ⟨hb, rfl⟩, R.loc hR hm (fun k hk => hs k (R.lt hR k hk) (fun e => hd k e hk)), hd, rfl⟩

/-- A new block. -/
theorem Bears.alloc {w : World} {R : Assn} (h : Bears w R) (o : Obj) : Bears (w.alloc o) (Assn.obj w.heap.size o * R) := by
  obtain ⟨H, hR⟩ := h
  have hold : ∀ k, k < w.heap.size → (w.alloc o).heap[k]? = w.heap[k]? := fun k hk => Below.heap_alloc w o k hk
  refine ⟨_, _, H, ⟨?_, rfl⟩, R.loc hR ⟨rfl, rfl, rfl, by simp⟩ (fun k hk => hold k (R.lt hR k hk)), fun k h1 h2 => ?_, rfl⟩
  · show (w.heap.push o)[w.heap.size]? = _
    simp
  · have := R.lt hR k h2
    subst h1
    omega

theorem Bears.drew {w : World} {R : Assn} (h : Bears w R) : Bears w.drew R := h.keep ⟨rfl, rfl, rfl, Nat.le_refl _⟩ (fun _ _ => rfl)
theorem Bears.drewN {w : World} {R : Assn} (h : Bears w R) (n : Nat) : Bears (w.drewN n) R := h.keep ⟨rfl, rfl, rfl, Nat.le_refl _⟩ (fun _ _ => rfl)

/-- A store into a cell of a block. -/
theorem Bears.setCell {w : World} {b i : Nat} {c : Array Value} {t : TypeId} {fz : Nat × Nat} {R : Assn} (h : Bears w (Assn.obj b (.cells c t fz) * R)) (v : Value) :
    Bears (w.setCell ⟨b, i, none⟩ v) (Assn.obj b (.cells (c.setIfInBounds i v) t fz) * R) := by
  refine h.put ⟨rfl, rfl, rfl, by simp⟩ (fun k _ hk => Below.heap_setCell _ _ _ _ (by simpa using hk)) ?_
  have := h.obj
  simp [World.setCell, Array.getElem?_modify, this]

theorem Bears.setObj {w : World} {b : Nat} {o : Obj} {R : Assn} (h : Bears w (Assn.obj b o * R)) (o' : Obj) :
    Bears { w with heap := w.heap.setIfInBounds b o' } (Assn.obj b o' * R) := by
  refine h.put ⟨rfl, rfl, rfl, by simp⟩ (fun k _ hk => by simp [Ne.symm hk]) ?_
  have := (Array.getElem?_eq_some_iff.1 h.obj).1
  simp [this]

/-- The old memory: as it was in w0, below block number B; it stays so. -/
def Assn.old (B : Nat) (w0 : World) : Assn where
  holds w F := (F = fun b => b < B) ∧ B ≤ w.heap.size ∧ w.os = w0.os ∧ w.tape = w0.tape ∧ w.output = w0.output ∧ ∀ b, b < B → w.heap[b]? = w0.heap[b]?
  lt := by
    rintro w F ⟨rfl, hB, _⟩ b hb
    exact Nat.lt_of_lt_of_le hb hB
  loc := by
    rintro w w' F ⟨rfl, hB, h1, h2, h3, h4⟩ hm hs
    exact ⟨rfl, Nat.le_trans hB hm.size, hm.os.trans h1, hm.tape.trans h2, hm.output.trans h3, fun b hb => (hs b hb).trans (h4 b hb)⟩

theorem Bears.start (w : World) : Bears w (Assn.old w.heap.size w) := ⟨_, rfl, Nat.le_refl _, rfl, rfl, rfl, fun _ _ => rfl⟩

theorem Bears.below {w0 w : World} {B : Nat} {R : Assn} (h : Bears w (Assn.old B w0 * R)) (hB : B = w0.heap.size) : Below w0.heap.size w0 w := by
  obtain ⟨F, G, H, ⟨rfl, h0, h1, h2, h3, h4⟩, _⟩ := h
  subst hB
  exact ⟨h1, h2, h3, h0, h4⟩

/-- What two assertions that stand side by side speak of is apart. -/
theorem Bears.ne {w : World} {b c : Nat} {o p : Obj} {R : Assn} (h : Bears w (Assn.obj b o * (Assn.obj c p * R))) : b ≠ c := by
  obtain ⟨F, G, H, ⟨_, rfl⟩, ⟨G', H', ⟨_, rfl⟩, _, _, rfl⟩, hd, _⟩ := h
  intro e
  exact hd b rfl (.inl e)

/-- WHATEVER THE FRAME SAYS OF A WORLD, IT SAYS OF EVERY WORLD THAT BEARS IT. -/
def Assn.Tells (R : Assn) (p : World → Prop) : Prop := ∀ w, Bears w R → p w

theorem Assn.Tells.right {A R : Assn} {p : World → Prop} (h : R.Tells p) : (A * R).Tells p := fun _ hw => h _ hw.right
theorem Assn.Tells.left {A R : Assn} {p : World → Prop} (h : A.Tells p) : (A * R).Tells p := fun _ hw => h _ hw.left
theorem Assn.Tells.mono {R : Assn} {p q : World → Prop} (h : R.Tells p) (hpq : ∀ w, p w → q w) : R.Tells q := fun _ hw => hpq _ (h _ hw)

theorem cell_of_obj {w : World} {b : Nat} {c : Array Value} {t : TypeId} {fz : Nat × Nat} (h : w.heap[b]? = some (.cells c t fz)) (i : Nat) : w.cell? ⟨b, i, none⟩ = c[i]? := by
  simp [World.cell?, h]
theorem frozen_of_obj {w : World} {b : Nat} {c : Array Value} {t : TypeId} (h : w.heap[b]? = some (.cells c t (0, 0))) (i : Nat) : w.frozen? ⟨b, i, none⟩ = false := by
  simp [World.frozen?, h]

end Go.Proofs.Ytggbnelbnbaoiaa

/- Maps keyed by ints, as association lists; what the operations on them do; no condition. -/
namespace Go.Proofs.Ytggbnelbnbaoiaa
open Go.RowKit Go.MapKept

/-- The value at a key. -/
def getL {α : Type} (k : Int) : List (Int × α) → Option α
  | [] => none
  | p :: r => if p.1 = k then some p.2 else getL k r
/-- The value at a key, written. -/
def putL {α : Type} (k : Int) (v : α) : List (Int × α) → List (Int × α)
  | [] => [(k, v)]
  | p :: r => if p.1 = k then (k, v) :: r else p :: putL k v r
/-- A key, taken out. -/
def delL {α : Type} (k : Int) : List (Int × α) → List (Int × α)
  | [] => []
  | p :: r => if p.1 = k then r else p :: delL k r

theorem getL_putL {α : Type} (k j : Int) (v : α) (l : List (Int × α)) : getL j (putL k v l) = if j = k then some v else getL j l := by
  induction l with
  | nil =>
    simp only [putL, getL]
    by_cases h : j = k
    · subst h; simp
    · simp [h, Ne.symm h]
  | cons p r ih =>
    simp only [putL]
    by_cases h : p.1 = k
    · simp only [h, if_true, getL]
      by_cases hj : j = k
      · subst hj; simp
      · simp [hj, Ne.symm hj]
    · simp only [h, if_false, getL, ih]
      by_cases hj : j = k
      · subst hj; simp [h]
      · simp [hj]

/-- How a map's entries stand in memory. -/
structure MapIs (es : Array MapEntry) (clock : Nat) (l : List (Int × Value)) : Prop where
  list : es.toList.map (fun e => (e.key, e.val)) = l.map (fun p => (Value.int .i64 p.1, p.2))
  stamped : Stamped es clock

theorem MapIs.keys {es : Array MapEntry} {clock : Nat} {l : List (Int × Value)} (h : MapIs es clock l) : ∀ x ∈ es.toList, IsKey (.int .i64) x.key := by
  intro x hx
  have : (x.key, x.val) ∈ es.toList.map (fun e => (e.key, e.val)) := List.mem_map.2 ⟨x, hx, rfl⟩
  rw [h.list] at this
  obtain ⟨p, _, hp⟩ := List.mem_map.1 this
  have : x.key = .int .i64 p.1 := (congrArg Prod.fst hp).symm
  rw [this]
  exact rfl

theorem findNow_list (x : Int) : ∀ (es : List MapEntry) (l : List (Int × Value)) (i : Nat), es.map (fun e => (e.key, e.val)) = l.map (fun p => (Value.int .i64 p.1, p.2)) →
    (getL x l = none ∧ Instr.findNow (.int .i64) (.int .i64 x) es i = some none ∧ ∀ e ∈ es, e.key ≠ .int .i64 x) ∨
    ∃ j v e, getL x l = some v ∧ Instr.findNow (.int .i64) (.int .i64 x) es i = some (some (i + j, v)) ∧ es[j]? = some e ∧ e.key = .int .i64 x ∧ e.val = v
  | [], l, i, h => by
    have : l = [] := by simpa using h.symm
    subst this
    exact .inl ⟨rfl, rfl, by simp⟩
  | e :: es, l, i, h => by
    cases l with
    | nil => simp at h
    | cons p l =>
      simp only [List.map_cons, List.cons.injEq, Prod.mk.injEq] at h
      obtain ⟨⟨hk, hv⟩, h⟩ := h
      by_cases hp : p.1 = x
      · refine .inr ⟨0, p.2, e, by simp [getL, hp], ?_, rfl, by rw [hk, hp], hv⟩
        simp [Instr.findNow, hk, hp, Instr.sameNow, hv]
      · have hne : e.key ≠ .int .i64 x := by
          rw [hk]
          intro he
          simp only [Value.int.injEq, true_and] at he
          exact hp he
        have hs : Instr.sameNow (.int .i64) (.int .i64 x) e.key = some false := by
          rw [hk]
          simp [Instr.sameNow, Ne.symm hp]
        rcases findNow_list x es l (i + 1) h with ⟨h1, h2, h3⟩ | ⟨j, v, e', h1, h2, h3, h4, h5⟩
        · exact .inl ⟨by simp [getL, hp, h1], by simp [Instr.findNow, hs, h2], fun e' he' => by
            cases he' with
            | head => exact hne
            | tail _ he' => exact h3 _ he'⟩
        · exact .inr ⟨j + 1, v, e', by simp [getL, hp, h1], by simp [Instr.findNow, hs, h2]; omega, by simpa using h3, h4, h5⟩

section
variable {P : Program} {w : World} {t kt et : TypeId} {b : Nat} {es : Array MapEntry} {clock : Nat} {l : List (Int × Value)}

theorem run_lookup_int (ht : P.underlying t = some (.map kt et)) (hk : P.underlying kt = some (.int .i64)) {z : Value} (hz : (zeroValue et).run P w = .ok z w)
    (hb : w.heap[b]? = some (.map es clock)) (h : MapIs es clock l) (x : Int) :
    (Instr.lookup t (.map (some b)) (.int .i64 x) false).run P w = .ok ((getL x l).getD z) w := by
  have hc := run_checkKey (P := P) (w := w) hk (show IsKey (.int .i64) (.int .i64 x) from rfl) es.isEmpty 9999
  rcases findNow_list x es.toList l 0 h.list with ⟨h1, h2, _⟩ | ⟨j, v, e, h1, h2, _⟩
  · have hf := run_findKey (P := P) (w := w) hk h2
    simp [Instr.lookup, run_underlying ht, MapKept.run_getObj_map hb, hc, hf, h1, hz, Result.andThen]
  · have hf := run_findKey (P := P) (w := w) hk h2
    simp [Instr.lookup, run_underlying ht, MapKept.run_getObj_map hb, hc, hf, h1, Result.andThen]

theorem run_lookup_int_ok (ht : P.underlying t = some (.map kt et)) (hk : P.underlying kt = some (.int .i64)) {z : Value} (hz : (zeroValue et).run P w = .ok z w)
    (hb : w.heap[b]? = some (.map es clock)) (h : MapIs es clock l) (x : Int) :
    (Instr.lookup t (.map (some b)) (.int .i64 x) true).run P w = .ok (.tuple #[(getL x l).getD z, .bool (getL x l).isSome]) w := by
  have hc := run_checkKey (P := P) (w := w) hk (show IsKey (.int .i64) (.int .i64 x) from rfl) es.isEmpty 9999
  rcases findNow_list x es.toList l 0 h.list with ⟨h1, h2, _⟩ | ⟨j, v, e, h1, h2, _⟩
  · have hf := run_findKey (P := P) (w := w) hk h2
    simp [Instr.lookup, run_underlying ht, MapKept.run_getObj_map hb, hc, hf, h1, hz, Result.andThen]
  · have hf := run_findKey (P := P) (w := w) hk h2
    simp [Instr.lookup, run_underlying ht, MapKept.run_getObj_map hb, hc, hf, h1, Result.andThen]

theorem set_putL (x : Int) (v : Value) : ∀ (es : List MapEntry) (l : List (Int × Value)) (j : Nat) (e : MapEntry), es.map (fun e => (e.key, e.val)) = l.map (fun p => (Value.int .i64 p.1, p.2)) →
    es[j]? = some e → e.key = .int .i64 x → (∀ i e', i < j → es[i]? = some e' → e'.key ≠ .int .i64 x) →
    (es.set j { e with key := .int .i64 x, val := v }).map (fun e => (e.key, e.val)) = (putL x v l).map (fun p => (Value.int .i64 p.1, p.2))
  | [], l, j, e, _, hj, _, _ => by simp at hj
  | e0 :: es, l, j, e, h, hj, hk, hlt => by
    cases l with
    | nil => simp at h
    | cons p l =>
      simp only [List.map_cons, List.cons.injEq, Prod.mk.injEq] at h
      obtain ⟨⟨hk0, hv0⟩, h⟩ := h
      cases j with
      | zero =>
        obtain rfl : e0 = e := by simpa using hj
        have hp : p.1 = x := by rw [hk0] at hk; simpa using hk
        simp [putL, hp, h]
      | succ j =>
        have hne : p.1 ≠ x := fun hp => hlt 0 e0 (by omega) rfl (by rw [hk0, hp])
        simp only [List.set_cons_succ, List.map_cons, putL, hne, if_false, hk0, hv0]
        congr 1
        exact set_putL x v es l j e h (by simpa using hj) hk (fun i e' hi he' => hlt (i + 1) e' (by omega) (by simpa using he'))

theorem push_putL (x : Int) (v : Value) : ∀ (es : List MapEntry) (l : List (Int × Value)) (n : MapEntry), es.map (fun e => (e.key, e.val)) = l.map (fun p => (Value.int .i64 p.1, p.2)) →
    (∀ e ∈ es, e.key ≠ .int .i64 x) → n.key = .int .i64 x → n.val = v → (es ++ [n]).map (fun e => (e.key, e.val)) = (putL x v l).map (fun p => (Value.int .i64 p.1, p.2))
  | [], l, n, h, _, hk, hv => by
    have : l = [] := by simpa using h.symm
    subst this
    simp [putL, hk, hv]
  | e0 :: es, l, n, h, hne, hk, hv => by
    cases l with
    | nil => simp at h
    | cons p l =>
      simp only [List.map_cons, List.cons.injEq, Prod.mk.injEq] at h
      obtain ⟨⟨hk0, hv0⟩, h⟩ := h
      have hp : p.1 ≠ x := fun hp => hne e0 (by simp) (by rw [hk0, hp])
      simp only [List.cons_append, List.map_cons, putL, hp, if_false, hk0, hv0]
      congr 1
      exact push_putL x v es l n h (fun e he => hne e (by simp [he])) hk hv

theorem run_mapUpdate_int (ht : P.underlying t = some (.map kt et)) (hk : P.underlying kt = some (.int .i64))
    (hb : w.heap[b]? = some (.map es clock)) (h : MapIs es clock l) (x : Int) (v : Value) :
    ∃ es' clock', (Instr.mapUpdate t (.map (some b)) (.int .i64 x) v).run P w = .ok () { w with heap := w.heap.setIfInBounds b (.map es' clock') } ∧ MapIs es' clock' (putL x v l) := by
  have hc := run_checkKey (P := P) (w := w) hk (show IsKey (.int .i64) (.int .i64 x) from rfl) false 9999
  rcases findNow_spec (show IsKey (.int .i64) (.int .i64 x) from rfl) es.toList 0 h.keys with ⟨h2, h3⟩ | ⟨j, e, h2, h3, h4⟩
  · have hf := run_findKey (P := P) (w := w) hk h2
    refine ⟨es.push ⟨.int .i64 x, v, clock⟩, clock + 1, ?_, ?_, stamped_push h.stamped h3⟩
    · simp [Instr.mapUpdate, run_underlying ht, MapKept.run_getObj_map hb, hc, hf, MapKept.run_setObj_map _ hb, Result.andThen]
    · rw [Array.toList_push]
      exact push_putL x v es.toList l _ h.list h3 rfl rfl
  · simp only [Nat.zero_add] at h2
    have hf := run_findKey (P := P) (w := w) hk h2
    have hj : es[j]? = some e := by simpa using h3
    have hkeyf : ∀ e', es[j]? = some e' → ({ e' with key := .int .i64 x, val := v } : MapEntry).key = e'.key := fun e' he' => by
      rw [hj] at he'; cases he'; exact h4.symm
    have hlist : (es.modify j (fun e' => { e' with key := .int .i64 x, val := v })).toList = es.toList.set j { e with key := .int .i64 x, val := v } := by
      rw [Array.toList_modify, ChangeMaps.modify_eq_set _ _ _ _ h3]
    refine ⟨es.modify j (fun e' => { e' with key := .int .i64 x, val := v }), clock, ?_, ?_, stamped_modify h.stamped _ _ (fun _ _ => rfl) (fun e' _ he' => hkeyf e' he')⟩
    · have hst := run_keyThatStays (P := P) (w := w) (show IsKey (.int .i64) (.int .i64 x) from rfl)
      simp [Instr.mapUpdate, run_underlying ht, MapKept.run_getObj_map hb, hc, hf, hj, h4, hst, MapKept.run_setObj_map _ hb, Result.andThen]
    · rw [hlist]
      refine set_putL x v es.toList l j e h.list h3 h4 (fun i e' hi he' hke => ?_)
      have hnd := h.stamped.2.2
      have hi' : i < es.toList.length := (List.getElem?_eq_some_iff.1 he').1
      have hj' : j < es.toList.length := (List.getElem?_eq_some_iff.1 h3).1
      have e1 : (es.toList.map (·.key))[i]'(by simpa using hi') = (es.toList.map (·.key))[j]'(by simpa using hj') := by
        have a1 := (List.getElem?_eq_some_iff.1 he').2
        have a2 := (List.getElem?_eq_some_iff.1 h3).2
        simp only [List.getElem_map, a1, a2, hke, h4]
      rw [List.nodup_iff_pairwise_ne, List.pairwise_iff_getElem] at hnd
      exact hnd i j (by simpa using hi') (by simpa using hj') hi e1

end

/-- The map in block b. -/
def mapA (b : Nat) (l : List (Int × Value)) : Assn := Assn.ex fun es => Assn.ex fun clock => Assn.fact (MapIs es clock l) * Assn.obj b (.map es clock)

theorem Bears.ofMapA {w : World} {b : Nat} {l : List (Int × Value)} {R : Assn} (h : Bears w (mapA b l * R)) : ∃ es clock, MapIs es clock l ∧ Bears w (Assn.obj b (.map es clock) * R) := by
  unfold mapA at h
  obtain ⟨es, h⟩ := Bears.ex.1 h
  obtain ⟨clock, h⟩ := Bears.ex.1 h
  rw [Assn.mul_assoc'] at h
  obtain ⟨h1, h2⟩ := Bears.fact.1 h
  exact ⟨es, clock, h1, h2⟩

theorem Bears.toMapA {w : World} {b : Nat} {l : List (Int × Value)} {R : Assn} {es : Array MapEntry} {clock : Nat} (h : Bears w (Assn.obj b (.map es clock) * R)) (hm : MapIs es clock l) : Bears w (mapA b l * R) := by
  unfold mapA
  refine Bears.ex.2 ⟨es, Bears.ex.2 ⟨clock, ?_⟩⟩
  rw [Assn.mul_assoc']
  exact Bears.fact.2 ⟨hm, h⟩

end Go.Proofs.Ytggbnelbnbaoiaa

/- Bytes in memory; rows that a slice owns; no condition. -/
namespace Go.Proofs.Ytggbnelbnbaoiaa
open Go.RowKit Go.MapKept

abbrev byteV (u : UInt8) : Value := .int .u8 (u.toNat : Int)
def cellsV (l : List UInt8) : List Value := l.map byteV
/-- An array of bytes. -/
def secV (l : List UInt8) : Value := .agg (cellsV l).toArray

@[simp] theorem length_cellsV (l : List UInt8) : (cellsV l).length = l.length := by simp [cellsV]
theorem byteV_inj {a b : UInt8} (h : byteV a = byteV b) : a = b := by
  unfold byteV at h
  simp only [Value.int.injEq, true_and] at h
  exact UInt8.toNat_inj.1 (by omega)
theorem cellsV_inj {a b : List UInt8} (h : cellsV a = cellsV b) : a = b := by
  unfold cellsV at h
  exact List.map_inj_right (fun x y h => byteV_inj h) |>.1 h
theorem oneCell_cellsV (l : List UInt8) : ∀ v ∈ cellsV l, v.oneCell' = true := by
  intro v hv
  obtain ⟨u, _, rfl⟩ := List.mem_map.1 hv
  rfl

/-- The slice v reads as the bytes l. -/
def BytesIn (w : World) (v : Value) (l : List UInt8) : Prop :=
  ∃ ad cap, v = .slice ad l.length cap ∧ (l ≠ [] → ∃ b o, ad = some ⟨b, o, none⟩ ∧ w.rangeAt b o (cellsV l))

theorem BytesIn.at {w : World} {ad : Option Addr} {n cap : Nat} {l : List UInt8} (h : BytesIn w (.slice ad n cap) l) (hl : l ≠ []) : ∃ b o, ad = some ⟨b, o, none⟩ ∧ w.rangeAt b o (cellsV l) := by
  obtain ⟨ad', cap', hv, hr⟩ := h
  simp only [Value.slice.injEq] at hv
  obtain ⟨rfl, _, _⟩ := hv
  exact hr hl
theorem BytesIn.cell {w : World} {ad : Option Addr} {n cap : Nat} {l : List UInt8} (h : BytesIn w (.slice ad n cap) l) {j : Nat} (hj : j < l.length) : ∃ b o, ad = some ⟨b, o, none⟩ ∧ w.cell? ⟨b, o + j, none⟩ = some (byteV (l.getD j 0)) := by
  obtain ⟨b, o, e, hr⟩ := h.at (by intro e; simp [e] at hj)
  refine ⟨b, o, e, hr j _ ?_⟩
  simp [cellsV, hj]
theorem BytesIn.len {w : World} {ad : Option Addr} {n cap : Nat} {l : List UInt8} (h : BytesIn w (.slice ad n cap) l) : n = l.length := by
  obtain ⟨ad', cap', hv, hr⟩ := h
  simp only [Value.slice.injEq] at hv
  exact hv.2.1

/-- The slice v reads as the ints l. -/
def IntsIn (w : World) (v : Value) (l : List Int) : Prop :=
  ∃ ad cap, v = .slice ad l.length cap ∧ (l ≠ [] → ∃ b o, ad = some ⟨b, o, none⟩ ∧ w.rangeAt b o (l.map (Value.int .i64)))
theorem IntsIn.at {w : World} {ad : Option Addr} {n cap : Nat} {l : List Int} (h : IntsIn w (.slice ad n cap) l) (hl : l ≠ []) : ∃ b o, ad = some ⟨b, o, none⟩ ∧ w.rangeAt b o (l.map (Value.int .i64)) := by
  obtain ⟨ad', cap', hv, hr⟩ := h
  simp only [Value.slice.injEq] at hv
  obtain ⟨rfl, _, _⟩ := hv
  exact hr hl

theorem IntsIn.cell {w : World} {b o n cap : Nat} {l : List Int} (h : IntsIn w (.slice (some ⟨b, o, none⟩) n cap) l) {j : Nat} (hj : j < l.length) : w.cell? ⟨b, o + j, none⟩ = some (.int .i64 (l.getD j 0)) := by
  obtain ⟨b', o', e, hr⟩ := h.at (by intro e; simp [e] at hj)
  cases e
  refine hr j _ ?_
  simp [hj]

/-- A row that a slice owns. -/
def rowA (e : TypeId) (size : Nat) (v : Value) (n : Nat) (xs : List Value) : Assn where
  holds w F := w.ownsRow 0 e size v n xs ∧ F = fun b => v.ownBlock = some b
  lt := by
    rintro w F ⟨h, rfl⟩ b hb
    exact (h.lt b hb).2
  loc := by
    rintro w w' F ⟨h, rfl⟩ hm hs
    refine ⟨⟨h.1, ?_⟩, rfl⟩
    rcases h.2 with hn | ⟨g, cap, cur, rfl, hb, hg, r⟩
    · exact .inl hn
    · exact .inr ⟨g, cap, cur, rfl, hb, (hs g rfl).trans hg, r⟩

theorem Bears.row {w : World} {e : TypeId} {size : Nat} {v : Value} {n : Nat} {xs : List Value} {R : Assn} (h : Bears w (rowA e size v n xs * R)) : w.ownsRow 0 e size v n xs := by
  obtain ⟨F, G, H, ⟨h, rfl⟩, _⟩ := h; exact h

theorem Bears.nilRow {w : World} {e : TypeId} {size : Nat} {R : Assn} : Bears w (rowA e size (.slice none 0 0) 0 [] * R) ↔ Bears w R := by
  constructor
  · exact fun h => h.right
  · rintro ⟨H, hR⟩
    exact ⟨_, _, H, ⟨World.ownsRow_nil _ _ _ _, rfl⟩, hR, fun b h1 _ => by simp [Value.ownBlock] at h1, rfl⟩

/-- The rows that a slice owns, one by one. -/
theorem Bears.rowForm {w : World} {e : TypeId} {size : Nat} {v : Value} {n : Nat} {xs : List Value} {R : Assn} (h : Bears w (rowA e size v n xs * R)) :
    ∃ a c, v = .slice a n c ∧ n ≤ c ∧ c ≤ maxLen ∧ ∀ k, k < n → ∃ g, a = some ⟨g, 0, none⟩ ∧ w.rangeAt g (k * size) ((xs.drop (k * size)).take size) := by
  obtain ⟨hl, h⟩ := h.row
  rcases h with ⟨rfl, rfl⟩ | ⟨g, cap, cur, rfl, _, hg, hn, hm, hs, ht⟩
  · exact ⟨none, 0, rfl, Nat.le_refl _, Nat.zero_le _, fun k hk => absurd hk (Nat.not_lt_zero k)⟩
  · refine ⟨_, cap, rfl, hn, hm, fun k _ => ⟨g, rfl, fun j v hv => ?_⟩⟩
    rw [cell_of_obj hg]
    rw [← ht, List.getElem?_take, List.getElem?_drop, List.getElem?_take] at hv
    split at hv
    · split at hv
      · simpa using hv
      · cases hv
    · cases hv

theorem Bears.rowAt {w : World} {e : TypeId} {size : Nat} {a : Option Addr} {c n : Nat} {xs : List Value} {R : Assn} (h : Bears w (rowA e size (.slice a n c) n xs * R)) {k : Nat} (hk : k < n) :
    ∃ g, a = some ⟨g, 0, none⟩ ∧ w.rangeAt g (k * size) ((xs.drop (k * size)).take size) := by
  obtain ⟨a', c', hv, _, _, hr⟩ := h.rowForm
  simp only [Value.slice.injEq] at hv
  obtain ⟨rfl, _, rfl⟩ := hv
  exact hr k hk

/-- Behind an append to a row. -/
theorem Bears.appended {w w' : World} {e : TypeId} {size : Nat} {v v' : Value} {n n' : Nat} {xs xs' : List Value} {R : Assn} (h : Bears w (rowA e size v n xs * R))
    (ho : w'.ownsRow 0 e size v' n' xs') (hg : w.grownBy w' v.ownBlock) (hl : v'.ownBlock = v.ownBlock ∨ v'.ownBlock = some w.heap.size) : Bears w' (rowA e size v' n' xs' * R) := by
  obtain ⟨F, G, H, ⟨h, rfl⟩, hR, hd, rfl⟩ := h
  refine ⟨_, _, H, ⟨ho, rfl⟩, R.loc hR ⟨hg.os, hg.tape, hg.output, hg.size⟩ (fun b hb => hg.block b (R.lt hR b hb) (fun e => hd b e.symm hb)), fun b h1 h2 => ?_, rfl⟩
  rcases hl with hl | hl
  · exact hd b (hl ▸ h1) h2
  · have h3 := R.lt hR b h2
    rw [hl] at h1
    cases h1
    omega

/-- Cells, set one behind the other. -/
def setList (c : Array Value) : Nat → List Value → Array Value
  | _, [] => c
  | o, v :: r => setList (c.setIfInBounds o v) (o + 1) r

theorem Bears.setCells {b : Nat} {t : TypeId} {fz : Nat × Nat} {R : Assn} : ∀ (o : Nat) (vs : List Value) {w : World} {c : Array Value}, Bears w (Assn.obj b (.cells c t fz) * R) →
    Bears (w.setCells b o vs) (Assn.obj b (.cells (setList c o vs) t fz) * R)
  | _, [], _, _, h => h
  | o, v :: r, _, _, h => Bears.setCells (o + 1) r (h.setCell v)

theorem setList_toList : ∀ (vs : List Value) (o : Nat) (c : Array Value), o + vs.length ≤ c.size → (setList c o vs).toList = c.toList.take o ++ vs ++ c.toList.drop (o + vs.length)
  | [], o, c, _ => by simp [setList]
  | v :: r, o, c, h => by
    simp only [List.length_cons] at h
    simp only [setList]
    rw [setList_toList r (o + 1) (c.setIfInBounds o v) (by simp; omega)]
    simp only [Array.toList_setIfInBounds, List.length_cons]
    rw [List.take_succ_eq_append_getElem (by simp; omega), List.take_set_of_le (by omega), List.drop_set_of_lt (by omega)]
    simp only [List.getElem_set_self, List.append_assoc, List.cons_append, List.nil_append]
    rw [show o + 1 + r.length = o + (r.length + 1) by omega]

theorem size_setList : ∀ (vs : List Value) (o : Nat) (c : Array Value), (setList c o vs).size = c.size
  | [], _, _ => rfl
  | v :: r, o, c => by simp only [setList]; rw [size_setList r (o + 1)]; simp

theorem setList_all (c cs : Array Value) (h : cs.size = c.size) : setList c 0 cs.toList = cs := by
  apply Array.toList_inj.1
  rw [setList_toList _ _ _ (by simp [h])]
  simp [h]

/-- A whole object of cells: what it reads as. -/
theorem rangeAt_of_obj {w : World} {b : Nat} {c : Array Value} {t : TypeId} {fz : Nat × Nat} (h : w.heap[b]? = some (.cells c t fz)) : w.rangeAt b 0 c.toList := by
  intro j v hv
  rw [cell_of_obj h]
  simpa using hv

theorem rangeAt_block {w w' : World} {b o : Nat} {cs : List Value} (h : w.rangeAt b o cs) (e : w'.heap[b]? = w.heap[b]?) : w'.rangeAt b o cs := by
  intro j v hv
  rw [World.cell?_of_block (a := ⟨b, o + j, none⟩) e]
  exact h j v hv
theorem rangeAt_lt {w : World} {b o : Nat} {cs : List Value} (h : w.rangeAt b o cs) (hne : cs ≠ []) : b < w.heap.size := by
  cases cs with
  | nil => exact absurd rfl hne
  | cons c cs => exact World.block_lt_of_cell? w ⟨b, o + 0, none⟩ (h 0 c rfl)
theorem rangeAt_alloc {w : World} {b o : Nat} {cs : List Value} (h : w.rangeAt b o cs) (hne : cs ≠ []) (ob : Obj) : (w.alloc ob).rangeAt b o cs :=
  rangeAt_block h (Below.heap_alloc _ _ _ (rangeAt_lt h hne))
theorem rangeAt_tail {w : World} {b o : Nat} {c : Value} {cs : List Value} (h : w.rangeAt b o (c :: cs)) : w.rangeAt b (o + 1) cs := by
  intro j v hv
  rw [show o + 1 + j = o + (j + 1) by omega]
  exact h (j + 1) v (by simpa using hv)
theorem rangeAt_drew {w : World} {b o : Nat} {cs : List Value} (h : w.rangeAt b o cs) : w.drew.rangeAt b o cs := h

theorem BytesIn.obj' {w : World} {b : Nat} {l : List UInt8} {t : TypeId} {fz : Nat × Nat} (h : w.heap[b]? = some (.cells (cellsV l).toArray t fz)) (cap : Nat) : BytesIn w (.slice (some ⟨b, 0, none⟩) l.length cap) l :=
  ⟨_, cap, rfl, fun _ => ⟨b, 0, rfl, by simpa using rangeAt_of_obj h⟩⟩

theorem BytesIn.tells {g : Nat} {l : List UInt8} {t : TypeId} {fz : Nat × Nat} {R : Assn} (n cap : Nat) (hn : n = l.length) : (Assn.obj g (.cells (cellsV l).toArray t fz) * R).Tells (fun w => BytesIn w (.slice (some ⟨g, 0, none⟩) n cap) l) := by
  intro w h
  subst hn
  exact ⟨_, cap, rfl, fun _ => ⟨g, 0, rfl, by have := rangeAt_of_obj h.obj; simpa using this⟩⟩

theorem IntsIn.tells {g : Nat} {l : List Int} {t : TypeId} {fz : Nat × Nat} {R : Assn} (n cap : Nat) (hn : n = l.length) : (Assn.obj g (.cells (l.map (Value.int .i64)).toArray t fz) * R).Tells (fun w => IntsIn w (.slice (some ⟨g, 0, none⟩) n cap) l) := by
  intro w h
  subst hn
  exact ⟨_, cap, rfl, fun _ => ⟨g, 0, rfl, by have := rangeAt_of_obj h.obj; simpa using this⟩⟩

theorem IntsIn.nil {R : Assn} (cap : Nat) : R.Tells (fun w => IntsIn w (.slice none 0 cap) []) := fun _ _ => ⟨none, cap, rfl, fun h => absurd rfl h⟩

end Go.Proofs.Ytggbnelbnbaoiaa

/- The disk: a plain model of it, and how it lies in memory; no condition. -/
namespace Go.Proofs.Ytggbnelbnbaoiaa
open Go.RowKit Go.MapKept

abbrev Sec := List UInt8
def zeroSec : Sec := List.replicate 64 0

structure DiskM where
  len : Nat
  sure : Nat → Sec
  waits : List (Nat × Sec)
  off : Bool
  fuse : Int
  steps : Int

def updS (f : Nat → Sec) (i : Nat) (s : Sec) : Nat → Sec := fun j => if j = i then s else f j
def settle (f : Nat → Sec) (l : List (Nat × Sec)) : Nat → Sec := l.foldl (fun f p => updS f p.1 p.2) f
def DiskM.now (d : DiskM) : Nat → Sec := settle d.sure d.waits

/-- Why a sector can't be asked for. -/
def DiskM.check (d : DiskM) (i : Int) : Int := if d.off then 2 else if i < 0 ∨ (d.len : Int) ≤ i then 10 else 0
/-- A step. -/
def DiskM.step (d : DiskM) : Int × DiskM :=
  if d.fuse = 0 then (2, { d with off := true, fuse := -1 })
  else (0, { d with fuse := if 0 < d.fuse then d.fuse - 1 else d.fuse, steps := wrap64 (d.steps + 1) })
def DiskM.write (d : DiskM) (i : Int) (b : Sec) : Int × DiskM :=
  if d.check i ≠ 0 then (d.check i, d) else if b.length ≠ 64 then (11, d) else
  if d.step.1 ≠ 0 then d.step else (0, { d.step.2 with waits := d.waits ++ [(i.toNat, b)] })
def DiskM.barrier (d : DiskM) : Int × DiskM :=
  if d.off then (2, d) else if d.step.1 ≠ 0 then d.step else (0, { d.step.2 with sure := d.now, waits := [] })
def DiskM.setFuse (d : DiskM) (n : Int) : DiskM := if d.off then d else { d with fuse := max n (-1) }
/-- Is write number k kept? -/
def keeps (keep : List Int) (k : Nat) : Bool := !keep.isEmpty && (keep.getD (k % keep.length) 0) % 2 != 0
theorem tmod_two (x : Int) : (x.tmod 2 != 0) = (x % 2 != 0) := by
  rw [Bool.eq_iff_iff, bne_iff_ne, bne_iff_ne]
  exact ⟨fun h e => h (Int.tmod_eq_zero_of_dvd (Int.dvd_of_emod_eq_zero e)), fun h e => h (Int.emod_eq_zero_of_dvd (Int.dvd_of_tmod_eq_zero e))⟩
/-- Which of the writes that wait are kept. -/
def kept (keep : List Int) : Nat → List (Nat × Sec) → List (Nat × Sec)
  | _, [] => []
  | k, p :: r => if keeps keep k = true then p :: kept keep (k + 1) r else kept keep (k + 1) r
theorem kept_append (keep : List Int) (p : Nat × Sec) : ∀ (l : List (Nat × Sec)) (j : Nat), kept keep j (l ++ [p]) = kept keep j l ++ if keeps keep (j + l.length) = true then [p] else []
  | [], j => by simp [kept]
  | q :: l, j => by
    have e : j + (l.length + 1) = j + 1 + l.length := by omega
    simp only [List.cons_append, kept, List.length_cons, e]
    rw [kept_append keep p l (j + 1)]
    split <;> rfl
theorem kept_sub (keep : List Int) : ∀ (l : List (Nat × Sec)) (j : Nat) (p : Nat × Sec), p ∈ kept keep j l → p ∈ l
  | [], _, _, h => by simp [kept] at h
  | q :: l, j, p, h => by
    simp only [kept] at h
    split at h
    · rcases List.mem_cons.1 h with rfl | h
      · simp
      · exact List.mem_cons_of_mem _ (kept_sub keep l _ p h)
    · exact List.mem_cons_of_mem _ (kept_sub keep l _ p h)
def DiskM.boot (d : DiskM) (keep : List Int) : DiskM :=
  { d with sure := settle d.sure (kept keep 0 d.waits), waits := [], off := false, fuse := -1 }
def DiskM.new (n : Nat) : DiskM := { len := n, sure := fun _ => zeroSec, waits := [], off := false, fuse := -1, steps := 0 }

structure DiskM.WF (d : DiskM) : Prop where
  len : d.len ≤ 8192
  sure : ∀ i, (d.sure i).length = 64
  waits : ∀ p ∈ d.waits, p.1 < d.len ∧ p.2.length = 64
  fuse : -1 ≤ d.fuse ∧ d.fuse < 9223372036854775808
  steps : -9223372036854775808 ≤ d.steps ∧ d.steps < 9223372036854775808

/-- A map of sectors: none is noughts. -/
def SecMap (l : List (Int × Value)) (f : Nat → Sec) : Prop := ∀ i : Nat, (getL (i : Int) l).getD (secV zeroSec) = secV (f i)

theorem SecMap.put {l : List (Int × Value)} {f : Nat → Sec} (h : SecMap l f) (i : Nat) (s : Sec) : SecMap (putL (i : Int) (secV s) l) (updS f i s) := by
  intro j
  rw [getL_putL]
  unfold updS
  by_cases hj : j = i
  · subst hj; simp
  · have : (j : Int) ≠ (i : Int) := by omega
    simp only [this, if_false, hj]
    exact h j

theorem SecMap.nil : SecMap [] (fun _ => zeroSec) := fun _ => rfl

def waitCells (l : List (Nat × Sec)) : List Value := l.flatMap fun p => .int .i64 (p.1 : Int) :: cellsV p.2

theorem settle_length {f : Nat → Sec} (hf : ∀ i, (f i).length = 64) {l : List (Nat × Sec)} (hl : ∀ p ∈ l, p.2.length = 64) (i : Nat) : (settle f l i).length = 64 := by
  induction l generalizing f with
  | nil => exact hf i
  | cons p l ih =>
    refine ih (fun j => ?_) (fun q hq => hl q (by simp [hq]))
    show (updS f p.1 p.2 j).length = 64
    unfold updS
    split
    · exact hl p (by simp)
    · exact hf j

theorem settle_append (f : Nat → Sec) (l : List (Nat × Sec)) (p : Nat × Sec) : settle f (l ++ [p]) = updS (settle f l) p.1 p.2 := by
  unfold settle
  rw [List.foldl_append]
  rfl

/-- The disk's own object. -/
abbrev diskObj (p : Nat) (d : DiskM) (ms mn : Nat) (wv : Value) : Assn :=
  Assn.obj p (.cells #[.int .i64 d.len, .map (some ms), .map (some mn), wv, .bool d.off, .int .i64 d.fuse, .int .i64 d.steps] 130 (0, 0))

/-- How a disk lies in memory. -/
def diskA (p : Nat) (d : DiskM) : Assn :=
  Assn.ex fun (x : Nat × Nat × Value × List (Int × Value) × List (Int × Value)) =>
    Assn.fact (d.WF ∧ SecMap x.2.2.2.1 d.sure ∧ SecMap x.2.2.2.2 d.now) *
    (diskObj p d x.1 x.2.1 x.2.2.1 *
    (rowA 159 65 x.2.2.1 d.waits.length (waitCells d.waits) * (mapA x.1 x.2.2.2.1 * mapA x.2.1 x.2.2.2.2)))

theorem Bears.disk {w : World} {p : Nat} {d : DiskM} {R : Assn} : Bears w (diskA p d * R) ↔ ∃ ms mn wv ls ln, d.WF ∧ SecMap ls d.sure ∧ SecMap ln d.now ∧
    Bears w (diskObj p d ms mn wv *
      (rowA 159 65 wv d.waits.length (waitCells d.waits) * (mapA ms ls * (mapA mn ln * R)))) := by
  unfold diskA
  rw [Bears.ex]
  simp only [Assn.mul_assoc']
  constructor
  · rintro ⟨⟨ms, mn, wv, ls, ln⟩, h⟩
    obtain ⟨⟨h1, h2, h3⟩, h⟩ := Bears.fact.1 h
    exact ⟨ms, mn, wv, ls, ln, h1, h2, h3, h⟩
  · rintro ⟨ms, mn, wv, ls, ln, h1, h2, h3, h⟩
    exact ⟨⟨ms, mn, wv, ls, ln⟩, Bears.fact.2 ⟨⟨h1, h2, h3⟩, h⟩⟩

end Go.Proofs.Ytggbnelbnbaoiaa

/- Laws at the operations of a walk, over separate pieces of memory; no condition. -/
namespace Go.Proofs.Ytggbnelbnbaoiaa
open Go.RowKit Go.MapKept

section
variable {P : Program} {w : World} {ops : Array Oper} {rest : List Oper} {o : Oper} {a : Act} {Q : Exit → Act → World → Prop} {R : Assn}

theorem run_mapUpdate_bears {t kt et : TypeId} {b : Nat} {l : List (Int × Value)} (ht : P.underlying t = some (.map kt et)) (hk : P.underlying kt = some (.int .i64)) (h : Bears w (mapA b l * R)) (x : Int) (v : Value) :
    ∃ w', (Instr.mapUpdate t (.map (some b)) (.int .i64 x) v).run P w = .ok () w' ∧ Bears w' (mapA b (putL x v l) * R) := by
  obtain ⟨es, clock, hm, h⟩ := h.ofMapA
  obtain ⟨es', clock', hrun, hm'⟩ := run_mapUpdate_int ht hk h.obj hm x v
  exact ⟨_, hrun, (h.setObj _).toMapA hm'⟩

theorem wp_mapUpdate_bears {K : Act → World → Prop} {m x v : Operand} {t kt et : TypeId} {b : Nat} {l : List (Int × Value)} {key : Int} {val : Value} (hop : o.op = .mapUpdate t m x v)
    (ht : P.underlying t = some (.map kt et)) (hk : P.underlying kt = some (.int .i64)) (h : Bears w (mapA b l * R))
    (hm : a.eval m = .map (some b)) (hx : a.eval x = .int .i64 key) (hv : a.eval v = val)
    (hK : ∀ w', Bears w' (mapA b (putL key val l) * R) → K (a.put o.dst undef) w') : o.wp P a w K Q := by
  obtain ⟨w', hrun, h'⟩ := run_mapUpdate_bears (R := R) ht hk h key val
  unfold Oper.wp
  simp [execOp, hop, hm, hx, hv, hrun, Result.andThen]
  exact hK w' h'

theorem wpList_mapUpdate_bears {m x v : Operand} {t kt et : TypeId} {b : Nat} {l : List (Int × Value)} {key : Int} {val : Value} (h : Bears w (mapA b l * R)) (hg : o.guard = none) (hop : o.op = .mapUpdate t m x v)
    (ht : P.underlying t = some (.map kt et)) (hk : P.underlying kt = some (.int .i64))
    (hm : a.eval m = .map (some b)) (hx : a.eval x = .int .i64 key) (hv : a.eval v = val)
    (hK : ∀ w', Bears w' (mapA b (putL key val l) * R) → wpList P ops Q rest (a.put o.dst undef) w') : wpList P ops Q (o :: rest) a w :=
  wpList_plain hg fun _ hK' => wp_mapUpdate_bears (R := R) hop ht hk h hm hx hv fun w' h' => hK' _ _ (hK w' h')

theorem run_append_bears {t ty e : TypeId} {i : TypeInfo} {z : Value} {size bytes : Nat} (ht : P.underlying t = some (.slice e)) (hi : P.info? e = some i) (hz : i.zero = some z)
    (hsize : i.size = size) (hby : i.bytes = bytes) (hzs : z.cells.size = size) (hsz : 0 < size)
    {v : Value} {n : Nat} {xs : List Value} (h : Bears w (rowA e size v n xs * R))
    {ad : Addr} {m c : Nat} {news : List Value} (hl : news.length = m * size) (hnews : ∀ j u, news[j]? = some u → w.cell? (ad.add j) = some u) (h1 : ∀ u ∈ news, u.oneCell' = true)
    (h63 : n + m ≤ maxLen) (hbytes : (n + m) * bytes ≤ 140737488355328) :
    ∃ a' c' w', (Builtin.append_ #[t, t] ty #[v, .slice (some ad) m c]).run P w = .ok (.slice a' (n + m) c') w' ∧ Bears w' (rowA e size (.slice a' (n + m) c') (n + m) (xs ++ news) * R) := by
  obtain ⟨v', w', hr, h2, h3, _, h5⟩ := run_append_own_at (P := P) w 0 t ty e i z size bytes ht hi hz hsize hby hzs hsz v n xs h.row ad m c news hl hnews h1 h63 hbytes (Nat.zero_le _)
  obtain ⟨a', c', rfl⟩ : ∃ a' c', v' = .slice a' (n + m) c' := by
    rcases h2.2 with ⟨rfl, h0⟩ | ⟨g, cap, cur, rfl, _⟩
    · exact ⟨none, 0, by rw [h0]⟩
    · exact ⟨_, _, rfl⟩
  exact ⟨a', c', w', hr, h.appended h2 h3 h5⟩

theorem wp_append_bears {K : Act → World → Prop} {s x : Operand} {t e : TypeId} {i : TypeInfo} {z : Value} {size bytes : Nat} {v : Value} {n : Nat} {xs : List Value} (h : Bears w (rowA e size v n xs * R))
    (ho : o.op = .call { callee := .builtin .append, args := #[s, x], argTypes := #[t, t] })
    (ht : P.underlying t = some (.slice e)) (hi : P.info? e = some i) (hz : i.zero = some z)
    (hsize : i.size = size) (hby : i.bytes = bytes) (hzs : z.cells.size = size) (hsz : 0 < size) (hs : a.eval s = v)
    {ad : Addr} {m c : Nat} {news : List Value} (hx : a.eval x = .slice (some ad) m c) (hl : news.length = m * size) (hnews : ∀ j u, news[j]? = some u → w.cell? (ad.add j) = some u) (h1 : ∀ u ∈ news, u.oneCell' = true)
    (h63 : n + m ≤ maxLen) (hbytes : (n + m) * bytes ≤ 140737488355328)
    (hK : ∀ a' c' w', Bears w' (rowA e size (.slice a' (n + m) c') (n + m) (xs ++ news) * R) → K (a.put o.dst (.slice a' (n + m) c')) w') : o.wp P a w K Q := by
  obtain ⟨a', c', w', hr, h2⟩ := run_append_bears (ty := o.type) ht hi hz hsize hby hzs hsz h hl hnews h1 h63 hbytes (c := c)
  unfold Oper.wp execOp
  simp only [ho, resolve, invoke, builtin, Sem.run_bind, Sem.run_pure, Result.andThen_ok, List.map_toArray, List.map_cons, List.map_nil, hs, hx, hr]
  exact hK a' c' w' h2

theorem wpList_append_bears {s x : Operand} {t e : TypeId} {i : TypeInfo} {z : Value} {size bytes : Nat} {v : Value} {n : Nat} {xs : List Value} (h : Bears w (rowA e size v n xs * R)) (hg : o.guard = none)
    (ho : o.op = .call { callee := .builtin .append, args := #[s, x], argTypes := #[t, t] })
    (ht : P.underlying t = some (.slice e)) (hi : P.info? e = some i) (hz : i.zero = some z)
    (hsize : i.size = size) (hby : i.bytes = bytes) (hzs : z.cells.size = size) (hsz : 0 < size) (hs : a.eval s = v)
    {ad : Addr} {m c : Nat} {news : List Value} (hx : a.eval x = .slice (some ad) m c) (hl : news.length = m * size) (hnews : ∀ j u, news[j]? = some u → w.cell? (ad.add j) = some u) (h1 : ∀ u ∈ news, u.oneCell' = true)
    (h63 : n + m ≤ maxLen) (hbytes : (n + m) * bytes ≤ 140737488355328)
    (hK : ∀ a' c' w', Bears w' (rowA e size (.slice a' (n + m) c') (n + m) (xs ++ news) * R) → wpList P ops Q rest (a.put o.dst (.slice a' (n + m) c')) w') : wpList P ops Q (o :: rest) a w :=
  wpList_plain hg fun _ hK' => wp_append_bears h ho ht hi hz hsize hby hzs hsz hs hx hl hnews h1 h63 hbytes fun a' c' w' h' => hK' _ _ (hK a' c' w' h')

/-- A look-up. -/
theorem wpList_lookup_bears {m x : Operand} {t kt et : TypeId} {b : Nat} {l : List (Int × Value)} {key : Int} {z : Value} (h : Bears w (mapA b l * R)) (hg : o.guard = none) (hop : o.op = .lookup t m x false)
    (ht : P.underlying t = some (.map kt et)) (hk : P.underlying kt = some (.int .i64)) (hz : (zeroValue et).run P w = .ok z w)
    (hm : a.eval m = .map (some b)) (hx : a.eval x = .int .i64 key)
    (hK : wpList P ops Q rest (a.put o.dst ((getL key l).getD z)) w) : wpList P ops Q (o :: rest) a w := by
  obtain ⟨es, clock, hm', h'⟩ := h.ofMapA
  have hrun := run_lookup_int ht hk hz h'.obj hm' key
  refine wpList_plain hg fun _ hK' => ?_
  unfold Oper.wp
  simp [execOp, hop, hm, hx, hrun, Result.andThen]
  exact hK' _ _ hK

/-- A new variable of a type of many cells. -/
theorem wpList_alloc_z {t : TypeId} {z : Value} (hg : o.guard = none) (hop : o.op = .alloc t) (hz : (zeroValue t).run P w = .ok z w)
    (hK : wpList P ops Q rest (a.put o.dst (.pointer (some ⟨w.heap.size, 0, none⟩))) (w.alloc (.cells z.cells t))) : wpList P ops Q (o :: rest) a w := by
  refine wpList_plain hg fun _ hK' => ?_
  unfold Oper.wp
  simp [execOp, hop, Instr.alloc, newVar, newRow, newObj, hz, Result.andThen, Sem.run]
  exact hK' _ _ hK

/-- A store of a whole object. -/
theorem wpList_store_obj {t t' : TypeId} {x y : Operand} {b : Nat} {c cs : Array Value} (h : Bears w (Assn.obj b (.cells c t' (0, 0)) * R)) (hg : o.guard = none) (hop : o.op = .store t x y) (hx : a.eval x = .pointer (some ⟨b, 0, none⟩)) (hy : a.eval y = .agg cs)
    (hs : cs.size = c.size) (hi : (P.info? t).map (·.size) = some c.size) (h1 : ∀ v ∈ cs.toList, v.oneCell' = true)
    (hK : ∀ w', Bears w' (Assn.obj b (.cells cs t' (0, 0)) * R) → wpList P ops Q rest (a.put o.dst undef) w') : wpList P ops Q (o :: rest) a w := by
  have hb := h.obj
  refine wpList_store_mid hg t x y hop b 0 cs hx hy (fun j hj => ⟨?_, frozen_of_obj hb _⟩) (by rw [hi, hs]) (Array.all_eq_true_iff_forall_mem.2 (fun v hv => h1 v (Array.mem_toList_iff.2 hv))) (hK _ ?_)
  · rw [cell_of_obj hb]; simp; omega
  · have := h.setCells 0 cs.toList
    rwa [setList_all _ _ (by simpa using hs)] at this

theorem wpStill_yield {Qs : Act → Prop} {v : Value} (hg : o.guard = none) (hrun : (execOp a.eval o).run P w = .ok (.value v) w) (h : wpStill P ops w Qs rest (a.put o.dst v)) : wpStill P ops w Qs (o :: rest) a := by
  unfold wpStill
  rw [if_pos (by simp [Region.wanted, hg])]
  unfold Oper.still
  rw [hrun]
  exact ⟨rfl, h⟩

theorem wpStill_load_mid {Qs : Act → Prop} (ty : TypeId) (x : Operand) (hg : o.guard = none) (ho : o.op = .load ty x) (b off : Nat) (hx : a.eval x = .pointer (some ⟨b, off, none⟩)) (cs : List Value) (d : TypeDesc) (hc : w.rangeAt b off cs)
    (hu : P.underlying ty = some d) (hd : d.isRow = true) (hi : (P.info? ty).map (·.size) = some cs.length)
    (h : wpStill P ops w Qs rest (a.put o.dst (.agg cs.toArray))) : wpStill P ops w Qs (o :: rest) a := by
  refine wpStill_yield hg ?_ h
  unfold execOp
  simp only [ho, hx, Instr.loadAt, Instr.sureAddr, Sem.run_bind, Sem.run_pure, Result.andThen_ok, run_loadVar_mid w b off ty cs d hc hu hd hi]

/-- A region that draws its order: what only reads and reckons comes first, in whatever order; then the last operations in theirs. -/
theorem wp_region_tail {id : Nat} {l : List Oper} (n : Nat) (hm : P.follows .mixedOrders = true) (hB : Region.lexTailB .any l.toArray n = true)
    (h : wpStill P l.toArray w.drew (fun a' => wpList P l.toArray Q (l.drop n) a' w.drew) (l.take n) a) : (Code.region id l.toArray true).wp P Q a w :=
  wp_region_still_tail n hm hB h

/-- At a step of a region that draws its order. -/
theorem step_append_bears {K : Act → World → Prop} {E : Prop} {s x : Operand} {t e : TypeId} {i : TypeInfo} {z : Value} {size bytes : Nat} {v : Value} {n : Nat} {xs : List Value} (h : Bears w (rowA e size v n xs * R)) (hg : o.guard = none)
    (ho : o.op = .call { callee := .builtin .append, args := #[s, x], argTypes := #[t, t] })
    (ht : P.underlying t = some (.slice e)) (hi : P.info? e = some i) (hz : i.zero = some z)
    (hsize : i.size = size) (hby : i.bytes = bytes) (hzs : z.cells.size = size) (hsz : 0 < size) (hs : a.eval s = v)
    {ad : Addr} {m c : Nat} {news : List Value} (hx : a.eval x = .slice (some ad) m c) (hl : news.length = m * size) (hnews : ∀ j u, news[j]? = some u → w.cell? (ad.add j) = some u) (h1 : ∀ u ∈ news, u.oneCell' = true)
    (h63 : n + m ≤ maxLen) (hbytes : (n + m) * bytes ≤ 140737488355328)
    (hK : ∀ a' c' w', Bears w' (rowA e size (.slice a' (n + m) c') (n + m) (xs ++ news) * R) → K (a.put o.dst (.slice a' (n + m) c')) w') :
    if Region.wanted o (yielded ops a.tmps) = true then Oper.wp P o a w K Q else E := by
  have hw : Region.wanted o (yielded ops a.tmps) = true := by simp [Region.wanted, hg]
  rw [if_pos hw]
  exact wp_append_bears h ho ht hi hz hsize hby hzs hsz hs hx hl hnews h1 h63 hbytes hK
end

end Go.Proofs.Ytggbnelbnbaoiaa

/- Walks of the disk's functions, part 1; no condition. -/
namespace Go.Proofs.Ytggbnelbnbaoiaa
open Go.RowKit Go.MapKept

theorem disk_cells {w : World} {p : Nat} {c : Array Value} {t : TypeId} {R : Assn} (h : Bears w (Assn.obj p (.cells c t (0, 0)) * R)) : (∀ i, w.cell? ⟨p, i, none⟩ = c[i]?) ∧ (∀ i, w.frozen? ⟨p, i, none⟩ = false) :=
  ⟨fun i => cell_of_obj h.obj i, fun i => frozen_of_obj h.obj i⟩

set_option maxHeartbeats 400000 in
theorem check_any {p : Nat} {d : DiskM} {R : Assn} {w : World} (h : Bears w (diskA p d * R)) (i : Int) :
    Calls Try.prog 103 #[.pointer (some ⟨p, 0, none⟩), .int .i64 i] w fun e w' => e = .returned (.int .i64 (d.check i)) ∧ w = w' := by
  obtain ⟨ms, mn, wv, ls, ln, hwf, hs, hn, h⟩ := Bears.disk.1 h
  obtain ⟨hc, _⟩ := disk_cells h
  have c0 := hc 0
  have c4 := hc 4
  simp at c0 c4
  have hl := hwf.len
  clear hc
  by_cases ho : d.off = true
  · go_enter Try.func103, Try.ntmps103
    go_wp2
    go_ret
    exact ⟨by simp [DiskM.check, ho], rfl⟩
  · have ho : d.off = false := by simpa using ho
    by_cases h1 : i < 0
    · go_enter Try.func103, Try.ntmps103
      go_wp2
      go_ret
      exact ⟨by simp [DiskM.check, ho, h1], rfl⟩
    · by_cases h2 : (d.len : Int) ≤ i
      · go_enter Try.func103, Try.ntmps103
        go_wp2
        go_ret
        exact ⟨by simp [DiskM.check, ho, h2], rfl⟩
      · go_enter Try.func103, Try.ntmps103
        go_wp2
        go_ret
        exact ⟨by simp [DiskM.check, ho, h1, h2], rfl⟩

set_option maxHeartbeats 400000 in
theorem step_any {p : Nat} {d : DiskM} {R : Assn} {w : World} (h : Bears w (diskA p d * R)) :
    Calls Try.prog 116 #[.pointer (some ⟨p, 0, none⟩)] w fun e w' => e = .returned (.int .i64 d.step.1) ∧ Bears w' (diskA p d.step.2 * R) := by
  obtain ⟨ms, mn, wv, ls, ln, hwf, hs, hn, h⟩ := Bears.disk.1 h
  obtain ⟨hc, hf⟩ := disk_cells h
  have c4 := hc 4
  have c5 := hc 5
  have c6 := hc 6
  have f4 := hf 4
  have f5 := hf 5
  have f6 := hf 6
  simp at c4 c5 c6
  have hl := hwf.len
  have hfu := hwf.fuse
  have hst := hwf.steps
  clear hc hf
  by_cases h0 : d.fuse = 0
  · have Hd : DiskM.step d = (2, { d with off := true, fuse := -1 }) := by simp [DiskM.step, h0]
    have H0 : (d.fuse == 0) = true := by simp [h0]
    have hd := Lib.hid Hd
    clear h0 Hd
    go_enter Try.func116, Try.ntmps116
    go_wp2
    go_ret
    rw [hd.out]
    refine ⟨rfl, Bears.disk.2 ⟨ms, mn, wv, ls, ln, ⟨hl, hwf.sure, hwf.waits, by simp, hst⟩, hs, hn, ?_⟩⟩
    exact ((h.setCell (i := 4) _).setCell (i := 5) _).cast (by simp)
  · by_cases h1 : 0 < d.fuse
    · have Hd : DiskM.step d = (0, { d with fuse := d.fuse - 1, steps := wrap64 (d.steps + 1) }) := by simp [DiskM.step, h0, h1]
      have H0 : (d.fuse == 0) = false := by simp [h0]
      have hd := Lib.hid Hd
      clear h0 Hd
      go_enter Try.func116, Try.ntmps116
      go_wp2
      go_ret
      rw [hd.out]
      refine ⟨rfl, Bears.disk.2 ⟨ms, mn, wv, ls, ln, ⟨hl, hwf.sure, hwf.waits, ⟨by simp; omega, by simp; omega⟩, by simp only; unfold wrap64; omega⟩, hs, hn, ?_⟩⟩
      exact ((h.setCell (i := 5) _).setCell (i := 6) _).cast (by simp)
    · have Hd : DiskM.step d = (0, { d with steps := wrap64 (d.steps + 1) }) := by simp [DiskM.step, h0, h1]
      have H0 : (d.fuse == 0) = false := by simp [h0]
      have hd := Lib.hid Hd
      clear h0 Hd
      go_enter Try.func116, Try.ntmps116
      go_wp2
      go_ret
      rw [hd.out]
      refine ⟨rfl, Bears.disk.2 ⟨ms, mn, wv, ls, ln, ⟨hl, hwf.sure, hwf.waits, hfu, by simp only; unfold wrap64; omega⟩, hs, hn, ?_⟩⟩
      exact (h.setCell (i := 6) _).cast (by simp)

end Go.Proofs.Ytggbnelbnbaoiaa

/- A statement whose order Go leaves open, walked once in one order; no condition. -/
namespace Go.Proofs.Ytggbnelbnbaoiaa
open Go.RowKit Go.MapKept

section
variable {P : Program} {ops : Array Oper} {Q : Exit → Act → World → Prop} {S : World → Prop} {md : Region.Mode} {C : Act → World → Prop}

/-- The order in which a region's operations are walked, up to a phase's end: 'true': an operation that only reads or reckons, taken as soon as it may; 'false': the only one that may come now. -/
def schedB (md : Region.Mode) (ops : Array Oper) : List (Bool × Nat) → Array Bool → Option (Array Bool)
  | [], listed => some listed
  | (true, i) :: r, listed => if (Region.ready md ops listed).contains i && Region.free md ops listed i then schedB md ops r (listed.setIfInBounds i true) else none
  | (false, i) :: r, listed => if decide (Region.ready md ops listed = [i]) then schedB md ops r (listed.setIfInBounds i true) else none

/-- Operation j waits for operation i. -/
def waitsB (md : Region.Mode) (ops : Array Oper) (j i : Nat) : Bool :=
  match ops[j]? with
  | some oj => oj.after.any fun e => Region.binds md e && e.on == i
  | none => true

/-- Whoever comes from n on waits for all that come before. -/
def phaseB (md : Region.Mode) (ops : Array Oper) (n : Nat) : Bool :=
  (List.range ops.size).all fun j => decide (j < n) || (List.range n).all fun i => waitsB md ops j i

/-- The walk in that order: what is 'true' yields the same in every world that meets S; behind what is 'false' S holds. -/
def wpS (P : Program) (ops : Array Oper) (Q : Exit → Act → World → Prop) (S : World → Prop) (C : Act → World → Prop) : List (Bool × Nat) → Act → World → Prop
  | [], a, w => C a w
  | (true, i) :: r, a, w => ∃ o v, ops[i]? = some o ∧ YieldsIf P ops S o v a ∧ wpS P ops Q S C r (a.put o.dst v) w
  | (false, i) :: r, a, w => ∃ o, ops[i]? = some o ∧ Region.wanted o (yielded ops a.tmps) = true ∧ o.wp P a w (fun a' w' => S w' ∧ wpS P ops Q S C r a' w') Q

/-- Whatever order is picked within the phase of the operations below n. -/
def wpPh (P : Program) (md : Region.Mode) (ops : Array Oper) (Q : Exit → Act → World → Prop) (S : World → Prop) (n : Nat) (C : Array Bool → Act → World → Prop) : Nat → Array Bool → Act → World → Prop
  | 0, listed, a, w => C listed a w
  | f + 1, listed, a, w =>
    Region.ready md ops listed ≠ [] ∧ ∀ i ∈ Region.ready md ops listed, i < n ∧ wpOp P ops Q i (fun a' w' => S w' ∧ wpPh P md ops Q S n C f (listed.setIfInBounds i true) a' w') a w

theorem wpAny_of_wpPh {n g : Nat} {C : Array Bool → Act → World → Prop} (hC : ∀ listed a w, C listed a w → wpAny P md ops Q g listed a w) :
    ∀ (f : Nat) (listed : Array Bool) (a : Act) (w : World), wpPh P md ops Q S n C f listed a w → wpAny P md ops Q (f + g) listed a w
  | 0, listed, a, w, h => by rw [Nat.zero_add]; exact hC _ _ _ h
  | f + 1, listed, a, w, h => by
    rw [show f + 1 + g = (f + g) + 1 by omega]
    exact ⟨fun h0 => absurd h0 h.1, fun i hi => wpOp_mono (fun a' w' h' => wpAny_of_wpPh hC f _ a' w' h'.2) (h.2 i hi).2⟩

theorem waitsB_spec {j i : Nat} {oj : Oper} (h : waitsB md ops j i = true) (hj : ops[j]? = some oj) : ∃ e ∈ oj.after, Region.binds md e = true ∧ e.on = i := by
  unfold waitsB at h
  rw [hj] at h
  obtain ⟨e, he, hb⟩ := Array.any_eq_true'.1 h
  simp only [Bool.and_eq_true, beq_iff_eq] at hb
  exact ⟨e, he, hb.1, hb.2⟩

/-- None of the later phase may come while one of the earlier is out. -/
theorem below_of_ready {n i j : Nat} {listed : Array Bool} (hp : phaseB md ops n = true) (hin : i < n) (hun : listed.getD i true = false) (hj : j ∈ Region.ready md ops listed) : j < n := by
  rcases Nat.lt_or_ge j n with h | h
  · exact h
  · obtain ⟨_, oj, hoj, hall⟩ := mem_ready.1 hj
    have h1 := List.all_eq_true.1 hp j (List.mem_range.2 (Array.getElem?_eq_some_iff.1 hoj).1)
    simp only [Bool.or_eq_true, decide_eq_true_eq] at h1
    rcases h1 with h1 | h1
    · omega
    · obtain ⟨e, he, hb, hon⟩ := waitsB_spec (List.all_eq_true.1 h1 i (List.mem_range.2 hin)) hoj
      have h2 := hall e he hb
      rw [hon, getD_both hun] at h2
      cases h2

theorem wpPh_first {n i : Nat} {oi : Oper} {v : Value} {C : Array Bool → Act → World → Prop} (hi : ops[i]? = some oi) (hsel : ∀ (j : Nat) (o : Oper) cs b, ops[j]? = some o → o.op ≠ .select cs b)
    (hQ : ∀ c a w, ¬ Q (.panic c) a w) (hp : phaseB md ops n = true) (hin : i < n) (hdone : ∀ listed a w, C listed a w → ∀ j ∈ Region.ready md ops listed, n ≤ j) :
    ∀ (f : Nat) (listed : Array Bool) (a : Act) (w : World),
      (∀ j oj, ops[j]? = some oj → j ≠ i → listed.getD j true = false → (∀ e ∈ oj.after, Region.binds md e = true → e.on ≠ i) → oi.apart ops oj = true) →
      i ∈ Region.ready md ops listed → YieldsIf P ops S oi v a → S w →
      wpPh P md ops Q S n C f (listed.setIfInBounds i true) (a.put oi.dst v) w → wpPh P md ops Q S n C (f + 1) listed a w := by
  intro f
  induction f with
  | zero =>
    intro listed a w _ hr hy hS H
    have hun := (mem_ready.1 hr).1
    refine ⟨fun h => (by rw [h] at hr; cases hr), fun j hj => ?_⟩
    have hjn := below_of_ready hp hin hun hj
    refine ⟨hjn, ?_⟩
    by_cases hji : j = i
    · subst hji; exact hy.wpOp hi hS ⟨hS, H⟩
    · have := hdone _ _ _ H j (ready_mono hj hji)
      omega
  | succ f ih =>
    intro listed a w hfree hr hy hS H
    have hun := (mem_ready.1 hr).1
    refine ⟨fun h => (by rw [h] at hr; cases hr), fun j hj => ?_⟩
    have hjn := below_of_ready hp hin hun hj
    refine ⟨hjn, ?_⟩
    by_cases hji : j = i
    · subst hji; exact hy.wpOp hi hS ⟨hS, H⟩
    · have h1 := (H.2 j (ready_mono hj hji)).2
      obtain ⟨hjun, oj, hoj, hall⟩ := mem_ready.1 hj
      have hnot : ∀ e ∈ oj.after, Region.binds md e = true → e.on ≠ i := fun e he hb heq => by
        have h1 := hall e he hb
        rw [heq, getD_both hun] at h1
        cases h1
      have h2 := wpOp_putIf hoj (hfree j oj hoj hji hjun hnot) (fun cs b => hsel i oi cs b hi) (fun cs b => hsel j oj cs b hoj) (fun c a w h => absurd h (hQ _ _ _)) hy h1
      have hfree' : ∀ k ok, ops[k]? = some ok → k ≠ i → (listed.setIfInBounds j true).getD k true = false →
          (∀ e ∈ ok.after, Region.binds md e = true → e.on ≠ i) → oi.apart ops ok = true := fun k ok hk hki hun hno => by
        refine hfree k ok hk hki ?_ hno
        by_cases hjk : j = k
        · subst hjk; exact hjun
        · rw [getD_set_ne true hjk] at hun; exact hun
      refine wpOp_mono (fun a' w' h3 => ⟨h3.2.1, ih (listed.setIfInBounds j true) a' w' hfree' (ready_mono hr (Ne.symm hji)) h3.1 h3.2.1 ?_⟩) h2
      rw [Array.setIfInBounds_comm _ _ hji]
      exact h3.2.2

theorem wpPh_of_wpS {n : Nat} (hs : Region.noSelect ops = true) (hQ : ∀ c a w, ¬ Q (.panic c) a w) (hp : phaseB md ops n = true) {C : Act → World → Prop} {fin : Array Bool} (hfin : ∀ j ∈ Region.ready md ops fin, n ≤ j) :
    ∀ (π : List (Bool × Nat)) (listed : Array Bool) (a : Act) (w : World), schedB md ops π listed = some fin → π.all (fun x => decide (x.2 < n)) = true → S w →
    wpS P ops Q S C π a w → wpPh P md ops Q S n (fun listed' a' w' => listed' = fin ∧ C a' w') π.length listed a w
  | [], listed, a, w, hB, _, _, h => ⟨by simpa [schedB] using hB, h⟩
  | (true, i) :: r, listed, a, w, hB, hn, hS, h => by
    obtain ⟨o, v, hi, hy, h⟩ := h
    simp only [List.all_cons, Bool.and_eq_true, decide_eq_true_eq] at hn
    simp only [schedB] at hB
    split at hB
    · rename_i hc
      simp only [Bool.and_eq_true] at hc
      exact wpPh_first hi (Region.noSelect_spec hs) hQ hp hn.1 (fun listed' a' w' h => by rw [h.1]; exact hfin) _ listed a w (Region.free_spec hi hc.2) (by simpa using hc.1) hy hS
        (wpPh_of_wpS hs hQ hp hfin r _ _ _ hB hn.2 hS h)
    · cases hB
  | (false, i) :: r, listed, a, w, hB, hn, hS, h => by
    obtain ⟨o, hi, hg, h⟩ := h
    simp only [List.all_cons, Bool.and_eq_true, decide_eq_true_eq] at hn
    simp only [schedB] at hB
    split at hB
    · rename_i hc
      simp only [decide_eq_true_eq] at hc
      refine ⟨by rw [hc]; simp, fun j hj => ?_⟩
      rw [hc] at hj
      have : j = i := by simpa using hj
      subst this
      refine ⟨hn.1, ?_⟩
      unfold wpOp
      simp only [hi, hg, if_true]
      exact .inl (Oper.wp_mono (fun a' w' h' => ⟨h'.1, wpPh_of_wpS hs hQ hp hfin r _ _ _ hB hn.2 h'.1 h'.2⟩) h)
    · cases hB

/-- All that the kernel reckons of a region and an order. -/
def planB (ops : Array Oper) (n : Nat) (π π' : List (Bool × Nat)) : Bool :=
  Region.noSelect ops && phaseB .any ops n && decide (π.length + π'.length = ops.size) && π.all (fun x => decide (x.2 < n)) && π'.all (fun x => decide (x.2 < ops.size)) &&
  match schedB .any ops π (Array.replicate ops.size false) with
  | none => false
  | some l1 => (Region.ready .any ops l1).all (fun j => decide (n ≤ j)) && match schedB .any ops π' l1 with
    | none => false
    | some l2 => (Region.ready .any ops l2).isEmpty

theorem phaseB_all : phaseB md ops ops.size = true := by
  unfold phaseB
  refine List.all_eq_true.2 (fun j hj => ?_)
  simp [List.mem_range.1 hj]

/-- A region that draws its order, walked in one: its first phase (the operations below n) under S, the rest under no condition. -/
theorem wp_region_S {id : Nat} {l : List Oper} {a : Act} {w : World} (S : World → Prop) (n : Nat) (π π' : List (Bool × Nat)) (hm : P.follows .mixedOrders = true)
    (hB : planB l.toArray n π π' = true) (hS : S w.drew)
    (h : wpS P l.toArray (NoPanic Q) S (fun a' w' => wpS P l.toArray (NoPanic Q) (fun _ => True) (Q .normal) π' a' w') π a w.drew) : (Code.region id l.toArray true).wp P Q a w := by
  unfold planB at hB
  simp only [Bool.and_eq_true, decide_eq_true_eq] at hB
  obtain ⟨⟨⟨⟨⟨hn, hp⟩, hlen⟩, h1⟩, h2⟩, hB⟩ := hB
  split at hB
  · cases hB
  rename_i l1 hs1
  simp only [Bool.and_eq_true] at hB
  obtain ⟨hr1, hB⟩ := hB
  split at hB
  · cases hB
  rename_i l2 hs2
  have hempty : Region.ready .any l.toArray l2 = [] := by simpa using hB
  refine wp_region_noPanic (wp_region_any hm ?_)
  have H := wpPh_of_wpS (md := .any) (Q := NoPanic Q) hn (fun c a w h => h) hp (fin := l1) (fun j hj => by simpa using List.all_eq_true.1 hr1 j hj) π _ a w.drew hs1 h1 hS h
  have := wpAny_of_wpPh (md := .any) (g := π'.length) (fun listed' a' w' hc => by
    obtain ⟨rfl, hc⟩ := hc
    have H2 := wpPh_of_wpS (md := .any) (Q := NoPanic Q) (n := l.toArray.size) hn (fun c a w h => h) phaseB_all (fin := l2) (fun j hj => by rw [hempty] at hj; cases hj) π' listed' a' w' hs2 h2 trivial hc
    have := wpAny_of_wpPh (md := .any) (Q := NoPanic Q) (g := 0) (fun listed'' a'' w'' hc => by
      obtain ⟨rfl, hc⟩ := hc
      exact ⟨hempty, hc⟩) _ _ _ _ H2
    exact this) _ _ _ _ H
  rw [hlen] at this
  exact this

/-- The operations of a plan, written out. -/
def pick (l : List Oper) : List (Bool × Nat) → List (Bool × Option Oper)
  | [] => []
  | x :: r => (x.1, l[x.2]?) :: pick l r

/-- The walk over operations that are written out. -/
def wpL (P : Program) (ops : Array Oper) (Q : Exit → Act → World → Prop) (S : World → Prop) (C : Act → World → Prop) : List (Bool × Option Oper) → Act → World → Prop
  | [], a, w => C a w
  | (true, o) :: r, a, w => ∃ v o', o = some o' ∧ YieldsIf P ops S o' v a ∧ wpL P ops Q S C r (a.put o'.dst v) w
  | (false, o) :: r, a, w => ∃ o', o = some o' ∧ Region.wanted o' (yielded ops a.tmps) = true ∧ o'.wp P a w (fun a' w' => S w' ∧ wpL P ops Q S C r a' w') Q

theorem wpS_of_wpL {l : List Oper} {C' : Act → World → Prop} (hC : ∀ a w, C a w → C' a w) : ∀ (π : List (Bool × Nat)) (a : Act) (w : World), wpL P l.toArray Q S C (pick l π) a w → wpS P l.toArray Q S C' π a w
  | [], a, w, h => hC _ _ h
  | (true, i) :: r, a, w, h => by
    obtain ⟨v, o, ho, hy, h⟩ := h
    exact ⟨o, v, by simpa using ho, hy, wpS_of_wpL hC r _ _ h⟩
  | (false, i) :: r, a, w, h => by
    obtain ⟨o, ho, hg, h⟩ := h
    exact ⟨o, by simpa using ho, hg, Oper.wp_mono (fun a' w' h' => ⟨h'.1, wpS_of_wpL hC r _ _ h'.2⟩) h⟩

/-- 'wp_region_S', with the operations written out. -/
theorem wp_region_L {id : Nat} {l : List Oper} {a : Act} {w : World} (S : World → Prop) (n : Nat) (π π' : List (Bool × Nat)) (hm : P.follows .mixedOrders = true)
    (hB : planB l.toArray n π π' = true) (hS : S w.drew)
    (h : wpL P l.toArray (NoPanic Q) S (fun a' w' => wpL P l.toArray (NoPanic Q) (fun _ => True) (Q .normal) (pick l π') a' w') (pick l π) a w.drew) : (Code.region id l.toArray true).wp P Q a w :=
  wp_region_S S n π π' hm hB hS (wpS_of_wpL (fun _ _ h => wpS_of_wpL (fun _ _ h => h) _ _ _ h) _ _ _ h)

section
variable {r : List (Bool × Option Oper)} {a : Act} {w : World} {o : Oper} {v : Value}

theorem wpL_nil (h : C a w) : wpL P ops Q S C [] a w := h

theorem wpL_yield (hg : o.guard = none) (hy : ∀ w, S w → (execOp a.eval o).run P w = .ok (.value v) w)
    (h : wpL P ops Q S C r (a.put o.dst v) w) : wpL P ops Q S C ((true, some o) :: r) a w :=
  ⟨v, o, rfl, .inl ⟨by simp [Region.wanted, hg], hy⟩, h⟩

theorem wpL_skip (hg : Region.wanted o (yielded ops a.tmps) = false)
    (h : wpL P ops Q S C r (a.put o.dst undef) w) : wpL P ops Q S C ((true, some o) :: r) a w :=
  ⟨undef, o, rfl, .inr ⟨hg, rfl⟩, h⟩

theorem wpL_guarded (hg : Region.wanted o (yielded ops a.tmps) = true) (hy : ∀ w, S w → (execOp a.eval o).run P w = .ok (.value v) w)
    (h : wpL P ops Q S C r (a.put o.dst v) w) : wpL P ops Q S C ((true, some o) :: r) a w :=
  ⟨v, o, rfl, .inl ⟨hg, hy⟩, h⟩

theorem wpL_eff (hg : o.guard = none) (h : o.wp P a w (fun a' w' => S w' ∧ wpL P ops Q S C r a' w') Q) : wpL P ops Q S C ((false, some o) :: r) a w :=
  ⟨o, rfl, by simp [Region.wanted, hg], h⟩

theorem wpL_effG (hg : Region.wanted o (yielded ops a.tmps) = true) (h : o.wp P a w (fun a' w' => S w' ∧ wpL P ops Q S C r a' w') Q) : wpL P ops Q S C ((false, some o) :: r) a w :=
  ⟨o, rfl, hg, h⟩

theorem exec_convert {ss dd : TypeId} {x : Operand} {u : Value} (ho : o.op = .convert ss dd x) (hx : a.eval x = v) (hrun : (convert ss dd v).run P w = .ok u w) : (execOp a.eval o).run P w = .ok (.value u) w := by
  unfold execOp
  simp only [ho, hx, Sem.run_bind, hrun, Result.andThen_ok, Sem.run_pure]

/-- An effect that only reads. -/
theorem wp_of_run {K : Act → World → Prop} (hrun : (execOp a.eval o).run P w = .ok (.value v) w) (h : K (a.put o.dst v) w) : o.wp P a w K Q := by
  unfold Oper.wp
  rw [hrun]
  exact h

theorem wpL_load_mid (ty : TypeId) (x : Operand) (hg : o.guard = none) (ho : o.op = .load ty x) (b off : Nat) (hx : a.eval x = .pointer (some ⟨b, off, none⟩))
    (cs : List Value) (d : TypeDesc) (hc : ∀ w, S w → w.rangeAt b off cs) (hu : P.underlying ty = some d) (hd : d.isRow = true) (hz : (P.info? ty).map (·.size) = some cs.length)
    (h : wpL P ops Q S C r (a.put o.dst (.agg cs.toArray)) w) : wpL P ops Q S C ((true, some o) :: r) a w := by
  refine wpL_yield hg (fun w' hS => ?_) h
  unfold execOp
  simp only [ho, hx, Instr.loadAt, Instr.sureAddr, Sem.run_bind, Sem.run_pure, Result.andThen_ok, run_loadVar_mid w' b off ty cs d (hc w' hS) hu hd hz]

theorem wpL_build (t : TypeId) (ps : Array (Nat × Operand)) (vs : Array (Nat × Value)) (hg : o.guard = none) (ho : o.op = .build t ps)
    (hv : ps.toList.map (fun p => (p.1, a.eval p.2)) = vs.toList) (hrun : ∀ w, (Instr.build t vs).run P w = .ok v w) (h : wpL P ops Q S C r (a.put o.dst v) w) : wpL P ops Q S C ((true, some o) :: r) a w := by
  refine wpL_yield hg (fun w' hS => ?_) h
  have hv' : (ps.map fun (j, x) => (j, a.eval x)) = vs := Array.toList_inj.1 (by rw [Array.toList_map]; exact hv)
  unfold execOp
  simp only [ho, hv', Sem.run_bind, hrun, Result.andThen_ok, Sem.run_pure]

theorem wpL_buildSlice {w' : World} (t : TypeId) (n : Nat) (ps : Array (Nat × Operand)) (vs : Array (Nat × Value)) (hg : o.guard = none) (ho : o.op = .buildSlice t n ps)
    (hv : ps.toList.map (fun p => (p.1, a.eval p.2)) = vs.toList) (hrun : (Instr.buildSlice t n vs).run P w = .ok v w') (hS : S w') (h : wpL P ops Q S C r (a.put o.dst v) w') : wpL P ops Q S C ((false, some o) :: r) a w := by
  refine wpL_eff hg ?_
  have hv' : (ps.map fun (j, x) => (j, a.eval x)) = vs := Array.toList_inj.1 (by rw [Array.toList_map]; exact hv)
  unfold Oper.wp execOp
  simp only [ho, hv', Sem.run_bind, hrun, Result.andThen_ok, Sem.run_pure, Oper.upon]
  exact ⟨hS, h⟩

/-- A store of one cell. -/
theorem wpL_store {b i : Nat} {u' : World} (ty : TypeId) (x y : Operand) (hg : o.guard = none) (ho : o.op = .store ty x y) (hx : a.eval x = .pointer (some ⟨b, i, none⟩)) (hy : a.eval y = v)
    (hrun : (Instr.storeAt ty (.pointer (some ⟨b, i, none⟩)) v).run P w = .ok () u') (hS : S u') (h : wpL P ops Q S C r (a.put o.dst undef) u') : wpL P ops Q S C ((false, some o) :: r) a w := by
  refine wpL_eff hg ?_
  unfold Oper.wp execOp
  simp only [ho, hx, hy, Sem.run_bind, hrun, Result.andThen_ok, Sem.run_pure, Oper.upon]
  exact ⟨hS, h⟩
end

end

/-! ### Filling a struct or an array out of parts -/
theorem foldl_set_append (off : Nat) : ∀ (vs : List Value) (j : Nat) (cs : Array Value), off + j + vs.length ≤ cs.size →
    ((vs.zipIdx j).foldl (fun cs (p : Value × Nat) => cs.setIfInBounds (off + p.2) p.1) cs).toList = cs.toList.take (off + j) ++ vs ++ cs.toList.drop (off + j + vs.length)
  | [], j, cs, _ => by simp
  | v :: vs, j, cs, h => by
    simp only [List.length_cons] at h
    simp only [List.zipIdx_cons, List.foldl_cons]
    rw [foldl_set_append off vs (j + 1) (cs.setIfInBounds (off + j) v) (by simp; omega)]
    simp only [Array.toList_setIfInBounds, List.length_cons]
    rw [← Nat.add_assoc off j 1, List.take_succ_eq_append_getElem (by simp; omega), List.take_set_of_le (by omega), List.drop_set_of_lt (by omega)]
    simp only [List.getElem_set_self, List.append_assoc, List.cons_append, List.nil_append]
    rw [show off + j + 1 + vs.length = off + j + (vs.length + 1) by omega]

theorem fill_one (place : Nat → Option (Nat × Nat)) (cells : Array Value) (i : Nat) (v : Value) (rest : List (Nat × Value)) (off size : Nat) (hp : place i = some (off, size)) (hs : v.cells.size = size) (hf : off + size ≤ cells.size) :
    Instr.fill place cells ((i, v) :: rest) = Instr.fill place (cells.toList.take off ++ v.cells.toList ++ cells.toList.drop (off + size)).toArray rest := by
  have h1 := foldl_set_append off v.cells.toList 0 cells (by simp [hs]; omega)
  simp only [Nat.add_zero, Array.length_toList, hs] at h1
  have h2 : (v.cells.zipIdx.foldl (fun cs (p : Value × Nat) => cs.setIfInBounds (off + p.2) p.1) cells) = (cells.toList.take off ++ v.cells.toList ++ cells.toList.drop (off + size)).toArray := by
    apply Array.toList_inj.1
    rw [← Array.foldl_toList, Array.toList_zipIdx]
    exact h1
  simp only [Instr.fill, hp]
  rw [if_neg (by simp [hs]; omega)]
  rw [← h2]

section
variable {P : Program} {w : World}

theorem run_build_struct {t : TypeId} {fields : Array Field} {z : Value} {places : Array (Nat × Nat)} {parts : Array (Nat × Value)} {cells : Array Value} (hz : (zeroValue t).run P w = .ok z w) (hu : P.underlying t = some (.struct fields))
    (hp : (fields.mapM (fun f => do pure (f.offset, ← sizeOf f.type) : Field → Sem (Nat × Nat))).run P w = .ok places w) (hf : Instr.fill (places[·]?) z.cells parts.toList = some cells) :
    (Instr.build t parts).run P w = .ok (.agg cells) w := by
  unfold Instr.build
  simp only [Sem.run_bind, hz, Result.andThen_ok, run_underlying hu, hp, hf, Sem.run_pure]

theorem run_buildSlice_one {t e : TypeId} {size : Nat} {z v : Value} (ht : P.underlying t = some (.slice e)) (hi : (P.info? e).map (·.size) = some size) (h0 : 0 < size) (h1 : size ≤ 2 ^ 24) (hz : (zeroValue e).run P w = .ok z w) (hzs : z.cells.size = size)
    (hv : v.cells.size = size) : (Instr.buildSlice t 1 #[(0, v)]).run P w = .ok (.slice (some ⟨w.heap.size, 0, none⟩) 1 1) (w.alloc (.cells v.cells e)) := by
  cases hq : P.info? e with
  | none => simp [hq] at hi
  | some i =>
    have hs : i.size = size := by simpa [hq] using hi
    have hfill : Instr.fill (fun i => some (i * size, size)) ((Array.range (1 * size)).map (fun j => z.cells[j % z.cells.size]!)) [(0, v)] = some v.cells := by
      rw [fill_one _ _ 0 v [] 0 size (by simp) hv (by simp)]
      simp [Instr.fill, List.drop_of_length_le, List.length_map, List.length_range]
    unfold Instr.buildSlice
    have hso : (sizeOf e).run P w = .ok size w := by simp [sizeOf, typeInfo, hq, hs, Result.andThen]
    simp only [Nat.one_mul] at hfill
    have h2 : ¬ size > 2 ^ 24 := by omega
    have h3 : ¬ size = 0 := by omega
    simp only [Sem.run_bind, run_underlying ht, Result.andThen_ok, hso, Nat.one_mul, h2, h3, if_false, hz, Sem.run_pure, hfill]
    simp [newRow, newObj, Sem.run, Result.andThen]
end

end Go.Proofs.Ytggbnelbnbaoiaa

/- Walks of the disk's functions, part 2: Write; no condition. -/
namespace Go.Proofs.Ytggbnelbnbaoiaa
open Go.RowKit Go.MapKept

theorem u_sector : Try.prog.underlying 149 = some (.array 64 5) := by kernel_rfl

theorem u_int : Try.prog.underlying 3 = some (.int .i64) := by kernel_rfl
theorem u_secmap : Try.prog.underlying 127 = some (.map 3 149) := by kernel_rfl
theorem i_sector : (Try.prog.info? 149).map (·.size) = some 64 := by kernel_rfl

theorem u_waits : Try.prog.underlying 128 = some (.slice 159) := by kernel_rfl
theorem i_write : (Try.prog.info? 159).map (fun i => (i.zero, i.size, i.bytes)) = some (some (.agg (.int .i64 0 :: cellsV zeroSec).toArray), 65, 72) := by kernel_rfl
theorem s_write : (Try.prog.info? 159).map (fun i => i.size) = some 65 := by kernel_rfl
theorem z_write (w : World) : (zeroValue 159).run Try.prog w = .ok (.agg (.int .i64 0 :: cellsV zeroSec).toArray) w := by kernel_rfl
noncomputable def f_write : Array Field := match Try.prog.underlying 159 with | some (.struct fs) => fs | _ => #[]
theorem u_write : Try.prog.underlying 159 = some (.struct f_write) := by kernel_rfl
theorem p_write (w : World) : (f_write.mapM (fun f => do pure (f.offset, ← sizeOf f.type) : Field → Sem (Nat × Nat))).run Try.prog w = .ok #[(0, 1), (1, 64)] w := by kernel_rfl

/-- A write, made of its place and its bytes. -/
theorem build_write (x : Int) (l : List UInt8) (hl : l.length = 64) (w : World) :
    (Instr.build 159 #[(0, .int .i64 x), (1, .agg (cellsV l).toArray)]).run Try.prog w = .ok (.agg (.int .i64 x :: cellsV l).toArray) w := by
  refine run_build_struct (z_write w) u_write (p_write w) ?_
  have e : (Value.agg (.int .i64 0 :: cellsV zeroSec).toArray).cells = (.int .i64 0 :: cellsV zeroSec).toArray := rfl
  rw [e, fill_one _ _ 0 _ _ 0 1 rfl rfl (by simp), fill_one _ _ 1 _ _ 1 64 rfl (by simp [Value.cells, hl]) (by simp [zeroSec, Value.cells])]
  simp [Instr.fill, Value.cells, zeroSec]

theorem ne_nil_of_64 {l : List UInt8} (h : l.length = 64) : l ≠ [] := by intro e; simp [e] at h

set_option maxRecDepth 100000 in
set_option maxHeartbeats 400000 in
theorem write_tail {p : Nat} {d : DiskM} {R : Assn} {w : World} (h : Bears w (diskA p d * R)) (i : Nat) (l : List UInt8) (ad : Option Addr) (cap : Nat) (hi : i < d.len) (hl : l.length = 64)
    (hb : R.Tells (fun w => BytesIn w (.slice ad l.length cap) l)) (hck : d.check (i : Int) = 0) (hst : d.step.1 = 0) (hroom : d.step.2.waits.length < 1099511627776) (hlen2 : d.step.2.len = d.len) :
    Calls Try.prog 79 #[.pointer (some ⟨p, 0, none⟩), .int .i64 i, .slice ad l.length cap] w fun e w' => e = .returned (.int .i64 0) ∧
      Bears w' (diskA p { d.step.2 with waits := d.step.2.waits ++ [(i, l)] } * R) := by
  have hlen : ((l.length : Int) != 64) = false := by rw [hl]; rfl
  have hck' := Lib.hid hck
  have hst' := Lib.hid hst
  have hl' := Lib.hid hl
  clear hck hst hl
  go_enter Try.func79, Try.ntmps79
  go_wp2_with fail
  refine (check_any h _).mono ?_
  rintro e w' ⟨rfl, rfl⟩
  rw [hck'.out]
  go_wp2_with fail
  refine (step_any h).mono ?_
  rintro e w1 ⟨rfl, h1⟩
  rw [hst'.out]
  obtain ⟨b, o, rfl, hr⟩ := (hb _ h1.right).at (ne_nil_of_64 hl'.out)
  obtain ⟨ms, mn, wv, ls, ln, hwf, hs, hn, h2⟩ := Bears.disk.1 h1
  obtain ⟨hc, hf⟩ := disk_cells h2
  have c2 := hc 2
  have c3 := hc 3
  have f3 := hf 3
  simp at c2 c3
  clear hc hf
  go_wp2_with fail
  have hat := run_arrayAt (P := Try.prog) w1.drew 149 5 64 (some ⟨b, o, none⟩) l.length cap u_sector (by rw [hl'.out]; exact Nat.le_refl _)
  refine wp_region_tail 8 (by kernel_rfl) (by kernel_rfl) ?_
  simp only [List.take_succ_cons, List.take_zero, List.drop_succ_cons, List.drop_zero]
  iterate 7 still_step
  refine wpStill_load_mid _ _ rfl rfl b o rfl (cellsV l) _ hr u_sector rfl (by rw [length_cellsV, hl'.out]; exact i_sector) ?_
  refine wpStill_nil ?_
  have h3 := h2.drew.pull4
  refine wpList_mapUpdate_bears (val := secV l) h3 rfl rfl u_secmap u_int rfl rfl rfl ?_
  intro w2 h4
  clear hat c2 c3 f3 h2 h3 hr
  obtain ⟨b', o', he, hr⟩ := (hb _ h4.right.right.right.right).at (ne_nil_of_64 hl'.out)
  cases he
  have h5 := h4.pull2
  obtain ⟨hc, hf⟩ := disk_cells h5
  have c3 := hc 3
  have f3 := hf 3
  simp at c3
  clear hc hf
  go_wp2_with fail
  have hat := fun w => run_arrayAt (P := Try.prog) w 149 5 64 (some ⟨b, o, none⟩) l.length cap u_sector (by rw [hl'.out]; exact Nat.le_refl _)
  have hlt := World.block_lt_of_cell? w2 _ c3
  have hra := fun ob => rangeAt_alloc (rangeAt_drew hr) (by intro e; have := congrArg List.length e; rw [length_cellsV, hl'.out] at this; exact absurd this (by decide)) ob
  refine wp_region_L (fun w' => w'.cell? ⟨p, 3, none⟩ = some wv ∧ w'.rangeAt b o (cellsV l)) 12 [(true, 0), (true, 1), (true, 2), (true, 3), (true, 4), (true, 5), (true, 6), (true, 7), (true, 8), (true, 9), (false, 10), (false, 11)] [(true, 12), (true, 13), (false, 14)]
    (by kernel_rfl) (by kernel_rfl) ⟨c3, hr⟩ ?_
  simp only [pick, List.getElem?_cons_zero, List.getElem?_cons_succ]
  refine wpL_yield (v := ?_) rfl (fun w' hS => ?_) ?_
  rotate_left
  · (have s1 := hS.1; clear hS; go_simp; try with_reducible rfl)
  simp only [Act.put, List.setIfInBounds_toArray, List.set_cons_zero, List.set_cons_succ]
  refine wpL_yield (v := ?_) rfl (fun w' hS => ?_) ?_
  rotate_left
  · (have s1 := hS.1; clear hS; go_simp; try with_reducible rfl)
  simp only [Act.put, List.setIfInBounds_toArray, List.set_cons_zero, List.set_cons_succ]
  refine wpL_yield (v := ?_) rfl (fun w' hS => ?_) ?_
  rotate_left
  · (have s1 := hS.1; clear hS; go_simp; try with_reducible rfl)
  simp only [Act.put, List.setIfInBounds_toArray, List.set_cons_zero, List.set_cons_succ]
  refine wpL_yield (v := ?_) rfl (fun w' hS => ?_) ?_
  rotate_left
  · (have s1 := hS.1; clear hS; go_simp; try with_reducible rfl)
  simp only [Act.put, List.setIfInBounds_toArray, List.set_cons_zero, List.set_cons_succ]
  refine wpL_yield (v := ?_) rfl (fun w' hS => ?_) ?_
  rotate_left
  · (have s1 := hS.1; clear hS; go_simp; try with_reducible rfl)
  simp only [Act.put, List.setIfInBounds_toArray, List.set_cons_zero, List.set_cons_succ]
  refine wpL_yield (v := ?_) rfl (fun w' hS => ?_) ?_
  rotate_left
  · (have s1 := hS.1; clear hS; go_simp; try with_reducible rfl)
  simp only [Act.put, List.setIfInBounds_toArray, List.set_cons_zero, List.set_cons_succ]
  refine wpL_yield (v := ?_) rfl (fun w' hS => ?_) ?_
  rotate_left
  · (have s1 := hS.1; clear hS; go_simp; try with_reducible rfl)
  simp only [Act.put, List.setIfInBounds_toArray, List.set_cons_zero, List.set_cons_succ]
  refine wpL_yield (v := ?_) rfl (fun w' hS => ?_) ?_
  rotate_left
  · (have s1 := hS.1; clear hS; go_simp; try with_reducible rfl)
  simp only [Act.put, List.setIfInBounds_toArray, List.set_cons_zero, List.set_cons_succ]
  refine wpL_load_mid _ _ rfl rfl b o rfl (cellsV l) _ (fun w hS => hS.2) u_sector rfl (by rw [length_cellsV, hl'.out]; exact i_sector) ?_
  refine wpL_build _ _ #[(0, .int .i64 (i : Int)), (1, .agg (cellsV l).toArray)] rfl rfl rfl (build_write _ _ hl'.out) ?_
  obtain ⟨i0, hi0, hz0, hz1, hz2⟩ := info_parts i_write
  refine wpL_buildSlice _ _ _ #[(0, .agg (.int .i64 (i : Int) :: cellsV l).toArray)] rfl rfl rfl (run_buildSlice_one (size := 65) u_waits (by rw [hi0]; exact congrArg some hz1) (by decide) (by decide) (z_write _) (by simp [Value.cells, zeroSec]) (by simp [Value.cells, hl'.out])) ⟨(World.cell?_alloc_lt _ _ _ hlt).trans c3, hra _⟩ ?_
  have h6 := (h5.drew.alloc (.cells (.int .i64 (i : Int) :: cellsV l).toArray 159))
  have h7 := h6.pull4
  refine wpL_eff rfl (wp_append_bears h7 rfl u_waits hi0 hz0 hz1 hz2 (by simp [Value.cells, zeroSec]) (by decide) rfl (ad := ⟨w2.drew.heap.size, 0, none⟩) (m := 1) (c := 1) (news := .int .i64 (i : Int) :: cellsV l) rfl
    (by simp [hl'.out]) (World.news_of_block (cs := (.int .i64 (i : Int) :: cellsV l).toArray) h6.obj) (by intro u hu; simp only [List.mem_cons] at hu; rcases hu with rfl | hu; rfl; exact oneCell_cellsV l u hu) (by unfold maxLen; omega) (by omega) ?_)
  intro a' c' w3 h8
  have h9 := h8.pull3
  obtain ⟨hc', hf'⟩ := disk_cells h9
  have c3' := hc' 3
  have f3' := hf' 3
  simp at c3'
  obtain ⟨b', o', he, hr'⟩ := (hb _ h9.right.right.right.right.right).at (ne_nil_of_64 hl'.out)
  cases he
  refine ⟨⟨c3', hr'⟩, ?_⟩
  refine wpL_nil ?_
  clear hc' hf' hat hlt hra c3 f3
  simp only [Act.put, List.setIfInBounds_toArray, List.set_cons_zero, List.set_cons_succ]
  refine wpL_yield (v := ?_) rfl (fun w' hS => ?_) ?_
  rotate_left
  · (go_simp; try with_reducible rfl)
  simp only [Act.put, List.setIfInBounds_toArray, List.set_cons_zero, List.set_cons_succ]
  refine wpL_yield (v := ?_) rfl (fun w' hS => ?_) ?_
  rotate_left
  · (go_simp; try with_reducible rfl)
  simp only [Act.put, List.setIfInBounds_toArray, List.set_cons_zero, List.set_cons_succ]
  refine wpL_store _ _ _ rfl rfl rfl rfl (by go_simp; rfl) trivial ?_
  refine wpL_nil ?_
  go_wp2
  go_ret
  refine ⟨rfl, Bears.disk.2 ⟨ms, mn, .slice a' (d.step.2.waits.length + 1) c', ls, putL (i : Int) (secV l) ln, ⟨hwf.len, hwf.sure, ?_, hwf.fuse, hwf.steps⟩, hs, ?_, ?_⟩⟩
  · intro q hq
    simp only [List.mem_append, List.mem_singleton] at hq
    rcases hq with hq | rfl
    · exact hwf.waits q hq
    · exact ⟨by rw [hlen2]; exact hi, hl'.out⟩
  · show SecMap _ (settle d.step.2.sure (d.step.2.waits ++ [(i, l)]))
    rw [settle_append]
    exact hn.put i l
  · have h10 := (h9.setCell (i := 3) (.slice a' (d.step.2.waits.length + 1) c')).pull3.right
    refine h10.cast ?_
    simp [waitCells, diskObj]
    ac_rfl

theorem step_waits (d : DiskM) : d.step.2.waits = d.waits := by unfold DiskM.step; split <;> rfl
theorem step_len (d : DiskM) : d.step.2.len = d.len := by unfold DiskM.step; split <;> rfl
theorem step_sure (d : DiskM) : d.step.2.sure = d.sure := by unfold DiskM.step; split <;> rfl

end Go.Proofs.Ytggbnelbnbaoiaa
