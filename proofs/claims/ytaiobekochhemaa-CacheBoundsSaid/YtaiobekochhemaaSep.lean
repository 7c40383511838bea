/- A small logic of separate pieces of memory: assertions over a world, each with the set of blocks that it speaks of; no condition. -/
import Derived.WalkKit
import Derived.WalkSpells
import Derived.WalkLawsBesides
namespace Go.Proofs.Ytaiobekochhemaa
open Go.RowKit

/-- What a call leaves as it is beside the heap; and that no block goes. -/
structure Meta' (w w' : World) : Prop where
  os : w'.os = w.os
  tape : w'.tape = w.tape
  output : w'.output = w.output
  size : w.heap.size ≤ w'.heap.size

theorem Meta'.refl (w : World) : Meta' w w := ⟨rfl, rfl, rfl, Nat.le_refl _⟩
theorem Meta'.trans {a b c : World} (h : Meta' a b) (k : Meta' b c) : Meta' a c :=
  ⟨k.os.trans h.os, k.tape.trans h.tape, k.output.trans h.output, Nat.le_trans h.size k.size⟩

/-- An assertion: 'holds w F': it is true of w, and looks at the blocks F alone. -/
structure Assn where
  holds : World → (Nat → Prop) → Prop
  lt : ∀ {w F}, holds w F → ∀ b, F b → b < w.heap.size
  loc : ∀ {w w' F}, holds w F → Meta' w w' → (∀ b, F b → w'.heap[b]? = w.heap[b]?) → holds w' F

theorem Assn.ext' {A B : Assn} (h : ∀ w F, A.holds w F ↔ B.holds w F) : A = B := by
  cases A; cases B
  congr 1
  funext w F
  exact propext (h w F)

def Assn.star (A B : Assn) : Assn where
  holds w F := ∃ G H, A.holds w G ∧ B.holds w H ∧ (∀ b, G b → H b → False) ∧ F = (fun b => G b ∨ H b)
  lt := by
    rintro w F ⟨G, H, hA, hB, _, rfl⟩ b hb
    rcases hb with hb | hb
    · exact A.lt hA b hb
    · exact B.lt hB b hb
  loc := by
    rintro w w' F ⟨G, H, hA, hB, hd, rfl⟩ hm hs
    exact ⟨G, H, A.loc hA hm (fun b hb => hs b (.inl hb)), B.loc hB hm (fun b hb => hs b (.inr hb)), hd, rfl⟩

/-- Nothing. -/
def Assn.emp : Assn where
  holds _ F := F = fun _ => False
  lt := by rintro w F rfl b hb; exact hb.elim
  loc := by rintro w w' F h _ _; exact h

/-- A fact that hangs on no memory. -/
def Assn.fact (p : Prop) : Assn where
  holds _ F := p ∧ F = fun _ => False
  lt := by rintro w F ⟨_, rfl⟩ b hb; exact hb.elim
  loc := by rintro w w' F h _ _; exact h

def Assn.ex {α : Type} (A : α → Assn) : Assn where
  holds w F := ∃ x, (A x).holds w F
  lt := by rintro w F ⟨x, h⟩ b hb; exact (A x).lt h b hb
  loc := by rintro w w' F ⟨x, h⟩ hm hs; exact ⟨x, (A x).loc h hm hs⟩

/-- Block b is the object o. -/
def Assn.obj (b : Nat) (o : Obj) : Assn where
  holds w F := w.heap[b]? = some o ∧ F = fun k => k = b
  lt := by
    rintro w F ⟨h, rfl⟩ k rfl
    exact (Array.getElem?_eq_some_iff.1 h).1
  loc := by
    rintro w w' F ⟨h, rfl⟩ _ hs
    exact ⟨(hs b rfl).trans h, rfl⟩

instance : Mul Assn := ⟨Assn.star⟩

theorem Assn.mul_def (A B : Assn) : A * B = A.star B := rfl

theorem Assn.mul_comm' (A B : Assn) : A * B = B * A := by
  apply Assn.ext'
  intro w F
  constructor
  · rintro ⟨G, H, hA, hB, hd, rfl⟩
    exact ⟨H, G, hB, hA, fun b h1 h2 => hd b h2 h1, by funext b; exact propext Or.comm⟩
  · rintro ⟨G, H, hA, hB, hd, rfl⟩
    exact ⟨H, G, hB, hA, fun b h1 h2 => hd b h2 h1, by funext b; exact propext Or.comm⟩

theorem Assn.mul_assoc' (A B C : Assn) : A * B * C = A * (B * C) := by
  apply Assn.ext'
  intro w F
  constructor
  · rintro ⟨GH, K, ⟨G, H, hA, hB, hd, rfl⟩, hC, hd2, rfl⟩
    exact ⟨G, _, hA, ⟨H, K, hB, hC, fun b h1 h2 => hd2 b (.inr h1) h2, rfl⟩,
      fun b h1 h2 => h2.elim (hd b h1) (hd2 b (.inl h1)), by funext b; exact propext or_assoc⟩
  · rintro ⟨G, HK, hA, ⟨H, K, hB, hC, hd, rfl⟩, hd2, rfl⟩
    exact ⟨_, K, ⟨G, H, hA, hB, fun b h1 h2 => hd2 b h1 (.inl h2), rfl⟩, hC,
      fun b h1 h2 => h1.elim (fun h1 => hd2 b h1 (.inr h2)) (fun h1 => hd b h1 h2), by funext b; exact propext or_assoc.symm⟩

instance : Std.Associative (α := Assn) (· * ·) := ⟨Assn.mul_assoc'⟩
instance : Std.Commutative (α := Assn) (· * ·) := ⟨Assn.mul_comm'⟩

theorem Assn.mul_emp (A : Assn) : A * Assn.emp = A := by
  apply Assn.ext'
  intro w F
  constructor
  · rintro ⟨G, H, hA, rfl, _, rfl⟩
    have : (fun b => G b ∨ False) = G := by funext b; simp
    rw [this]
    exact hA
  · intro h
    exact ⟨F, _, h, rfl, fun b _ h2 => h2, by funext b; simp⟩

theorem Assn.emp_mul (A : Assn) : Assn.emp * A = A := by rw [Assn.mul_comm', Assn.mul_emp]

/-- The world bears the assertion. -/
def Bears (w : World) (A : Assn) : Prop := ∃ F, A.holds w F

theorem Bears.cast {w : World} {A B : Assn} (h : Bears w A) (e : A = B) : Bears w B := e ▸ h

theorem Bears.pull2 {w : World} {A B R : Assn} (h : Bears w (A * (B * R))) : Bears w (B * (A * R)) := h.cast (by ac_rfl)
theorem Bears.pull3 {w : World} {A B C R : Assn} (h : Bears w (A * (B * (C * R)))) : Bears w (C * (A * (B * R))) := h.cast (by ac_rfl)
theorem Bears.pull4 {w : World} {A B C D R : Assn} (h : Bears w (A * (B * (C * (D * R))))) : Bears w (D * (A * (B * (C * R)))) := h.cast (by ac_rfl)
theorem Bears.pull5 {w : World} {A B C D E R : Assn} (h : Bears w (A * (B * (C * (D * (E * R)))))) : Bears w (E * (A * (B * (C * (D * R))))) := h.cast (by ac_rfl)
theorem Bears.pull6 {w : World} {A B C D E F R : Assn} (h : Bears w (A * (B * (C * (D * (E * (F * R))))))) : Bears w (F * (A * (B * (C * (D * (E * R)))))) := h.cast (by ac_rfl)

theorem Bears.pull7 {w : World} {A B C D E F G R : Assn} (h : Bears w (A * (B * (C * (D * (E * (F * (G * R)))))))) : Bears w (G * (A * (B * (C * (D * (E * (F * R))))))) := h.cast (by ac_rfl)
theorem Bears.pull8 {w : World} {A B C D E F G H R : Assn} (h : Bears w (A * (B * (C * (D * (E * (F * (G * (H * R))))))))) : Bears w (H * (A * (B * (C * (D * (E * (F * (G * R)))))))) := h.cast (by ac_rfl)

/-- The third and the fourth change places; and others. -/
theorem Bears.c34 {w : World} {A B C D R : Assn} (h : Bears w (A * (B * (C * (D * R))))) : Bears w (A * (B * (D * (C * R)))) := h.cast (by ac_rfl)
theorem Bears.c23 {w : World} {A B C R : Assn} (h : Bears w (A * (B * (C * R)))) : Bears w (A * (C * (B * R))) := h.cast (by ac_rfl)
theorem Bears.c45 {w : World} {A B C D E R : Assn} (h : Bears w (A * (B * (C * (D * (E * R)))))) : Bears w (A * (B * (C * (E * (D * R))))) := h.cast (by ac_rfl)
/-- The first goes behind the others. -/
theorem Bears.push2 {w : World} {A B R : Assn} (h : Bears w (A * (B * R))) : Bears w (B * (A * R)) := h.cast (by ac_rfl)
theorem Bears.push3 {w : World} {A B C R : Assn} (h : Bears w (A * (B * (C * R)))) : Bears w (B * (C * (A * R))) := h.cast (by ac_rfl)
theorem Bears.push4 {w : World} {A B C D R : Assn} (h : Bears w (A * (B * (C * (D * R))))) : Bears w (B * (C * (D * (A * R)))) := h.cast (by ac_rfl)
theorem Bears.push5 {w : World} {A B C D E R : Assn} (h : Bears w (A * (B * (C * (D * (E * R)))))) : Bears w (B * (C * (D * (E * (A * R))))) := h.cast (by ac_rfl)
theorem Bears.push6 {w : World} {A B C D E F R : Assn} (h : Bears w (A * (B * (C * (D * (E * (F * R))))))) : Bears w (B * (C * (D * (E * (F * (A * R)))))) := h.cast (by ac_rfl)
/-- Two that stand together. -/
theorem Bears.pair {w : World} {A B R : Assn} (h : Bears w (A * (B * R))) : Bears w ((A * B) * R) := h.cast (by ac_rfl)
theorem Bears.unpair {w : World} {A B R : Assn} (h : Bears w ((A * B) * R)) : Bears w (A * (B * R)) := h.cast (by ac_rfl)

theorem Bears.keep {w w' : World} {A : Assn} (h : Bears w A) (hm : Meta' w w') (hs : ∀ b, b < w.heap.size → w'.heap[b]? = w.heap[b]?) : Bears w' A := by
  obtain ⟨F, h⟩ := h
  exact ⟨F, A.loc h hm (fun b hb => hs b (A.lt h b hb))⟩

theorem Bears.ex {α : Type} {w : World} {A : α → Assn} {R : Assn} : Bears w (Assn.ex A * R) ↔ ∃ x, Bears w (A x * R) := by
  constructor
  · rintro ⟨F, G, H, ⟨x, hA⟩, hR, hd, rfl⟩
    exact ⟨x, _, G, H, hA, hR, hd, rfl⟩
  · rintro ⟨x, F, G, H, hA, hR, hd, rfl⟩
    exact ⟨_, G, H, ⟨x, hA⟩, hR, hd, rfl⟩

theorem Bears.fact {w : World} {p : Prop} {R : Assn} : Bears w (Assn.fact p * R) ↔ p ∧ Bears w R := by
  constructor
  · rintro ⟨F, G, H, ⟨hp, rfl⟩, hR, hd, rfl⟩
    exact ⟨hp, H, hR⟩
  · rintro ⟨hp, H, hR⟩
    exact ⟨_, _, H, ⟨hp, rfl⟩, hR, fun b h1 _ => h1, rfl⟩

theorem Bears.left {w : World} {A R : Assn} (h : Bears w (A * R)) : Bears w A := by
  obtain ⟨F, G, H, hA, _, _, _⟩ := h; exact ⟨G, hA⟩
theorem Bears.right {w : World} {A R : Assn} (h : Bears w (A * R)) : Bears w R := by
  obtain ⟨F, G, H, _, hR, _, _⟩ := h; exact ⟨H, hR⟩

/-- A block, and its frame. -/
theorem Bears.obj {w : World} {b : Nat} {o : Obj} {R : Assn} (h : Bears w (Assn.obj b o * R)) : w.heap[b]? = some o := by
  obtain ⟨F, G, H, ⟨h, rfl⟩, _⟩ := h; exact h

/-- THE STEP THAT CLOSES A WALK: of the world w nothing but the one block b has changed: what else it bore, it bears. -/
theorem Bears.put {w w' : World} {b : Nat} {o o' : Obj} {R : Assn} (h : Bears w (Assn.obj b o * R)) (hm : Meta' w w')
    (hs : ∀ k, k < w.heap.size → k ≠ b → w'.heap[k]? = w.heap[k]?) (hb : w'.heap[b]? = some o') : Bears w' (Assn.obj b o' * R) := by
  obtain ⟨F, G, H, ⟨h, rfl⟩, hR, hd, rfl⟩ := h
  exact ⟨_, _, H, ⟨hb, rfl⟩, R.loc hR hm (fun k hk => hs k (R.lt hR k hk) (fun e => hd k e hk)), hd, rfl⟩

/-- A new block. -/
theorem Bears.alloc {w : World} {R : Assn} (h : Bears w R) (o : Obj) : Bears (w.alloc o) (Assn.obj w.heap.size o * R) := by
  obtain ⟨H, hR⟩ := h
  have hold : ∀ k, k < w.heap.size → (w.alloc o).heap[k]? = w.heap[k]? := fun k hk => Below.heap_alloc w o k hk
  refine ⟨_, _, H, ⟨?_, rfl⟩, R.loc hR ⟨rfl, rfl, rfl, by simp⟩ (fun k hk => hold k (R.lt hR k hk)), fun k h1 h2 => ?_, rfl⟩
  · show (w.heap.push o)[w.heap.size]? = _
    simp
  · have := R.lt hR k h2
    subst h1
    omega

theorem Bears.drew {w : World} {R : Assn} (h : Bears w R) : Bears w.drew R := h.keep ⟨rfl, rfl, rfl, Nat.le_refl _⟩ (fun _ _ => rfl)
theorem Bears.drewN {w : World} {R : Assn} (h : Bears w R) (n : Nat) : Bears (w.drewN n) R := h.keep ⟨rfl, rfl, rfl, Nat.le_refl _⟩ (fun _ _ => rfl)

/-- A store into a cell of a block. -/
theorem Bears.setCell {w : World} {b i : Nat} {c : Array Value} {t : TypeId} {fz : Nat × Nat} {R : Assn} (h : Bears w (Assn.obj b (.cells c t fz) * R)) (v : Value) :
    Bears (w.setCell ⟨b, i, none⟩ v) (Assn.obj b (.cells (c.setIfInBounds i v) t fz) * R) := by
  refine h.put ⟨rfl, rfl, rfl, by simp⟩ (fun k _ hk => Below.heap_setCell _ _ _ _ (by simpa using hk)) ?_
  have := h.obj
  simp [World.setCell, Array.getElem?_modify, this]

theorem Bears.setObj {w : World} {b : Nat} {o : Obj} {R : Assn} (h : Bears w (Assn.obj b o * R)) (o' : Obj) :
    Bears { w with heap := w.heap.setIfInBounds b o' } (Assn.obj b o' * R) := by
  refine h.put ⟨rfl, rfl, rfl, by simp⟩ (fun k _ hk => by simp [Ne.symm hk]) ?_
  have := (Array.getElem?_eq_some_iff.1 h.obj).1
  simp [this]

/-- The old memory: as it was in w0, below block number B; it stays so. -/
def Assn.old (B : Nat) (w0 : World) : Assn where
  holds w F := (F = fun b => b < B) ∧ B ≤ w.heap.size ∧ w.os = w0.os ∧ w.tape = w0.tape ∧ w.output = w0.output ∧ ∀ b, b < B → w.heap[b]? = w0.heap[b]?
  lt := by
    rintro w F ⟨rfl, hB, _⟩ b hb
    exact Nat.lt_of_lt_of_le hb hB
  loc := by
    rintro w w' F ⟨rfl, hB, h1, h2, h3, h4⟩ hm hs
    exact ⟨rfl, Nat.le_trans hB hm.size, hm.os.trans h1, hm.tape.trans h2, hm.output.trans h3, fun b hb => (hs b hb).trans (h4 b hb)⟩

theorem Bears.start (w : World) : Bears w (Assn.old w.heap.size w) := ⟨_, rfl, Nat.le_refl _, rfl, rfl, rfl, fun _ _ => rfl⟩

theorem Bears.below {w0 w : World} {B : Nat} {R : Assn} (h : Bears w (Assn.old B w0 * R)) (hB : B = w0.heap.size) : Below w0.heap.size w0 w := by
  obtain ⟨F, G, H, ⟨rfl, h0, h1, h2, h3, h4⟩, _⟩ := h
  subst hB
  exact ⟨h1, h2, h3, h0, h4⟩

/-- What two assertions that stand side by side speak of is apart. -/
theorem Bears.ne {w : World} {b c : Nat} {o p : Obj} {R : Assn} (h : Bears w (Assn.obj b o * (Assn.obj c p * R))) : b ≠ c := by
  obtain ⟨F, G, H, ⟨_, rfl⟩, ⟨G', H', ⟨_, rfl⟩, _, _, rfl⟩, hd, _⟩ := h
  intro e
  exact hd b rfl (.inl e)

/-- WHATEVER THE FRAME SAYS OF A WORLD, IT SAYS OF EVERY WORLD THAT BEARS IT. -/
def Assn.Tells (R : Assn) (p : World → Prop) : Prop := ∀ w, Bears w R → p w

theorem Assn.Tells.right {A R : Assn} {p : World → Prop} (h : R.Tells p) : (A * R).Tells p := fun _ hw => h _ hw.right
theorem Assn.Tells.left {A R : Assn} {p : World → Prop} (h : A.Tells p) : (A * R).Tells p := fun _ hw => h _ hw.left
theorem Assn.Tells.mono {R : Assn} {p q : World → Prop} (h : R.Tells p) (hpq : ∀ w, p w → q w) : R.Tells q := fun _ hw => hpq _ (h _ hw)

theorem cell_of_obj {w : World} {b : Nat} {c : Array Value} {t : TypeId} {fz : Nat × Nat} (h : w.heap[b]? = some (.cells c t fz)) (i : Nat) : w.cell? ⟨b, i, none⟩ = c[i]? := by
  simp [World.cell?, h]
theorem frozen_of_obj {w : World} {b : Nat} {c : Array Value} {t : TypeId} (h : w.heap[b]? = some (.cells c t (0, 0))) (i : Nat) : w.frozen? ⟨b, i, none⟩ = false := by
  simp [World.frozen?, h]

end Go.Proofs.Ytaiobekochhemaa
