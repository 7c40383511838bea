/- Texts of this claim, put together: Sep, Maps, Mem, Laws, Maps2, DiskM, CacheM, WalM, DiskW1; no condition. -/
import Derived.WalkKit
import Derived.WalkSpells
import Derived.WalkLawsBesides
import Derived.MapKept
import Derived.Maps.Own
import Derived.Deep.MidRow
import Derived.Maps.AppendAt
import Derived.Deep.AppendLies
import Derived.StillTailTactics
import Derived.Deep.RegionHeld3
import Derived.Lib.Hide
import Derived.Laws.BitsAllLaws
import Derived.Test.YtcggloceabjjdaaGreatProg

set_option linter.unusedSimpArgs false
set_option linter.unusedVariables false

/- A small logic of separate pieces of memory: assertions over a world, each with the set of blocks that it speaks of; no condition. -/
namespace Go.Proofs.YtcggloceabjjdaaGreat
open Go.RowKit

/-- What a call leaves as it is beside the heap; and that no block goes. -/
structure Meta' (w w' : World) : Prop where
  os : w'.os = w.os
  tape : w'.tape = w.tape
  output : w'.output = w.output
  size : w.heap.size ≤ w'.heap.size

theorem Meta'.refl (w : World) : Meta' w w := ⟨rfl, rfl, rfl, Nat.le_refl _⟩
theorem Meta'.trans {a b c : World} (h : Meta' a b) (k : Meta' b c) : Meta' a c :=
  ⟨k.os.trans h.os, k.tape.trans h.tape, k.output.trans h.output, Nat.le_trans h.size k.size⟩

/-- An assertion: 'holds w F': it is true of w, and looks at the blocks F alone. -/
structure Assn where
  holds : World → (Nat → Prop) → Prop
  lt : ∀ {w F}, holds w F → ∀ b, F b → b < w.heap.size
  loc : ∀ {w w' F}, holds w F → Meta' w w' → (∀ b, F b → w'.heap[b]? = w.heap[b]?) → holds w' F

theorem Assn.ext' {A B : Assn} (h : ∀ w F, A.holds w F ↔ B.holds w F) : A = B := by
  cases A; cases B
  congr 1
  funext w F
  exact propext (h w F)

def Assn.star (A B : Assn) : Assn where
  holds w F := ∃ G H, A.holds w G ∧ B.holds w H ∧ (∀ b, G b → H b → False) ∧ F = (fun b => G b ∨ H b)
  lt := by
    rintro w F ⟨G, H, hA, hB, _, rfl⟩ b hb
    rcases hb with hb | hb
    · exact A.lt hA b hb
    · exact B.lt hB b hb
  loc := by
    rintro w w' F ⟨G, H, hA, hB, hd, rfl⟩ hm hs
    exact ⟨G, H, A.loc hA hm (fun b hb => hs b (.inl hb)), B.loc hB hm (fun b hb => hs b (.inr hb)), hd, rfl⟩

/-- Nothing. -/
def Assn.emp : Assn where
  holds _ F := F = fun _ => False
  lt := by rintro w F rfl b hb; exact hb.elim
  loc := by rintro w w' F h _ _; exact h

/-- A fact that hangs on no memory. -/
def Assn.fact (p : Prop) : Assn where
  holds _ F := p ∧ F = fun _ => False
  lt := by rintro w F ⟨_, rfl⟩ b hb; exact hb.elim
  loc := by rintro w w' F h _ _; exact h

def Assn.ex {α : Type} (A : α → Assn) : Assn where
  holds w F := ∃ x, (A x).holds w F
  lt := by rintro w F ⟨x, h⟩ b hb; exact (A x).lt h b hb
  loc := by rintro w w' F ⟨x, h⟩ hm hs; exact ⟨x, (A x).loc h hm hs⟩

/-- Block b is the object o. -/
def Assn.obj (b : Nat) (o : Obj) : Assn where
  holds w F := w.heap[b]? = some o ∧ F = fun k => k = b
  lt := by
    rintro w F ⟨h, rfl⟩ k rfl
    exact (Array.getElem?_eq_some_iff.1 h).1
  loc := by
    rintro w w' F ⟨h, rfl⟩ _ hs
    exact ⟨(hs b rfl).trans h, rfl⟩

instance : Mul Assn := ⟨Assn.star⟩

theorem Assn.mul_def (A B : Assn) : A * B = A.star B := rfl

theorem Assn.mul_comm' (A B : Assn) : A * B = B * A := by
  apply Assn.ext'
  intro w F
  constructor
  · rintro ⟨G, H, hA, hB, hd, rfl⟩
    exact ⟨H, G, hB, hA, fun b h1 h2 => hd b h2 h1, by funext b; exact propext Or.comm⟩
  · rintro ⟨G, H, hA, hB, hd, rfl⟩
    exact ⟨H, G, hB, hA, fun b h1 h2 => hd b h2 h1, by funext b; exact propext Or.comm⟩

theorem Assn.mul_assoc' (A B C : Assn) : A * B * C = A * (B * C) := by
  apply Assn.ext'
  intro w F
  constructor
  · rintro ⟨GH, K, ⟨G, H, hA, hB, hd, rfl⟩, hC, hd2, rfl⟩
    exact ⟨G, _, hA, ⟨H, K, hB, hC, fun b h1 h2 => hd2 b (.inr h1) h2, rfl⟩,
      fun b h1 h2 => h2.elim (hd b h1) (hd2 b (.inl h1)), by funext b; exact propext or_assoc⟩
  · rintro ⟨G, HK, hA, ⟨H, K, hB, hC, hd, rfl⟩, hd2, rfl⟩
    exact ⟨_, K, ⟨G, H, hA, hB, fun b h1 h2 => hd2 b h1 (.inl h2), rfl⟩, hC,
      fun b h1 h2 => h1.elim (fun h1 => hd2 b h1 (.inr h2)) (fun h1 => hd b h1 h2), by funext b; exact propext or_assoc.symm⟩

instance : Std.Associative (α := Assn) (· * ·) := ⟨Assn.mul_assoc'⟩
instance : Std.Commutative (α := Assn) (· * ·) := ⟨Assn.mul_comm'⟩

theorem Assn.mul_emp (A : Assn) : A * Assn.emp = A := by
  apply Assn.ext'
  intro w F
  constructor
  · rintro ⟨G, H, hA, rfl, _, rfl⟩
    have : (fun b => G b ∨ False) = G := by funext b; simp
    rw [this]
    exact hA
  · intro h
    exact ⟨F, _, h, rfl, fun b _ h2 => h2, by funext b; simp⟩

theorem Assn.emp_mul (A : Assn) : Assn.emp * A = A := by rw [Assn.mul_comm', Assn.mul_emp]

/-- The world bears the assertion. -/
def Bears (w : World) (A : Assn) : Prop := ∃ F, A.holds w F

theorem Bears.cast {w : World} {A B : Assn} (h : Bears w A) (e : A = B) : Bears w B := e ▸ h

theorem Bears.pull2 {w : World} {A B R : Assn} (h : Bears w (A * (B * R))) : Bears w (B * (A * R)) := h.cast (by ac_rfl)
theorem Bears.pull3 {w : World} {A B C R : Assn} (h : Bears w (A * (B * (C * R)))) : Bears w (C * (A * (B * R))) := h.cast (by ac_rfl)
theorem Bears.pull4 {w : World} {A B C D R : Assn} (h : Bears w (A * (B * (C * (D * R))))) : Bears w (D * (A * (B * (C * R)))) := h.cast (by ac_rfl)
theorem Bears.pull5 {w : World} {A B C D E R : Assn} (h : Bears w (A * (B * (C * (D * (E * R)))))) : Bears w (E * (A * (B * (C * (D * R))))) := h.cast (by ac_rfl)
theorem Bears.pull6 {w : World} {A B C D E F R : Assn} (h : Bears w (A * (B * (C * (D * (E * (F * R))))))) : Bears w (F * (A * (B * (C * (D * (E * R)))))) := h.cast (by ac_rfl)

theorem Bears.pull7 {w : World} {A B C D E F G R : Assn} (h : Bears w (A * (B * (C * (D * (E * (F * (G * R)))))))) : Bears w (G * (A * (B * (C * (D * (E * (F * R))))))) := h.cast (by ac_rfl)
theorem Bears.pull8 {w : World} {A B C D E F G H R : Assn} (h : Bears w (A * (B * (C * (D * (E * (F * (G * (H * R))))))))) : Bears w (H * (A * (B * (C * (D * (E * (F * (G * R)))))))) := h.cast (by ac_rfl)

/-- The third and the fourth change places; and others. -/
theorem Bears.c34 {w : World} {A B C D R : Assn} (h : Bears w (A * (B * (C * (D * R))))) : Bears w (A * (B * (D * (C * R)))) := h.cast (by ac_rfl)
theorem Bears.c23 {w : World} {A B C R : Assn} (h : Bears w (A * (B * (C * R)))) : Bears w (A * (C * (B * R))) := h.cast (by ac_rfl)
theorem Bears.c45 {w : World} {A B C D E R : Assn} (h : Bears w (A * (B * (C * (D * (E * R)))))) : Bears w (A * (B * (C * (E * (D * R))))) := h.cast (by ac_rfl)
/-- The first goes behind the others. -/
theorem Bears.push2 {w : World} {A B R : Assn} (h : Bears w (A * (B * R))) : Bears w (B * (A * R)) := h.cast (by ac_rfl)
theorem Bears.push3 {w : World} {A B C R : Assn} (h : Bears w (A * (B * (C * R)))) : Bears w (B * (C * (A * R))) := h.cast (by ac_rfl)
theorem Bears.push4 {w : World} {A B C D R : Assn} (h : Bears w (A * (B * (C * (D * R))))) : Bears w (B * (C * (D * (A * R)))) := h.cast (by ac_rfl)
theorem Bears.push5 {w : World} {A B C D E R : Assn} (h : Bears w (A * (B * (C * (D * (E * R)))))) : Bears w (B * (C * (D * (E * (A * R))))) := h.cast (by ac_rfl)
theorem Bears.push6 {w : World} {A B C D E F R : Assn} (h : Bears w (A * (B * (C * (D * (E * (F * R))))))) : Bears w (B * (C * (D * (E * (F * (A * R)))))) := h.cast (by ac_rfl)
/-- Two that stand together. -/
theorem Bears.pair {w : World} {A B R : Assn} (h : Bears w (A * (B * R))) : Bears w ((A * B) * R) := h.cast (by ac_rfl)
theorem Bears.unpair {w : World} {A B R : Assn} (h : Bears w ((A * B) * R)) : Bears w (A * (B * R)) := h.cast (by ac_rfl)

theorem Bears.keep {w w' : World} {A : Assn} (h : Bears w A) (hm : Meta' w w') (hs : ∀ b, b < w.heap.size → w'.heap[b]? = w.heap[b]?) : Bears w' A := by
  obtain ⟨F, h⟩ := h
  exact ⟨F, A.loc h hm (fun b hb => hs b (A.lt h b hb))⟩

theorem Bears.ex {α : Type} {w : World} {A : α → Assn} {R : Assn} : Bears w (Assn.ex A * R) ↔ ∃ x, Bears w (A x * R) := by
  constructor
  · rintro ⟨F, G, H, ⟨x, hA⟩, hR, hd, rfl⟩
    exact ⟨x, _, G, H, hA, hR, hd, rfl⟩
  · rintro ⟨x, F, G, H, hA, hR, hd, rfl⟩
    exact ⟨_, G, H, ⟨x, hA⟩, hR, hd, rfl⟩

theorem Bears.fact {w : World} {p : Prop} {R : Assn} : Bears w (Assn.fact p * R) ↔ p ∧ Bears w R := by
  constructor
  · rintro ⟨F, G, H, ⟨hp, rfl⟩, hR, hd, rfl⟩
    exact ⟨hp, H, hR⟩
  · rintro ⟨hp, H, hR⟩
    exact ⟨_, _, H, ⟨hp, rfl⟩, hR, fun b h1 _ => h1, rfl⟩

theorem Bears.left {w : World} {A R : Assn} (h : Bears w (A * R)) : Bears w A := by
  obtain ⟨F, G, H, hA, _, _, _⟩ := h; exact ⟨G, hA⟩
theorem Bears.right {w : World} {A R : Assn} (h : Bears w (A * R)) : Bears w R := by
  obtain ⟨F, G, H, _, hR, _, _⟩ := h; exact ⟨H, hR⟩

/-- A block, and its frame. -/
theorem Bears.obj {w : World} {b : Nat} {o : Obj} {R : Assn} (h : Bears w (Assn.obj b o * R)) : w.heap[b]? = some o := by
  obtain ⟨F, G, H, ⟨h, rfl⟩, _⟩ := h; exact h

/-- THE STEP THAT CLOSES A WALK: of the world w nothing but the one block b has changed: what else it bore, it bears. -/
theorem Bears.put {w w' : World} {b : Nat} {o o' : Obj} {R : Assn} (h : Bears w (Assn.obj b o * R)) (hm : Meta' w w')
    (hs : ∀ k, k < w.heap.size → k ≠ b → w'.heap[k]? = w.heap[k]?) (hb : w'.heap[b]? = some o') : Bears w' (Assn.obj b o' * R) := by
  obtain ⟨F, G, H, ⟨h, rfl⟩, hR, hd, rfl⟩ := h
  exact ⟨_, _, H, ⟨hb, rfl⟩, R.loc hR hm (fun k hk => hs k (R.lt hR k hk) (fun e => hd k e hk)), hd, rfl⟩

/-- A new block. -/
theorem Bears.alloc {w : World} {R : Assn} (h : Bears w R) (o : Obj) : Bears (w.alloc o) (Assn.obj w.heap.size o * R) := by
  obtain ⟨H, hR⟩ := h
  have hold : ∀ k, k < w.heap.size → (w.alloc o).heap[k]? = w.heap[k]? := fun k hk => Below.heap_alloc w o k hk
  refine ⟨_, _, H, ⟨?_, rfl⟩, R.loc hR ⟨rfl, rfl, rfl, by simp⟩ (fun k hk => hold k (R.lt hR k hk)), fun k h1 h2 => ?_, rfl⟩
  · show (w.heap.push o)[w.heap.size]? = _
    simp
  · have := R.lt hR k h2
    subst h1
    omega

theorem Bears.drew {w : World} {R : Assn} (h : Bears w R) : Bears w.drew R := h.keep ⟨rfl, rfl, rfl, Nat.le_refl _⟩ (fun _ _ => rfl)
theorem Bears.drewN {w : World} {R : Assn} (h : Bears w R) (n : Nat) : Bears (w.drewN n) R := h.keep ⟨rfl, rfl, rfl, Nat.le_refl _⟩ (fun _ _ => rfl)

/-- A store into a cell of a block. -/
theorem Bears.setCell {w : World} {b i : Nat} {c : Array Value} {t : TypeId} {fz : Nat × Nat} {R : Assn} (h : Bears w (Assn.obj b (.cells c t fz) * R)) (v : Value) :
    Bears (w.setCell ⟨b, i, none⟩ v) (Assn.obj b (.cells (c.setIfInBounds i v) t fz) * R) := by
  refine h.put ⟨rfl, rfl, rfl, by simp⟩ (fun k _ hk => Below.heap_setCell _ _ _ _ (by simpa using hk)) ?_
  have := h.obj
  simp [World.setCell, Array.getElem?_modify, this]

theorem Bears.setObj {w : World} {b : Nat} {o : Obj} {R : Assn} (h : Bears w (Assn.obj b o * R)) (o' : Obj) :
    Bears { w with heap := w.heap.setIfInBounds b o' } (Assn.obj b o' * R) := by
  refine h.put ⟨rfl, rfl, rfl, by simp⟩ (fun k _ hk => by simp [Ne.symm hk]) ?_
  have := (Array.getElem?_eq_some_iff.1 h.obj).1
  simp [this]

/-- The old memory: as it was in w0, below block number B; it stays so. -/
def Assn.old (B : Nat) (w0 : World) : Assn where
  holds w F := (F = fun b => b < B) ∧ B ≤ w.heap.size ∧ w.os = w0.os ∧ w.tape = w0.tape ∧ w.output = w0.output ∧ ∀ b, b < B → w.heap[b]? = w0.heap[b]?
  lt := by
    rintro w F ⟨rfl, hB, _⟩ b hb
    exact Nat.lt_of_lt_of_le hb hB
  loc := by
    rintro w w' F ⟨rfl, hB, h1, h2, h3, h4⟩ hm hs
    exact ⟨rfl, Nat.le_trans hB hm.size, hm.os.trans h1, hm.tape.trans h2, hm.output.trans h3, fun b hb => (hs b hb).trans (h4 b hb)⟩

theorem Bears.start (w : World) : Bears w (Assn.old w.heap.size w) := ⟨_, rfl, Nat.le_refl _, rfl, rfl, rfl, fun _ _ => rfl⟩

theorem Bears.below {w0 w : World} {B : Nat} {R : Assn} (h : Bears w (Assn.old B w0 * R)) (hB : B = w0.heap.size) : Below w0.heap.size w0 w := by
  obtain ⟨F, G, H, ⟨rfl, h0, h1, h2, h3, h4⟩, _⟩ := h
  subst hB
  exact ⟨h1, h2, h3, h0, h4⟩

/-- What two assertions that stand side by side speak of is apart. -/
theorem Bears.ne {w : World} {b c : Nat} {o p : Obj} {R : Assn} (h : Bears w (Assn.obj b o * (Assn.obj c p * R))) : b ≠ c := by
  obtain ⟨F, G, H, ⟨_, rfl⟩, ⟨G', H', ⟨_, rfl⟩, _, _, rfl⟩, hd, _⟩ := h
  intro e
  exact hd b rfl (.inl e)

/-- WHATEVER THE FRAME SAYS OF A WORLD, IT SAYS OF EVERY WORLD THAT BEARS IT. -/
def Assn.Tells (R : Assn) (p : World → Prop) : Prop := ∀ w, Bears w R → p w

theorem Assn.Tells.right {A R : Assn} {p : World → Prop} (h : R.Tells p) : (A * R).Tells p := fun _ hw => h _ hw.right
theorem Assn.Tells.left {A R : Assn} {p : World → Prop} (h : A.Tells p) : (A * R).Tells p := fun _ hw => h _ hw.left
theorem Assn.Tells.mono {R : Assn} {p q : World → Prop} (h : R.Tells p) (hpq : ∀ w, p w → q w) : R.Tells q := fun _ hw => hpq _ (h _ hw)

theorem cell_of_obj {w : World} {b : Nat} {c : Array Value} {t : TypeId} {fz : Nat × Nat} (h : w.heap[b]? = some (.cells c t fz)) (i : Nat) : w.cell? ⟨b, i, none⟩ = c[i]? := by
  simp [World.cell?, h]
theorem frozen_of_obj {w : World} {b : Nat} {c : Array Value} {t : TypeId} (h : w.heap[b]? = some (.cells c t (0, 0))) (i : Nat) : w.frozen? ⟨b, i, none⟩ = false := by
  simp [World.frozen?, h]

end Go.Proofs.YtcggloceabjjdaaGreat

/- Maps keyed by ints, as association lists; what the operations on them do; no condition. -/
namespace Go.Proofs.YtcggloceabjjdaaGreat
open Go.RowKit Go.MapKept

/-- The value at a key. -/
def getL {α : Type} (k : Int) : List (Int × α) → Option α
  | [] => none
  | p :: r => if p.1 = k then some p.2 else getL k r
/-- The value at a key, written. -/
def putL {α : Type} (k : Int) (v : α) : List (Int × α) → List (Int × α)
  | [] => [(k, v)]
  | p :: r => if p.1 = k then (k, v) :: r else p :: putL k v r
/-- A key, taken out. -/
def delL {α : Type} (k : Int) : List (Int × α) → List (Int × α)
  | [] => []
  | p :: r => if p.1 = k then r else p :: delL k r

theorem getL_putL {α : Type} (k j : Int) (v : α) (l : List (Int × α)) : getL j (putL k v l) = if j = k then some v else getL j l := by
  induction l with
  | nil =>
    simp only [putL, getL]
    by_cases h : j = k
    · subst h; simp
    · simp [h, Ne.symm h]
  | cons p r ih =>
    simp only [putL]
    by_cases h : p.1 = k
    · simp only [h, if_true, getL]
      by_cases hj : j = k
      · subst hj; simp
      · simp [hj, Ne.symm hj]
    · simp only [h, if_false, getL, ih]
      by_cases hj : j = k
      · subst hj; simp [h]
      · simp [hj]

/-- How a map's entries stand in memory. -/
structure MapIs (es : Array MapEntry) (clock : Nat) (l : List (Int × Value)) : Prop where
  list : es.toList.map (fun e => (e.key, e.val)) = l.map (fun p => (Value.int .i64 p.1, p.2))
  stamped : Stamped es clock

theorem MapIs.keys {es : Array MapEntry} {clock : Nat} {l : List (Int × Value)} (h : MapIs es clock l) : ∀ x ∈ es.toList, IsKey (.int .i64) x.key := by
  intro x hx
  have : (x.key, x.val) ∈ es.toList.map (fun e => (e.key, e.val)) := List.mem_map.2 ⟨x, hx, rfl⟩
  rw [h.list] at this
  obtain ⟨p, _, hp⟩ := List.mem_map.1 this
  have : x.key = .int .i64 p.1 := (congrArg Prod.fst hp).symm
  rw [this]
  exact rfl

theorem findNow_list (x : Int) : ∀ (es : List MapEntry) (l : List (Int × Value)) (i : Nat), es.map (fun e => (e.key, e.val)) = l.map (fun p => (Value.int .i64 p.1, p.2)) →
    (getL x l = none ∧ Instr.findNow (.int .i64) (.int .i64 x) es i = some none ∧ ∀ e ∈ es, e.key ≠ .int .i64 x) ∨
    ∃ j v e, getL x l = some v ∧ Instr.findNow (.int .i64) (.int .i64 x) es i = some (some (i + j, v)) ∧ es[j]? = some e ∧ e.key = .int .i64 x ∧ e.val = v
  | [], l, i, h => by
    have : l = [] := by simpa using h.symm
    subst this
    exact .inl ⟨rfl, rfl, by simp⟩
  | e :: es, l, i, h => by
    cases l with
    | nil => simp at h
    | cons p l =>
      simp only [List.map_cons, List.cons.injEq, Prod.mk.injEq] at h
      obtain ⟨⟨hk, hv⟩, h⟩ := h
      by_cases hp : p.1 = x
      · refine .inr ⟨0, p.2, e, by simp [getL, hp], ?_, rfl, by rw [hk, hp], hv⟩
        simp [Instr.findNow, hk, hp, Instr.sameNow, hv]
      · have hne : e.key ≠ .int .i64 x := by
          rw [hk]
          intro he
          simp only [Value.int.injEq, true_and] at he
          exact hp he
        have hs : Instr.sameNow (.int .i64) (.int .i64 x) e.key = some false := by
          rw [hk]
          simp [Instr.sameNow, Ne.symm hp]
        rcases findNow_list x es l (i + 1) h with ⟨h1, h2, h3⟩ | ⟨j, v, e', h1, h2, h3, h4, h5⟩
        · exact .inl ⟨by simp [getL, hp, h1], by simp [Instr.findNow, hs, h2], fun e' he' => by
            cases he' with
            | head => exact hne
            | tail _ he' => exact h3 _ he'⟩
        · exact .inr ⟨j + 1, v, e', by simp [getL, hp, h1], by simp [Instr.findNow, hs, h2]; omega, by simpa using h3, h4, h5⟩

section
variable {P : Program} {w : World} {t kt et : TypeId} {b : Nat} {es : Array MapEntry} {clock : Nat} {l : List (Int × Value)}

theorem run_lookup_int (ht : P.underlying t = some (.map kt et)) (hk : P.underlying kt = some (.int .i64)) {z : Value} (hz : (zeroValue et).run P w = .ok z w)
    (hb : w.heap[b]? = some (.map es clock)) (h : MapIs es clock l) (x : Int) :
    (Instr.lookup t (.map (some b)) (.int .i64 x) false).run P w = .ok ((getL x l).getD z) w := by
  have hc := run_checkKey (P := P) (w := w) hk (show IsKey (.int .i64) (.int .i64 x) from rfl) es.isEmpty 9999
  rcases findNow_list x es.toList l 0 h.list with ⟨h1, h2, _⟩ | ⟨j, v, e, h1, h2, _⟩
  · have hf := run_findKey (P := P) (w := w) hk h2
    simp [Instr.lookup, run_underlying ht, MapKept.run_getObj_map hb, hc, hf, h1, hz, Result.andThen]
  · have hf := run_findKey (P := P) (w := w) hk h2
    simp [Instr.lookup, run_underlying ht, MapKept.run_getObj_map hb, hc, hf, h1, Result.andThen]

theorem run_lookup_int_ok (ht : P.underlying t = some (.map kt et)) (hk : P.underlying kt = some (.int .i64)) {z : Value} (hz : (zeroValue et).run P w = .ok z w)
    (hb : w.heap[b]? = some (.map es clock)) (h : MapIs es clock l) (x : Int) :
    (Instr.lookup t (.map (some b)) (.int .i64 x) true).run P w = .ok (.tuple #[(getL x l).getD z, .bool (getL x l).isSome]) w := by
  have hc := run_checkKey (P := P) (w := w) hk (show IsKey (.int .i64) (.int .i64 x) from rfl) es.isEmpty 9999
  rcases findNow_list x es.toList l 0 h.list with ⟨h1, h2, _⟩ | ⟨j, v, e, h1, h2, _⟩
  · have hf := run_findKey (P := P) (w := w) hk h2
    simp [Instr.lookup, run_underlying ht, MapKept.run_getObj_map hb, hc, hf, h1, hz, Result.andThen]
  · have hf := run_findKey (P := P) (w := w) hk h2
    simp [Instr.lookup, run_underlying ht, MapKept.run_getObj_map hb, hc, hf, h1, Result.andThen]

theorem set_putL (x : Int) (v : Value) : ∀ (es : List MapEntry) (l : List (Int × Value)) (j : Nat) (e : MapEntry), es.map (fun e => (e.key, e.val)) = l.map (fun p => (Value.int .i64 p.1, p.2)) →
    es[j]? = some e → e.key = .int .i64 x → (∀ i e', i < j → es[i]? = some e' → e'.key ≠ .int .i64 x) →
    (es.set j { e with key := .int .i64 x, val := v }).map (fun e => (e.key, e.val)) = (putL x v l).map (fun p => (Value.int .i64 p.1, p.2))
  | [], l, j, e, _, hj, _, _ => by simp at hj
  | e0 :: es, l, j, e, h, hj, hk, hlt => by
    cases l with
    | nil => simp at h
    | cons p l =>
      simp only [List.map_cons, List.cons.injEq, Prod.mk.injEq] at h
      obtain ⟨⟨hk0, hv0⟩, h⟩ := h
      cases j with
      | zero =>
        obtain rfl : e0 = e := by simpa using hj
        have hp : p.1 = x := by rw [hk0] at hk; simpa using hk
        simp [putL, hp, h]
      | succ j =>
        have hne : p.1 ≠ x := fun hp => hlt 0 e0 (by omega) rfl (by rw [hk0, hp])
        simp only [List.set_cons_succ, List.map_cons, putL, hne, if_false, hk0, hv0]
        congr 1
        exact set_putL x v es l j e h (by simpa using hj) hk (fun i e' hi he' => hlt (i + 1) e' (by omega) (by simpa using he'))

theorem push_putL (x : Int) (v : Value) : ∀ (es : List MapEntry) (l : List (Int × Value)) (n : MapEntry), es.map (fun e => (e.key, e.val)) = l.map (fun p => (Value.int .i64 p.1, p.2)) →
    (∀ e ∈ es, e.key ≠ .int .i64 x) → n.key = .int .i64 x → n.val = v → (es ++ [n]).map (fun e => (e.key, e.val)) = (putL x v l).map (fun p => (Value.int .i64 p.1, p.2))
  | [], l, n, h, _, hk, hv => by
    have : l = [] := by simpa using h.symm
    subst this
    simp [putL, hk, hv]
  | e0 :: es, l, n, h, hne, hk, hv => by
    cases l with
    | nil => simp at h
    | cons p l =>
      simp only [List.map_cons, List.cons.injEq, Prod.mk.injEq] at h
      obtain ⟨⟨hk0, hv0⟩, h⟩ := h
      have hp : p.1 ≠ x := fun hp => hne e0 (by simp) (by rw [hk0, hp])
      simp only [List.cons_append, List.map_cons, putL, hp, if_false, hk0, hv0]
      congr 1
      exact push_putL x v es l n h (fun e he => hne e (by simp [he])) hk hv

theorem run_mapUpdate_int (ht : P.underlying t = some (.map kt et)) (hk : P.underlying kt = some (.int .i64))
    (hb : w.heap[b]? = some (.map es clock)) (h : MapIs es clock l) (x : Int) (v : Value) :
    ∃ es' clock', (Instr.mapUpdate t (.map (some b)) (.int .i64 x) v).run P w = .ok () { w with heap := w.heap.setIfInBounds b (.map es' clock') } ∧ MapIs es' clock' (putL x v l) := by
  have hc := run_checkKey (P := P) (w := w) hk (show IsKey (.int .i64) (.int .i64 x) from rfl) false 9999
  rcases findNow_spec (show IsKey (.int .i64) (.int .i64 x) from rfl) es.toList 0 h.keys with ⟨h2, h3⟩ | ⟨j, e, h2, h3, h4⟩
  · have hf := run_findKey (P := P) (w := w) hk h2
    refine ⟨es.push ⟨.int .i64 x, v, clock⟩, clock + 1, ?_, ?_, stamped_push h.stamped h3⟩
    · simp [Instr.mapUpdate, run_underlying ht, MapKept.run_getObj_map hb, hc, hf, MapKept.run_setObj_map _ hb, Result.andThen]
    · rw [Array.toList_push]
      exact push_putL x v es.toList l _ h.list h3 rfl rfl
  · simp only [Nat.zero_add] at h2
    have hf := run_findKey (P := P) (w := w) hk h2
    have hj : es[j]? = some e := by simpa using h3
    have hkeyf : ∀ e', es[j]? = some e' → ({ e' with key := .int .i64 x, val := v } : MapEntry).key = e'.key := fun e' he' => by
      rw [hj] at he'; cases he'; exact h4.symm
    have hlist : (es.modify j (fun e' => { e' with key := .int .i64 x, val := v })).toList = es.toList.set j { e with key := .int .i64 x, val := v } := by
      rw [Array.toList_modify, ChangeMaps.modify_eq_set _ _ _ _ h3]
    refine ⟨es.modify j (fun e' => { e' with key := .int .i64 x, val := v }), clock, ?_, ?_, stamped_modify h.stamped _ _ (fun _ _ => rfl) (fun e' _ he' => hkeyf e' he')⟩
    · have hst := run_keyThatStays (P := P) (w := w) (show IsKey (.int .i64) (.int .i64 x) from rfl)
      simp [Instr.mapUpdate, run_underlying ht, MapKept.run_getObj_map hb, hc, hf, hj, h4, hst, MapKept.run_setObj_map _ hb, Result.andThen]
    · rw [hlist]
      refine set_putL x v es.toList l j e h.list h3 h4 (fun i e' hi he' hke => ?_)
      have hnd := h.stamped.2.2
      have hi' : i < es.toList.length := (List.getElem?_eq_some_iff.1 he').1
      have hj' : j < es.toList.length := (List.getElem?_eq_some_iff.1 h3).1
      have e1 : (es.toList.map (·.key))[i]'(by simpa using hi') = (es.toList.map (·.key))[j]'(by simpa using hj') := by
        have a1 := (List.getElem?_eq_some_iff.1 he').2
        have a2 := (List.getElem?_eq_some_iff.1 h3).2
        simp only [List.getElem_map, a1, a2, hke, h4]
      rw [List.nodup_iff_pairwise_ne, List.pairwise_iff_getElem] at hnd
      exact hnd i j (by simpa using hi') (by simpa using hj') hi e1

end

/-- The map in block b. -/
def mapA (b : Nat) (l : List (Int × Value)) : Assn := Assn.ex fun es => Assn.ex fun clock => Assn.fact (MapIs es clock l) * Assn.obj b (.map es clock)

theorem Bears.ofMapA {w : World} {b : Nat} {l : List (Int × Value)} {R : Assn} (h : Bears w (mapA b l * R)) : ∃ es clock, MapIs es clock l ∧ Bears w (Assn.obj b (.map es clock) * R) := by
  unfold mapA at h
  obtain ⟨es, h⟩ := Bears.ex.1 h
  obtain ⟨clock, h⟩ := Bears.ex.1 h
  rw [Assn.mul_assoc'] at h
  obtain ⟨h1, h2⟩ := Bears.fact.1 h
  exact ⟨es, clock, h1, h2⟩

theorem Bears.toMapA {w : World} {b : Nat} {l : List (Int × Value)} {R : Assn} {es : Array MapEntry} {clock : Nat} (h : Bears w (Assn.obj b (.map es clock) * R)) (hm : MapIs es clock l) : Bears w (mapA b l * R) := by
  unfold mapA
  refine Bears.ex.2 ⟨es, Bears.ex.2 ⟨clock, ?_⟩⟩
  rw [Assn.mul_assoc']
  exact Bears.fact.2 ⟨hm, h⟩

end Go.Proofs.YtcggloceabjjdaaGreat

/- Bytes in memory; rows that a slice owns; no condition. -/
namespace Go.Proofs.YtcggloceabjjdaaGreat
open Go.RowKit Go.MapKept

abbrev byteV (u : UInt8) : Value := .int .u8 (u.toNat : Int)
def cellsV (l : List UInt8) : List Value := l.map byteV
/-- An array of bytes. -/
def secV (l : List UInt8) : Value := .agg (cellsV l).toArray

@[simp] theorem length_cellsV (l : List UInt8) : (cellsV l).length = l.length := by simp [cellsV]
theorem byteV_inj {a b : UInt8} (h : byteV a = byteV b) : a = b := by
  unfold byteV at h
  simp only [Value.int.injEq, true_and] at h
  exact UInt8.toNat_inj.1 (by omega)
theorem cellsV_inj {a b : List UInt8} (h : cellsV a = cellsV b) : a = b := by
  unfold cellsV at h
  exact List.map_inj_right (fun x y h => byteV_inj h) |>.1 h
theorem oneCell_cellsV (l : List UInt8) : ∀ v ∈ cellsV l, v.oneCell' = true := by
  intro v hv
  obtain ⟨u, _, rfl⟩ := List.mem_map.1 hv
  rfl

/-- The slice v reads as the bytes l. -/
def BytesIn (w : World) (v : Value) (l : List UInt8) : Prop :=
  ∃ ad cap, v = .slice ad l.length cap ∧ (l ≠ [] → ∃ b o, ad = some ⟨b, o, none⟩ ∧ w.rangeAt b o (cellsV l))

theorem BytesIn.at {w : World} {ad : Option Addr} {n cap : Nat} {l : List UInt8} (h : BytesIn w (.slice ad n cap) l) (hl : l ≠ []) : ∃ b o, ad = some ⟨b, o, none⟩ ∧ w.rangeAt b o (cellsV l) := by
  obtain ⟨ad', cap', hv, hr⟩ := h
  simp only [Value.slice.injEq] at hv
  obtain ⟨rfl, _, _⟩ := hv
  exact hr hl
theorem BytesIn.cell {w : World} {ad : Option Addr} {n cap : Nat} {l : List UInt8} (h : BytesIn w (.slice ad n cap) l) {j : Nat} (hj : j < l.length) : ∃ b o, ad = some ⟨b, o, none⟩ ∧ w.cell? ⟨b, o + j, none⟩ = some (byteV (l.getD j 0)) := by
  obtain ⟨b, o, e, hr⟩ := h.at (by intro e; simp [e] at hj)
  refine ⟨b, o, e, hr j _ ?_⟩
  simp [cellsV, hj]
theorem BytesIn.len {w : World} {ad : Option Addr} {n cap : Nat} {l : List UInt8} (h : BytesIn w (.slice ad n cap) l) : n = l.length := by
  obtain ⟨ad', cap', hv, hr⟩ := h
  simp only [Value.slice.injEq] at hv
  exact hv.2.1

/-- The slice v reads as the ints l. -/
def IntsIn (w : World) (v : Value) (l : List Int) : Prop :=
  ∃ ad cap, v = .slice ad l.length cap ∧ (l ≠ [] → ∃ b o, ad = some ⟨b, o, none⟩ ∧ w.rangeAt b o (l.map (Value.int .i64)))
theorem IntsIn.at {w : World} {ad : Option Addr} {n cap : Nat} {l : List Int} (h : IntsIn w (.slice ad n cap) l) (hl : l ≠ []) : ∃ b o, ad = some ⟨b, o, none⟩ ∧ w.rangeAt b o (l.map (Value.int .i64)) := by
  obtain ⟨ad', cap', hv, hr⟩ := h
  simp only [Value.slice.injEq] at hv
  obtain ⟨rfl, _, _⟩ := hv
  exact hr hl

theorem IntsIn.cell {w : World} {b o n cap : Nat} {l : List Int} (h : IntsIn w (.slice (some ⟨b, o, none⟩) n cap) l) {j : Nat} (hj : j < l.length) : w.cell? ⟨b, o + j, none⟩ = some (.int .i64 (l.getD j 0)) := by
  obtain ⟨b', o', e, hr⟩ := h.at (by intro e; simp [e] at hj)
  cases e
  refine hr j _ ?_
  simp [hj]

/-- A row that a slice owns. -/
def rowA (e : TypeId) (size : Nat) (v : Value) (n : Nat) (xs : List Value) : Assn where
  holds w F := w.ownsRow 0 e size v n xs ∧ F = fun b => v.ownBlock = some b
  lt := by
    rintro w F ⟨h, rfl⟩ b hb
    exact (h.lt b hb).2
  loc := by
    rintro w w' F ⟨h, rfl⟩ hm hs
    refine ⟨⟨h.1, ?_⟩, rfl⟩
    rcases h.2 with hn | ⟨g, cap, cur, rfl, hb, hg, r⟩
    · exact .inl hn
    · exact .inr ⟨g, cap, cur, rfl, hb, (hs g rfl).trans hg, r⟩

theorem Bears.row {w : World} {e : TypeId} {size : Nat} {v : Value} {n : Nat} {xs : List Value} {R : Assn} (h : Bears w (rowA e size v n xs * R)) : w.ownsRow 0 e size v n xs := by
  obtain ⟨F, G, H, ⟨h, rfl⟩, _⟩ := h; exact h

theorem Bears.nilRow {w : World} {e : TypeId} {size : Nat} {R : Assn} : Bears w (rowA e size (.slice none 0 0) 0 [] * R) ↔ Bears w R := by
  constructor
  · exact fun h => h.right
  · rintro ⟨H, hR⟩
    exact ⟨_, _, H, ⟨World.ownsRow_nil _ _ _ _, rfl⟩, hR, fun b h1 _ => by simp [Value.ownBlock] at h1, rfl⟩

/-- The rows that a slice owns, one by one. -/
theorem Bears.rowForm {w : World} {e : TypeId} {size : Nat} {v : Value} {n : Nat} {xs : List Value} {R : Assn} (h : Bears w (rowA e size v n xs * R)) :
    ∃ a c, v = .slice a n c ∧ n ≤ c ∧ c ≤ maxLen ∧ ∀ k, k < n → ∃ g, a = some ⟨g, 0, none⟩ ∧ w.rangeAt g (k * size) ((xs.drop (k * size)).take size) := by
  obtain ⟨hl, h⟩ := h.row
  rcases h with ⟨rfl, rfl⟩ | ⟨g, cap, cur, rfl, _, hg, hn, hm, hs, ht⟩
  · exact ⟨none, 0, rfl, Nat.le_refl _, Nat.zero_le _, fun k hk => absurd hk (Nat.not_lt_zero k)⟩
  · refine ⟨_, cap, rfl, hn, hm, fun k _ => ⟨g, rfl, fun j v hv => ?_⟩⟩
    rw [cell_of_obj hg]
    rw [← ht, List.getElem?_take, List.getElem?_drop, List.getElem?_take] at hv
    split at hv
    · split at hv
      · simpa using hv
      · cases hv
    · cases hv

theorem Bears.rowAt {w : World} {e : TypeId} {size : Nat} {a : Option Addr} {c n : Nat} {xs : List Value} {R : Assn} (h : Bears w (rowA e size (.slice a n c) n xs * R)) {k : Nat} (hk : k < n) :
    ∃ g, a = some ⟨g, 0, none⟩ ∧ w.rangeAt g (k * size) ((xs.drop (k * size)).take size) := by
  obtain ⟨a', c', hv, _, _, hr⟩ := h.rowForm
  simp only [Value.slice.injEq] at hv
  obtain ⟨rfl, _, rfl⟩ := hv
  exact hr k hk

/-- Behind an append to a row. -/
theorem Bears.appended {w w' : World} {e : TypeId} {size : Nat} {v v' : Value} {n n' : Nat} {xs xs' : List Value} {R : Assn} (h : Bears w (rowA e size v n xs * R))
    (ho : w'.ownsRow 0 e size v' n' xs') (hg : w.grownBy w' v.ownBlock) (hl : v'.ownBlock = v.ownBlock ∨ v'.ownBlock = some w.heap.size) : Bears w' (rowA e size v' n' xs' * R) := by
  obtain ⟨F, G, H, ⟨h, rfl⟩, hR, hd, rfl⟩ := h
  refine ⟨_, _, H, ⟨ho, rfl⟩, R.loc hR ⟨hg.os, hg.tape, hg.output, hg.size⟩ (fun b hb => hg.block b (R.lt hR b hb) (fun e => hd b e.symm hb)), fun b h1 h2 => ?_, rfl⟩
  rcases hl with hl | hl
  · exact hd b (hl ▸ h1) h2
  · have h3 := R.lt hR b h2
    rw [hl] at h1
    cases h1
    omega

/-- Cells, set one behind the other. -/
def setList (c : Array Value) : Nat → List Value → Array Value
  | _, [] => c
  | o, v :: r => setList (c.setIfInBounds o v) (o + 1) r

theorem Bears.setCells {b : Nat} {t : TypeId} {fz : Nat × Nat} {R : Assn} : ∀ (o : Nat) (vs : List Value) {w : World} {c : Array Value}, Bears w (Assn.obj b (.cells c t fz) * R) →
    Bears (w.setCells b o vs) (Assn.obj b (.cells (setList c o vs) t fz) * R)
  | _, [], _, _, h => h
  | o, v :: r, _, _, h => Bears.setCells (o + 1) r (h.setCell v)

theorem setList_toList : ∀ (vs : List Value) (o : Nat) (c : Array Value), o + vs.length ≤ c.size → (setList c o vs).toList = c.toList.take o ++ vs ++ c.toList.drop (o + vs.length)
  | [], o, c, _ => by simp [setList]
  | v :: r, o, c, h => by
    simp only [List.length_cons] at h
    simp only [setList]
    rw [setList_toList r (o + 1) (c.setIfInBounds o v) (by simp; omega)]
    simp only [Array.toList_setIfInBounds, List.length_cons]
    rw [List.take_succ_eq_append_getElem (by simp; omega), List.take_set_of_le (by omega), List.drop_set_of_lt (by omega)]
    simp only [List.getElem_set_self, List.append_assoc, List.cons_append, List.nil_append]
    rw [show o + 1 + r.length = o + (r.length + 1) by omega]

theorem size_setList : ∀ (vs : List Value) (o : Nat) (c : Array Value), (setList c o vs).size = c.size
  | [], _, _ => rfl
  | v :: r, o, c => by simp only [setList]; rw [size_setList r (o + 1)]; simp

theorem setList_all (c cs : Array Value) (h : cs.size = c.size) : setList c 0 cs.toList = cs := by
  apply Array.toList_inj.1
  rw [setList_toList _ _ _ (by simp [h])]
  simp [h]

/-- A whole object of cells: what it reads as. -/
theorem rangeAt_of_obj {w : World} {b : Nat} {c : Array Value} {t : TypeId} {fz : Nat × Nat} (h : w.heap[b]? = some (.cells c t fz)) : w.rangeAt b 0 c.toList := by
  intro j v hv
  rw [cell_of_obj h]
  simpa using hv

theorem rangeAt_block {w w' : World} {b o : Nat} {cs : List Value} (h : w.rangeAt b o cs) (e : w'.heap[b]? = w.heap[b]?) : w'.rangeAt b o cs := by
  intro j v hv
  rw [World.cell?_of_block (a := ⟨b, o + j, none⟩) e]
  exact h j v hv
theorem rangeAt_lt {w : World} {b o : Nat} {cs : List Value} (h : w.rangeAt b o cs) (hne : cs ≠ []) : b < w.heap.size := by
  cases cs with
  | nil => exact absurd rfl hne
  | cons c cs => exact World.block_lt_of_cell? w ⟨b, o + 0, none⟩ (h 0 c rfl)
theorem rangeAt_alloc {w : World} {b o : Nat} {cs : List Value} (h : w.rangeAt b o cs) (hne : cs ≠ []) (ob : Obj) : (w.alloc ob).rangeAt b o cs :=
  rangeAt_block h (Below.heap_alloc _ _ _ (rangeAt_lt h hne))
theorem rangeAt_tail {w : World} {b o : Nat} {c : Value} {cs : List Value} (h : w.rangeAt b o (c :: cs)) : w.rangeAt b (o + 1) cs := by
  intro j v hv
  rw [show o + 1 + j = o + (j + 1) by omega]
  exact h (j + 1) v (by simpa using hv)
theorem rangeAt_drew {w : World} {b o : Nat} {cs : List Value} (h : w.rangeAt b o cs) : w.drew.rangeAt b o cs := h

theorem BytesIn.obj' {w : World} {b : Nat} {l : List UInt8} {t : TypeId} {fz : Nat × Nat} (h : w.heap[b]? = some (.cells (cellsV l).toArray t fz)) (cap : Nat) : BytesIn w (.slice (some ⟨b, 0, none⟩) l.length cap) l :=
  ⟨_, cap, rfl, fun _ => ⟨b, 0, rfl, by simpa using rangeAt_of_obj h⟩⟩

theorem BytesIn.tells {g : Nat} {l : List UInt8} {t : TypeId} {fz : Nat × Nat} {R : Assn} (n cap : Nat) (hn : n = l.length) : (Assn.obj g (.cells (cellsV l).toArray t fz) * R).Tells (fun w => BytesIn w (.slice (some ⟨g, 0, none⟩) n cap) l) := by
  intro w h
  subst hn
  exact ⟨_, cap, rfl, fun _ => ⟨g, 0, rfl, by have := rangeAt_of_obj h.obj; simpa using this⟩⟩

theorem IntsIn.tells {g : Nat} {l : List Int} {t : TypeId} {fz : Nat × Nat} {R : Assn} (n cap : Nat) (hn : n = l.length) : (Assn.obj g (.cells (l.map (Value.int .i64)).toArray t fz) * R).Tells (fun w => IntsIn w (.slice (some ⟨g, 0, none⟩) n cap) l) := by
  intro w h
  subst hn
  exact ⟨_, cap, rfl, fun _ => ⟨g, 0, rfl, by have := rangeAt_of_obj h.obj; simpa using this⟩⟩

theorem IntsIn.nil {R : Assn} (cap : Nat) : R.Tells (fun w => IntsIn w (.slice none 0 cap) []) := fun _ _ => ⟨none, cap, rfl, fun h => absurd rfl h⟩

end Go.Proofs.YtcggloceabjjdaaGreat

/- Laws at the operations of a walk, over separate pieces of memory; no condition. -/
namespace Go.Proofs.YtcggloceabjjdaaGreat
open Go.RowKit Go.MapKept

section
variable {P : Program} {w : World} {ops : Array Oper} {rest : List Oper} {o : Oper} {a : Act} {Q : Exit → Act → World → Prop} {R : Assn}

theorem run_mapUpdate_bears {t kt et : TypeId} {b : Nat} {l : List (Int × Value)} (ht : P.underlying t = some (.map kt et)) (hk : P.underlying kt = some (.int .i64)) (h : Bears w (mapA b l * R)) (x : Int) (v : Value) :
    ∃ w', (Instr.mapUpdate t (.map (some b)) (.int .i64 x) v).run P w = .ok () w' ∧ Bears w' (mapA b (putL x v l) * R) := by
  obtain ⟨es, clock, hm, h⟩ := h.ofMapA
  obtain ⟨es', clock', hrun, hm'⟩ := run_mapUpdate_int ht hk h.obj hm x v
  exact ⟨_, hrun, (h.setObj _).toMapA hm'⟩

theorem wp_mapUpdate_bears {K : Act → World → Prop} {m x v : Operand} {t kt et : TypeId} {b : Nat} {l : List (Int × Value)} {key : Int} {val : Value} (hop : o.op = .mapUpdate t m x v)
    (ht : P.underlying t = some (.map kt et)) (hk : P.underlying kt = some (.int .i64)) (h : Bears w (mapA b l * R))
    (hm : a.eval m = .map (some b)) (hx : a.eval x = .int .i64 key) (hv : a.eval v = val)
    (hK : ∀ w', Bears w' (mapA b (putL key val l) * R) → K (a.put o.dst undef) w') : o.wp P a w K Q := by
  obtain ⟨w', hrun, h'⟩ := run_mapUpdate_bears (R := R) ht hk h key val
  unfold Oper.wp
  simp [execOp, hop, hm, hx, hv, hrun, Result.andThen]
  exact hK w' h'

theorem wpList_mapUpdate_bears {m x v : Operand} {t kt et : TypeId} {b : Nat} {l : List (Int × Value)} {key : Int} {val : Value} (h : Bears w (mapA b l * R)) (hg : o.guard = none) (hop : o.op = .mapUpdate t m x v)
    (ht : P.underlying t = some (.map kt et)) (hk : P.underlying kt = some (.int .i64))
    (hm : a.eval m = .map (some b)) (hx : a.eval x = .int .i64 key) (hv : a.eval v = val)
    (hK : ∀ w', Bears w' (mapA b (putL key val l) * R) → wpList P ops Q rest (a.put o.dst undef) w') : wpList P ops Q (o :: rest) a w :=
  wpList_plain hg fun _ hK' => wp_mapUpdate_bears (R := R) hop ht hk h hm hx hv fun w' h' => hK' _ _ (hK w' h')

theorem run_append_bears {t ty e : TypeId} {i : TypeInfo} {z : Value} {size bytes : Nat} (ht : P.underlying t = some (.slice e)) (hi : P.info? e = some i) (hz : i.zero = some z)
    (hsize : i.size = size) (hby : i.bytes = bytes) (hzs : z.cells.size = size) (hsz : 0 < size)
    {v : Value} {n : Nat} {xs : List Value} (h : Bears w (rowA e size v n xs * R))
    {ad : Addr} {m c : Nat} {news : List Value} (hl : news.length = m * size) (hnews : ∀ j u, news[j]? = some u → w.cell? (ad.add j) = some u) (h1 : ∀ u ∈ news, u.oneCell' = true)
    (h63 : n + m ≤ maxLen) (hbytes : (n + m) * bytes ≤ 140737488355328) :
    ∃ a' c' w', (Builtin.append_ #[t, t] ty #[v, .slice (some ad) m c]).run P w = .ok (.slice a' (n + m) c') w' ∧ Bears w' (rowA e size (.slice a' (n + m) c') (n + m) (xs ++ news) * R) := by
  obtain ⟨v', w', hr, h2, h3, _, h5⟩ := run_append_own_at (P := P) w 0 t ty e i z size bytes ht hi hz hsize hby hzs hsz v n xs h.row ad m c news hl hnews h1 h63 hbytes (Nat.zero_le _)
  obtain ⟨a', c', rfl⟩ : ∃ a' c', v' = .slice a' (n + m) c' := by
    rcases h2.2 with ⟨rfl, h0⟩ | ⟨g, cap, cur, rfl, _⟩
    · exact ⟨none, 0, by rw [h0]⟩
    · exact ⟨_, _, rfl⟩
  exact ⟨a', c', w', hr, h.appended h2 h3 h5⟩

theorem wp_append_bears {K : Act → World → Prop} {s x : Operand} {t e : TypeId} {i : TypeInfo} {z : Value} {size bytes : Nat} {v : Value} {n : Nat} {xs : List Value} (h : Bears w (rowA e size v n xs * R))
    (ho : o.op = .call { callee := .builtin .append, args := #[s, x], argTypes := #[t, t] })
    (ht : P.underlying t = some (.slice e)) (hi : P.info? e = some i) (hz : i.zero = some z)
    (hsize : i.size = size) (hby : i.bytes = bytes) (hzs : z.cells.size = size) (hsz : 0 < size) (hs : a.eval s = v)
    {ad : Addr} {m c : Nat} {news : List Value} (hx : a.eval x = .slice (some ad) m c) (hl : news.length = m * size) (hnews : ∀ j u, news[j]? = some u → w.cell? (ad.add j) = some u) (h1 : ∀ u ∈ news, u.oneCell' = true)
    (h63 : n + m ≤ maxLen) (hbytes : (n + m) * bytes ≤ 140737488355328)
    (hK : ∀ a' c' w', Bears w' (rowA e size (.slice a' (n + m) c') (n + m) (xs ++ news) * R) → K (a.put o.dst (.slice a' (n + m) c')) w') : o.wp P a w K Q := by
  obtain ⟨a', c', w', hr, h2⟩ := run_append_bears (ty := o.type) ht hi hz hsize hby hzs hsz h hl hnews h1 h63 hbytes (c := c)
  unfold Oper.wp execOp
  simp only [ho, resolve, invoke, builtin, Sem.run_bind, Sem.run_pure, Result.andThen_ok, List.map_toArray, List.map_cons, List.map_nil, hs, hx, hr]
  exact hK a' c' w' h2

theorem wpList_append_bears {s x : Operand} {t e : TypeId} {i : TypeInfo} {z : Value} {size bytes : Nat} {v : Value} {n : Nat} {xs : List Value} (h : Bears w (rowA e size v n xs * R)) (hg : o.guard = none)
    (ho : o.op = .call { callee := .builtin .append, args := #[s, x], argTypes := #[t, t] })
    (ht : P.underlying t = some (.slice e)) (hi : P.info? e = some i) (hz : i.zero = some z)
    (hsize : i.size = size) (hby : i.bytes = bytes) (hzs : z.cells.size = size) (hsz : 0 < size) (hs : a.eval s = v)
    {ad : Addr} {m c : Nat} {news : List Value} (hx : a.eval x = .slice (some ad) m c) (hl : news.length = m * size) (hnews : ∀ j u, news[j]? = some u → w.cell? (ad.add j) = some u) (h1 : ∀ u ∈ news, u.oneCell' = true)
    (h63 : n + m ≤ maxLen) (hbytes : (n + m) * bytes ≤ 140737488355328)
    (hK : ∀ a' c' w', Bears w' (rowA e size (.slice a' (n + m) c') (n + m) (xs ++ news) * R) → wpList P ops Q rest (a.put o.dst (.slice a' (n + m) c')) w') : wpList P ops Q (o :: rest) a w :=
  wpList_plain hg fun _ hK' => wp_append_bears h ho ht hi hz hsize hby hzs hsz hs hx hl hnews h1 h63 hbytes fun a' c' w' h' => hK' _ _ (hK a' c' w' h')

/-- A look-up. -/
theorem wpList_lookup_bears {m x : Operand} {t kt et : TypeId} {b : Nat} {l : List (Int × Value)} {key : Int} {z : Value} (h : Bears w (mapA b l * R)) (hg : o.guard = none) (hop : o.op = .lookup t m x false)
    (ht : P.underlying t = some (.map kt et)) (hk : P.underlying kt = some (.int .i64)) (hz : (zeroValue et).run P w = .ok z w)
    (hm : a.eval m = .map (some b)) (hx : a.eval x = .int .i64 key)
    (hK : wpList P ops Q rest (a.put o.dst ((getL key l).getD z)) w) : wpList P ops Q (o :: rest) a w := by
  obtain ⟨es, clock, hm', h'⟩ := h.ofMapA
  have hrun := run_lookup_int ht hk hz h'.obj hm' key
  refine wpList_plain hg fun _ hK' => ?_
  unfold Oper.wp
  simp [execOp, hop, hm, hx, hrun, Result.andThen]
  exact hK' _ _ hK

/-- A new variable of a type of many cells. -/
theorem wpList_alloc_z {t : TypeId} {z : Value} (hg : o.guard = none) (hop : o.op = .alloc t) (hz : (zeroValue t).run P w = .ok z w)
    (hK : wpList P ops Q rest (a.put o.dst (.pointer (some ⟨w.heap.size, 0, none⟩))) (w.alloc (.cells z.cells t))) : wpList P ops Q (o :: rest) a w := by
  refine wpList_plain hg fun _ hK' => ?_
  unfold Oper.wp
  simp [execOp, hop, Instr.alloc, newVar, newRow, newObj, hz, Result.andThen, Sem.run]
  exact hK' _ _ hK

/-- A store of a whole object. -/
theorem wpList_store_obj {t t' : TypeId} {x y : Operand} {b : Nat} {c cs : Array Value} (h : Bears w (Assn.obj b (.cells c t' (0, 0)) * R)) (hg : o.guard = none) (hop : o.op = .store t x y) (hx : a.eval x = .pointer (some ⟨b, 0, none⟩)) (hy : a.eval y = .agg cs)
    (hs : cs.size = c.size) (hi : (P.info? t).map (·.size) = some c.size) (h1 : ∀ v ∈ cs.toList, v.oneCell' = true)
    (hK : ∀ w', Bears w' (Assn.obj b (.cells cs t' (0, 0)) * R) → wpList P ops Q rest (a.put o.dst undef) w') : wpList P ops Q (o :: rest) a w := by
  have hb := h.obj
  refine wpList_store_mid hg t x y hop b 0 cs hx hy (fun j hj => ⟨?_, frozen_of_obj hb _⟩) (by rw [hi, hs]) (Array.all_eq_true_iff_forall_mem.2 (fun v hv => h1 v (Array.mem_toList_iff.2 hv))) (hK _ ?_)
  · rw [cell_of_obj hb]; simp; omega
  · have := h.setCells 0 cs.toList
    rwa [setList_all _ _ (by simpa using hs)] at this

theorem wpStill_yield {Qs : Act → Prop} {v : Value} (hg : o.guard = none) (hrun : (execOp a.eval o).run P w = .ok (.value v) w) (h : wpStill P ops w Qs rest (a.put o.dst v)) : wpStill P ops w Qs (o :: rest) a := by
  unfold wpStill
  rw [if_pos (by simp [Region.wanted, hg])]
  unfold Oper.still
  rw [hrun]
  exact ⟨rfl, h⟩

theorem wpStill_load_mid {Qs : Act → Prop} (ty : TypeId) (x : Operand) (hg : o.guard = none) (ho : o.op = .load ty x) (b off : Nat) (hx : a.eval x = .pointer (some ⟨b, off, none⟩)) (cs : List Value) (d : TypeDesc) (hc : w.rangeAt b off cs)
    (hu : P.underlying ty = some d) (hd : d.isRow = true) (hi : (P.info? ty).map (·.size) = some cs.length)
    (h : wpStill P ops w Qs rest (a.put o.dst (.agg cs.toArray))) : wpStill P ops w Qs (o :: rest) a := by
  refine wpStill_yield hg ?_ h
  unfold execOp
  simp only [ho, hx, Instr.loadAt, Instr.sureAddr, Sem.run_bind, Sem.run_pure, Result.andThen_ok, run_loadVar_mid w b off ty cs d hc hu hd hi]

/-- A region that draws its order: what only reads and reckons comes first, in whatever order; then the last operations in theirs. -/
theorem wp_region_tail {id : Nat} {l : List Oper} (n : Nat) (hm : P.follows .mixedOrders = true) (hB : Region.lexTailB .any l.toArray n = true)
    (h : wpStill P l.toArray w.drew (fun a' => wpList P l.toArray Q (l.drop n) a' w.drew) (l.take n) a) : (Code.region id l.toArray true).wp P Q a w :=
  wp_region_still_tail n hm hB h

/-- At a step of a region that draws its order. -/
theorem step_append_bears {K : Act → World → Prop} {E : Prop} {s x : Operand} {t e : TypeId} {i : TypeInfo} {z : Value} {size bytes : Nat} {v : Value} {n : Nat} {xs : List Value} (h : Bears w (rowA e size v n xs * R)) (hg : o.guard = none)
    (ho : o.op = .call { callee := .builtin .append, args := #[s, x], argTypes := #[t, t] })
    (ht : P.underlying t = some (.slice e)) (hi : P.info? e = some i) (hz : i.zero = some z)
    (hsize : i.size = size) (hby : i.bytes = bytes) (hzs : z.cells.size = size) (hsz : 0 < size) (hs : a.eval s = v)
    {ad : Addr} {m c : Nat} {news : List Value} (hx : a.eval x = .slice (some ad) m c) (hl : news.length = m * size) (hnews : ∀ j u, news[j]? = some u → w.cell? (ad.add j) = some u) (h1 : ∀ u ∈ news, u.oneCell' = true)
    (h63 : n + m ≤ maxLen) (hbytes : (n + m) * bytes ≤ 140737488355328)
    (hK : ∀ a' c' w', Bears w' (rowA e size (.slice a' (n + m) c') (n + m) (xs ++ news) * R) → K (a.put o.dst (.slice a' (n + m) c')) w') :
    if Region.wanted o (yielded ops a.tmps) = true then Oper.wp P o a w K Q else E := by
  have hw : Region.wanted o (yielded ops a.tmps) = true := by simp [Region.wanted, hg]
  rw [if_pos hw]
  exact wp_append_bears h ho ht hi hz hsize hby hzs hsz hs hx hl hnews h1 h63 hbytes hK
end

end Go.Proofs.YtcggloceabjjdaaGreat

/- Maps keyed by ints: delete, clear, len; no condition. -/
namespace Go.Proofs.YtcggloceabjjdaaGreat
open Go.RowKit Go.MapKept

theorem MapIs.nodup {es : Array MapEntry} {clock : Nat} {l : List (Int × Value)} (h : MapIs es clock l) : (l.map Prod.fst).Nodup := by
  have h1 := h.stamped.2.2
  have h2 : es.toList.map (·.key) = l.map (fun p => Value.int .i64 p.1) := by
    have := congrArg (List.map Prod.fst) h.list
    simpa [List.map_map, Function.comp_def] using this
  rw [h2] at h1
  have h3 : (l.map Prod.fst).map (Value.int .i64) = l.map (fun p => Value.int .i64 p.1) := by simp [List.map_map, Function.comp_def]
  rw [← h3] at h1
  exact List.Pairwise.of_map (Value.int .i64) (fun a b h e => h (by rw [e])) h1
theorem getL_none {α : Type} {k : Int} : ∀ {l : List (Int × α)}, getL k l = none ↔ k ∉ l.map Prod.fst
  | [] => by simp [getL]
  | p :: l => by
    simp only [getL]
    by_cases h : p.1 = k
    · simp [h]
    · rw [if_neg h, getL_none (l := l)]
      simp [Ne.symm h]
theorem delL_none {α : Type} {k : Int} : ∀ {l : List (Int × α)}, getL k l = none → delL k l = l
  | [], _ => rfl
  | p :: l, h => by
    simp only [getL] at h
    split at h
    · cases h
    · rename_i hp
      simp only [delL]
      rw [if_neg hp, delL_none h]
theorem getL_delL {α : Type} (k j : Int) : ∀ {l : List (Int × α)}, (l.map Prod.fst).Nodup → getL j (delL k l) = if j = k then none else getL j l
  | [], _ => by simp [delL, getL]
  | p :: l, h => by
    simp only [List.map_cons, List.nodup_cons] at h
    simp only [delL]
    by_cases hp : p.1 = k
    · rw [if_pos hp]
      by_cases hj : j = k
      · subst hj
        rw [if_pos rfl, getL_none]
        rw [← hp]
        exact h.1
      · rw [if_neg hj]
        simp only [getL]
        rw [if_neg (by rw [hp]; exact Ne.symm hj)]
    · rw [if_neg hp]
      simp only [getL]
      by_cases hj : p.1 = j
      · rw [if_pos hj, if_neg (by rw [← hj]; exact hp), if_pos hj]
      · rw [if_neg hj, getL_delL k j h.2, if_neg hj]
theorem delL_length {α : Type} {k : Int} : ∀ {l : List (Int × α)}, (getL k l).isSome = true → (delL k l).length + 1 = l.length
  | [], h => by simp [getL] at h
  | p :: l, h => by
    simp only [getL] at h
    simp only [delL]
    by_cases hp : p.1 = k
    · rw [if_pos hp]; rfl
    · rw [if_neg hp] at h ⊢
      have := delL_length h
      simp only [List.length_cons]
      omega

theorem erase_delL (x : Int) : ∀ (es : List MapEntry) (l : List (Int × Value)) (j : Nat) (e : MapEntry), es.map (fun e => (e.key, e.val)) = l.map (fun p => (Value.int .i64 p.1, p.2)) →
    es[j]? = some e → e.key = .int .i64 x → (∀ i e', i < j → es[i]? = some e' → e'.key ≠ .int .i64 x) →
    (es.eraseIdx j).map (fun e => (e.key, e.val)) = (delL x l).map (fun p => (Value.int .i64 p.1, p.2))
  | [], l, j, e, _, hj, _, _ => by simp at hj
  | e0 :: es, l, j, e, h, hj, hk, hlt => by
    cases l with
    | nil => simp at h
    | cons p l =>
      simp only [List.map_cons, List.cons.injEq, Prod.mk.injEq] at h
      obtain ⟨⟨hk0, hv0⟩, h⟩ := h
      cases j with
      | zero =>
        obtain rfl : e0 = e := by simpa using hj
        have hp : p.1 = x := by rw [hk0] at hk; simpa using hk
        simp [delL, hp, h]
      | succ j =>
        have hne : p.1 ≠ x := fun hp => hlt 0 e0 (by omega) rfl (by rw [hk0, hp])
        simp only [List.eraseIdx_cons_succ, List.map_cons, delL, hne, if_false, hk0, hv0]
        congr 1
        exact erase_delL x es l j e h (by simpa using hj) hk (fun i e' hi he' => hlt (i + 1) e' (by omega) (by simpa using he'))

section
variable {P : Program} {w : World} {t kt et : TypeId} {b : Nat} {es : Array MapEntry} {clock : Nat} {l : List (Int × Value)}

theorem run_delete_int (ht : P.underlying t = some (.map kt et)) (hk : P.underlying kt = some (.int .i64)) (hb : w.heap[b]? = some (.map es clock)) (h : MapIs es clock l) (x : Int) (ty : TypeId) :
    ∃ es' clock', (Builtin.delete_ #[t, kt] ty #[.map (some b), .int .i64 x]).run P w = .ok (.tuple #[]) { w with heap := w.heap.setIfInBounds b (.map es' clock') } ∧ MapIs es' clock' (delL x l) := by
  have hc := run_checkKey (P := P) (w := w) hk (show IsKey (.int .i64) (.int .i64 x) from rfl) es.isEmpty 9999
  rcases findNow_spec (show IsKey (.int .i64) (.int .i64 x) from rfl) es.toList 0 h.keys with ⟨h2, h3⟩ | ⟨j, e, h2, h3, h4⟩
  · have hf := run_findKey (P := P) (w := w) hk h2
    refine ⟨es, clock, ?_, ?_⟩
    · simp [Builtin.delete_, run_underlying ht, MapKept.run_getObj_map hb, hc, hf, MapKept.run_setObj_map _ hb, Result.andThen]
    · have hn : getL x l = none := by
        rcases findNow_list x es.toList l 0 h.list with ⟨h1, _⟩ | ⟨j, v, e, _, h5, _⟩
        · exact h1
        · rw [h2] at h5; cases h5
      rw [delL_none hn]
      exact h
  · simp only [Nat.zero_add] at h2
    have hf := run_findKey (P := P) (w := w) hk h2
    have hjl : j < es.size := by have := (List.getElem?_eq_some_iff.1 h3).1; simpa using this
    have hlist : (es.eraseIdxIfInBounds j).toList = es.toList.eraseIdx j := by
      unfold Array.eraseIdxIfInBounds
      rw [dif_pos hjl]
      simp
    refine ⟨es.eraseIdxIfInBounds j, clock, ?_, ?_, stamped_erase h.stamped _⟩
    · simp [Builtin.delete_, run_underlying ht, MapKept.run_getObj_map hb, hc, hf, MapKept.run_setObj_map _ hb, Result.andThen]
    · rw [hlist]
      refine erase_delL x es.toList l j e h.list h3 h4 (fun i e' hi he' hke => ?_)
      have hnd := h.stamped.2.2
      have hi' : i < es.toList.length := (List.getElem?_eq_some_iff.1 he').1
      have hj' : j < es.toList.length := (List.getElem?_eq_some_iff.1 h3).1
      have e1 : (es.toList.map (·.key))[i]'(by simpa using hi') = (es.toList.map (·.key))[j]'(by simpa using hj') := by
        have a1 := (List.getElem?_eq_some_iff.1 he').2
        have a2 := (List.getElem?_eq_some_iff.1 h3).2
        simp only [List.getElem_map, a1, a2, hke, h4]
      rw [List.nodup_iff_pairwise_ne, List.pairwise_iff_getElem] at hnd
      exact hnd i j (by simpa using hi') (by simpa using hj') hi e1

theorem run_clear_int (ht : P.underlying t = some (.map kt et)) (hb : w.heap[b]? = some (.map es clock)) (ty : TypeId) :
    ∃ clock', (Builtin.clear_ #[t] ty #[.map (some b)]).run P w = .ok (.tuple #[]) { w with heap := w.heap.setIfInBounds b (.map #[] clock') } ∧ MapIs #[] clock' [] := by
  refine ⟨clock, ?_, rfl, stamped_empty _⟩
  simp [Builtin.clear_, run_underlying ht, MapKept.run_getObj_map hb, MapKept.run_setObj_map _ hb, Result.andThen]

theorem run_len_int (ht : P.underlying t = some (.map kt et)) (hb : w.heap[b]? = some (.map es clock)) (h : MapIs es clock l) (ty : TypeId) :
    (Builtin.len_ #[t] ty #[.map (some b)]).run P w = .ok (.int .i64 l.length) w := by
  have hs : es.size = l.length := by have := congrArg List.length h.list; simpa using this
  simp [Builtin.len_, run_underlying ht, MapKept.run_getObj_map hb, Result.andThen, hs, goInt]
end

section
variable {P : Program} {w : World} {ops : Array Oper} {rest : List Oper} {o : Oper} {a : Act} {Q : Exit → Act → World → Prop} {R : Assn}

theorem wpList_delete_bears {m x : Operand} {t kt et : TypeId} {b : Nat} {l : List (Int × Value)} {key : Int} (h : Bears w (mapA b l * R)) (hg : o.guard = none)
    (ho : o.op = .call { callee := .builtin .delete, args := #[m, x], argTypes := #[t, kt] }) (ht : P.underlying t = some (.map kt et)) (hk : P.underlying kt = some (.int .i64))
    (hm : a.eval m = .map (some b)) (hx : a.eval x = .int .i64 key)
    (hK : ∀ w', Bears w' (mapA b (delL key l) * R) → wpList P ops Q rest (a.put o.dst (.tuple #[])) w') : wpList P ops Q (o :: rest) a w := by
  obtain ⟨es, clock, hmi, hb⟩ := h.ofMapA
  obtain ⟨es', clock', hrun, hm'⟩ := run_delete_int ht hk hb.obj hmi key o.type
  refine wpList_plain hg fun _ hK' => ?_
  unfold Oper.wp execOp
  simp only [ho, resolve, invoke, builtin, Sem.run_bind, Sem.run_pure, Result.andThen_ok, List.map_toArray, List.map_cons, List.map_nil, hm, hx, hrun]
  exact hK' _ _ (hK _ ((hb.setObj _).toMapA hm'))

theorem wpList_clear_bears {m : Operand} {t kt et : TypeId} {b : Nat} {l : List (Int × Value)} (h : Bears w (mapA b l * R)) (hg : o.guard = none)
    (ho : o.op = .call { callee := .builtin .clear, args := #[m], argTypes := #[t] }) (ht : P.underlying t = some (.map kt et))
    (hm : a.eval m = .map (some b))
    (hK : ∀ w', Bears w' (mapA b [] * R) → wpList P ops Q rest (a.put o.dst (.tuple #[])) w') : wpList P ops Q (o :: rest) a w := by
  obtain ⟨es, clock, hmi, hb⟩ := h.ofMapA
  obtain ⟨clock', hrun, hm'⟩ := run_clear_int ht hb.obj o.type
  refine wpList_plain hg fun _ hK' => ?_
  unfold Oper.wp execOp
  simp only [ho, resolve, invoke, builtin, Sem.run_bind, Sem.run_pure, Result.andThen_ok, List.map_toArray, List.map_cons, List.map_nil, hm, hrun]
  exact hK' _ _ (hK _ ((hb.setObj _).toMapA hm'))

theorem wpList_lenMap_bears {m : Operand} {t kt et : TypeId} {b : Nat} {l : List (Int × Value)} (h : Bears w (mapA b l * R)) (hg : o.guard = none)
    (ho : o.op = .call { callee := .builtin .len, args := #[m], argTypes := #[t] }) (ht : P.underlying t = some (.map kt et))
    (hm : a.eval m = .map (some b))
    (hK : wpList P ops Q rest (a.put o.dst (.int .i64 l.length)) w) : wpList P ops Q (o :: rest) a w := by
  obtain ⟨es, clock, hmi, hb⟩ := h.ofMapA
  have hrun := run_len_int ht hb.obj hmi o.type
  refine wpList_plain hg fun _ hK' => ?_
  unfold Oper.wp execOp
  simp only [ho, resolve, invoke, builtin, Sem.run_bind, Sem.run_pure, Result.andThen_ok, List.map_toArray, List.map_cons, List.map_nil, hm, hrun]
  exact hK' _ _ hK
end

end Go.Proofs.YtcggloceabjjdaaGreat

/- The disk: a plain model of it, and how it lies in memory; no condition. -/
namespace Go.Proofs.YtcggloceabjjdaaGreat
open Go.RowKit Go.MapKept

abbrev Sec := List UInt8
def zeroSec : Sec := List.replicate 64 0

structure DiskM where
  len : Nat
  sure : Nat → Sec
  waits : List (Nat × Sec)
  off : Bool
  fuse : Int
  steps : Int

def updS (f : Nat → Sec) (i : Nat) (s : Sec) : Nat → Sec := fun j => if j = i then s else f j
def settle (f : Nat → Sec) (l : List (Nat × Sec)) : Nat → Sec := l.foldl (fun f p => updS f p.1 p.2) f
def DiskM.now (d : DiskM) : Nat → Sec := settle d.sure d.waits

/-- Why a sector can't be asked for. -/
def DiskM.check (d : DiskM) (i : Int) : Int := if d.off then 2 else if i < 0 ∨ (d.len : Int) ≤ i then 10 else 0
/-- A step. -/
def DiskM.step (d : DiskM) : Int × DiskM :=
  if d.fuse = 0 then (2, { d with off := true, fuse := -1 })
  else (0, { d with fuse := if 0 < d.fuse then d.fuse - 1 else d.fuse, steps := wrap64 (d.steps + 1) })
def DiskM.write (d : DiskM) (i : Int) (b : Sec) : Int × DiskM :=
  if d.check i ≠ 0 then (d.check i, d) else if b.length ≠ 64 then (11, d) else
  if d.step.1 ≠ 0 then d.step else (0, { d.step.2 with waits := d.waits ++ [(i.toNat, b)] })
def DiskM.barrier (d : DiskM) : Int × DiskM :=
  if d.off then (2, d) else if d.step.1 ≠ 0 then d.step else (0, { d.step.2 with sure := d.now, waits := [] })
def DiskM.setFuse (d : DiskM) (n : Int) : DiskM := if d.off then d else { d with fuse := max n (-1) }
/-- Is write number k kept? -/
def keeps (keep : List Int) (k : Nat) : Bool := !keep.isEmpty && (keep.getD (k % keep.length) 0) % 2 != 0
theorem tmod_two (x : Int) : (x.tmod 2 != 0) = (x % 2 != 0) := by
  rw [Bool.eq_iff_iff, bne_iff_ne, bne_iff_ne]
  exact ⟨fun h e => h (Int.tmod_eq_zero_of_dvd (Int.dvd_of_emod_eq_zero e)), fun h e => h (Int.emod_eq_zero_of_dvd (Int.dvd_of_tmod_eq_zero e))⟩
/-- Which of the writes that wait are kept. -/
def kept (keep : List Int) : Nat → List (Nat × Sec) → List (Nat × Sec)
  | _, [] => []
  | k, p :: r => if keeps keep k = true then p :: kept keep (k + 1) r else kept keep (k + 1) r
theorem kept_append (keep : List Int) (p : Nat × Sec) : ∀ (l : List (Nat × Sec)) (j : Nat), kept keep j (l ++ [p]) = kept keep j l ++ if keeps keep (j + l.length) = true then [p] else []
  | [], j => by simp [kept]
  | q :: l, j => by
    have e : j + (l.length + 1) = j + 1 + l.length := by omega
    simp only [List.cons_append, kept, List.length_cons, e]
    rw [kept_append keep p l (j + 1)]
    split <;> rfl
theorem kept_sub (keep : List Int) : ∀ (l : List (Nat × Sec)) (j : Nat) (p : Nat × Sec), p ∈ kept keep j l → p ∈ l
  | [], _, _, h => by simp [kept] at h
  | q :: l, j, p, h => by
    simp only [kept] at h
    split at h
    · rcases List.mem_cons.1 h with rfl | h
      · simp
      · exact List.mem_cons_of_mem _ (kept_sub keep l _ p h)
    · exact List.mem_cons_of_mem _ (kept_sub keep l _ p h)
def DiskM.boot (d : DiskM) (keep : List Int) : DiskM :=
  { d with sure := settle d.sure (kept keep 0 d.waits), waits := [], off := false, fuse := -1 }
def DiskM.new (n : Nat) : DiskM := { len := n, sure := fun _ => zeroSec, waits := [], off := false, fuse := -1, steps := 0 }

structure DiskM.WF (d : DiskM) : Prop where
  len : d.len ≤ 8192
  sure : ∀ i, (d.sure i).length = 64
  waits : ∀ p ∈ d.waits, p.1 < d.len ∧ p.2.length = 64
  fuse : -1 ≤ d.fuse ∧ d.fuse < 9223372036854775808
  steps : -9223372036854775808 ≤ d.steps ∧ d.steps < 9223372036854775808

/-- A map of sectors: none is noughts. -/
def SecMap (l : List (Int × Value)) (f : Nat → Sec) : Prop := ∀ i : Nat, (getL (i : Int) l).getD (secV zeroSec) = secV (f i)

theorem SecMap.put {l : List (Int × Value)} {f : Nat → Sec} (h : SecMap l f) (i : Nat) (s : Sec) : SecMap (putL (i : Int) (secV s) l) (updS f i s) := by
  intro j
  rw [getL_putL]
  unfold updS
  by_cases hj : j = i
  · subst hj; simp
  · have : (j : Int) ≠ (i : Int) := by omega
    simp only [this, if_false, hj]
    exact h j

theorem SecMap.nil : SecMap [] (fun _ => zeroSec) := fun _ => rfl

def waitCells (l : List (Nat × Sec)) : List Value := l.flatMap fun p => .int .i64 (p.1 : Int) :: cellsV p.2

theorem settle_length {f : Nat → Sec} (hf : ∀ i, (f i).length = 64) {l : List (Nat × Sec)} (hl : ∀ p ∈ l, p.2.length = 64) (i : Nat) : (settle f l i).length = 64 := by
  induction l generalizing f with
  | nil => exact hf i
  | cons p l ih =>
    refine ih (fun j => ?_) (fun q hq => hl q (by simp [hq]))
    show (updS f p.1 p.2 j).length = 64
    unfold updS
    split
    · exact hl p (by simp)
    · exact hf j

theorem settle_append (f : Nat → Sec) (l : List (Nat × Sec)) (p : Nat × Sec) : settle f (l ++ [p]) = updS (settle f l) p.1 p.2 := by
  unfold settle
  rw [List.foldl_append]
  rfl

/-- The disk's own object. -/
abbrev diskObj (p : Nat) (d : DiskM) (ms mn : Nat) (wv : Value) : Assn :=
  Assn.obj p (.cells #[.int .i64 d.len, .map (some ms), .map (some mn), wv, .bool d.off, .int .i64 d.fuse, .int .i64 d.steps] 84 (0, 0))

/-- How a disk lies in memory. -/
def diskA (p : Nat) (d : DiskM) : Assn :=
  Assn.ex fun (x : Nat × Nat × Value × List (Int × Value) × List (Int × Value)) =>
    Assn.fact (d.WF ∧ SecMap x.2.2.2.1 d.sure ∧ SecMap x.2.2.2.2 d.now) *
    (diskObj p d x.1 x.2.1 x.2.2.1 *
    (rowA 89 65 x.2.2.1 d.waits.length (waitCells d.waits) * (mapA x.1 x.2.2.2.1 * mapA x.2.1 x.2.2.2.2)))

theorem Bears.disk {w : World} {p : Nat} {d : DiskM} {R : Assn} : Bears w (diskA p d * R) ↔ ∃ ms mn wv ls ln, d.WF ∧ SecMap ls d.sure ∧ SecMap ln d.now ∧
    Bears w (diskObj p d ms mn wv *
      (rowA 89 65 wv d.waits.length (waitCells d.waits) * (mapA ms ls * (mapA mn ln * R)))) := by
  unfold diskA
  rw [Bears.ex]
  simp only [Assn.mul_assoc']
  constructor
  · rintro ⟨⟨ms, mn, wv, ls, ln⟩, h⟩
    obtain ⟨⟨h1, h2, h3⟩, h⟩ := Bears.fact.1 h
    exact ⟨ms, mn, wv, ls, ln, h1, h2, h3, h⟩
  · rintro ⟨ms, mn, wv, ls, ln, h1, h2, h3, h⟩
    exact ⟨⟨ms, mn, wv, ls, ln⟩, Bears.fact.2 ⟨⟨h1, h2, h3⟩, h⟩⟩

end Go.Proofs.YtcggloceabjjdaaGreat

/- The cache: a plain model of it; no condition. -/
namespace Go.Proofs.YtcggloceabjjdaaGreat
open Go.RowKit Go.MapKept

/-- A sector that is held. -/
structure LineM where
  at' : Int
  b : Sec
  pin : Bool
instance : Inhabited LineM := ⟨⟨0, [], false⟩⟩
/-- The lines, the one that was used the longest ago first. -/
structure CacheM where
  most : Int
  misses : Int
  isOpen : Bool
  lines : List LineM

def findL (i : Int) : List LineM → Option LineM
  | [] => none
  | x :: r => if x.at' = i then some x else findL i r
def forgetL (i : Int) : List LineM → List LineM
  | [] => []
  | x :: r => if x.at' = i then r else x :: forgetL i r
def useL (x : LineM) (ls : List LineM) : List LineM := forgetL x.at' ls ++ [x]
/-- The first line that is not pinned, taken out. -/
def dropFree : List LineM → Option (List LineM)
  | [] => none
  | x :: r => if x.pin = false then some r else (dropFree r).map (x :: ·)
def trimL (most : Int) : Nat → List LineM → List LineM
  | 0, ls => ls
  | n + 1, ls => if (ls.length : Int) ≤ most then ls else match dropFree ls with
    | none => ls
    | some r => trimL most n r
def CacheM.trim (c : CacheM) : CacheM := { c with lines := trimL c.most c.lines.length c.lines }

structure CacheM.WF (c : CacheM) : Prop where
  nodup : (c.lines.map (·.at')).Nodup
  bytes : ∀ x ∈ c.lines, x.b.length = 64
  most : 1 ≤ c.most ∧ c.most ≤ 9223372036854775807
  misses : -9223372036854775808 ≤ c.misses ∧ c.misses ≤ 9223372036854775807
  closed : c.isOpen = false → ∀ x ∈ c.lines, x.pin = false
  place : ∀ x ∈ c.lines, x.pin = true → 0 ≤ x.at' ∧ x.at' ≤ 8192

theorem forgetL_sub (i : Int) : ∀ (ls : List LineM), (forgetL i ls).Sublist ls
  | [] => by simp [forgetL]
  | x :: r => by
    simp only [forgetL]
    split
    · exact List.sublist_cons_self x r
    · exact (forgetL_sub i r).cons_cons x
theorem forgetL_not {i : Int} : ∀ {ls : List LineM}, (ls.map (·.at')).Nodup → i ∉ (forgetL i ls).map (·.at')
  | [], _ => by simp [forgetL]
  | x :: r, h => by
    simp only [List.map_cons, List.nodup_cons] at h
    simp only [forgetL]
    split
    · rename_i e
      rw [← e]
      exact h.1
    · rename_i e
      simp only [List.map_cons, List.mem_cons, not_or]
      exact ⟨Ne.symm e, forgetL_not h.2⟩
theorem forgetL_none {i : Int} : ∀ {ls : List LineM}, findL i ls = none → forgetL i ls = ls
  | [], _ => rfl
  | x :: r, h => by
    simp only [findL] at h
    split at h
    · cases h
    · rename_i e
      simp only [forgetL]
      rw [if_neg e, forgetL_none h]
theorem findL_forgetL (i j : Int) : ∀ {ls : List LineM}, (ls.map (·.at')).Nodup → findL j (forgetL i ls) = if j = i then none else findL j ls
  | [], _ => by simp [forgetL, findL]
  | x :: r, h => by
    have h' := h
    simp only [List.map_cons, List.nodup_cons] at h
    simp only [forgetL]
    by_cases e : x.at' = i
    · rw [if_pos e]
      by_cases hj : j = i
      · subst hj
        rw [if_pos rfl]
        have hn : j ∉ r.map (·.at') := by rw [← e]; exact h.1
        clear h h' e
        induction r with
        | nil => rfl
        | cons y r ih =>
          simp only [List.map_cons, List.mem_cons, not_or] at hn
          simp only [findL]
          rw [if_neg (Ne.symm hn.1)]
          exact ih hn.2
      · rw [if_neg hj]
        simp only [findL]
        rw [if_neg (by rw [e]; exact Ne.symm hj)]
    · rw [if_neg e]
      simp only [findL]
      by_cases hx : x.at' = j
      · rw [if_pos hx, if_neg (by rw [← hx]; exact e), if_pos hx]
      · rw [if_neg hx, findL_forgetL i j h.2, if_neg hx]
theorem findL_snoc (j : Int) (x : LineM) : ∀ (ls : List LineM), findL j (ls ++ [x]) = if (findL j ls).isSome then findL j ls else if x.at' = j then some x else none
  | [] => by simp [findL]
  | y :: r => by
    simp only [List.cons_append, findL]
    by_cases h : y.at' = j
    · simp [h]
    · simp only [h, if_false]
      exact findL_snoc j x r
theorem findL_useL {x : LineM} {ls : List LineM} (h : (ls.map (·.at')).Nodup) (j : Int) : findL j (useL x ls) = if j = x.at' then some x else findL j ls := by
  unfold useL
  rw [findL_snoc, findL_forgetL _ _ h]
  by_cases e : j = x.at'
  · subst e; simp
  · rw [if_neg e]
    have e2 : ¬ x.at' = j := Ne.symm e
    cases h2 : findL j ls with
    | none => simp [e, e2]
    | some y => simp [e]
theorem useL_nodup {x : LineM} {ls : List LineM} (h : (ls.map (·.at')).Nodup) : ((useL x ls).map (·.at')).Nodup := by
  unfold useL
  rw [List.map_append, List.nodup_append]
  refine ⟨((forgetL_sub x.at' ls).map _).nodup h, by simp, fun a ha b hb => ?_⟩
  simp only [List.map_cons, List.map_nil, List.mem_singleton] at hb
  subst hb
  intro e
  subst e
  exact forgetL_not h ha
theorem dropFree_sub : ∀ {ls r : List LineM}, dropFree ls = some r → r.Sublist ls ∧ r.length + 1 = ls.length
  | [], _, h => by simp [dropFree] at h
  | x :: l, r, h => by
    simp only [dropFree] at h
    split at h
    · simp only [Option.some.injEq] at h
      subst h
      exact ⟨List.sublist_cons_self x l, rfl⟩
    · cases hd : dropFree l with
      | none => simp [hd] at h
      | some r' =>
        simp only [hd, Option.map_some, Option.some.injEq] at h
        subst h
        obtain ⟨h1, h2⟩ := dropFree_sub hd
        exact ⟨h1.cons_cons x, by simp [h2]⟩
theorem trimL_sub (most : Int) : ∀ (n : Nat) (ls : List LineM), (trimL most n ls).Sublist ls
  | 0, ls => List.Sublist.refl _
  | n + 1, ls => by
    simp only [trimL]
    split
    · exact List.Sublist.refl _
    · split
      · exact List.Sublist.refl _
      · rename_i r hd
        exact (trimL_sub most n r).trans (dropFree_sub hd).1

end Go.Proofs.YtcggloceabjjdaaGreat

/- The log: a plain model of it; no condition. -/
namespace Go.Proofs.YtcggloceabjjdaaGreat
open Go.RowKit Go.MapKept

/-! ### Numbers in bytes -/
/-- The byte of n at so many bytes from the right. -/
def byteAt (n : Int) (j : Nat) : UInt8 := UInt8.ofNat ((n / 2 ^ (8 * j)) % 256).toNat
/-- n in m bytes, the greatest first. -/
def numB : Nat → Int → List UInt8
  | 0, _ => []
  | m + 1, n => byteAt n m :: numB m n
/-- The number that bytes are. -/
def beN : List UInt8 → Nat := List.foldl (fun n c => n * 256 + c.toNat) 0
def takenB (l : List UInt8) : Int := wrap64 (beN l)

theorem numB_length (n : Int) : ∀ m, (numB m n).length = m
  | 0 => rfl
  | m + 1 => by simp [numB, numB_length n m]
theorem byteV_byteAt (n : Int) (j : Nat) : byteV (byteAt n j) = .int .u8 ((n / 2 ^ (8 * j)) % 256) := by
  have h0 : 0 ≤ (n / 2 ^ (8 * j)) % 256 := Int.emod_nonneg _ (by decide)
  have h1 : (n / 2 ^ (8 * j)) % 256 < 256 := Int.emod_lt_of_pos _ (by decide)
  unfold byteV byteAt
  generalize (n / 2 ^ (8 * j)) % 256 = x at h0 h1
  congr 1
  rw [UInt8.toNat_ofNat_of_lt' (by show x.toNat < 256; omega)]
  omega
theorem byteAt_toNat (n : Nat) (j : Nat) : (byteAt (n : Int) j).toNat = n / 256 ^ j % 256 := by
  have e : ((n : Int) / 2 ^ (8 * j)) % 256 = ((n / 256 ^ j % 256 : Nat) : Int) := by
    rw [show (2 : Int) ^ (8 * j) = ((256 ^ j : Nat) : Int) by rw [Int.pow_mul]; simp]
    omega
  unfold byteAt
  rw [e, Int.toNat_natCast, UInt8.toNat_ofNat_of_lt' (by show n / 256 ^ j % 256 < 256; omega)]

theorem beN_foldl : ∀ (l : List UInt8) (a : Nat), l.foldl (fun n c => n * 256 + c.toNat) a = a * 256 ^ l.length + beN l
  | [], a => by simp [beN]
  | c :: l, a => by
    simp only [List.foldl_cons, List.length_cons, beN]
    rw [beN_foldl l (a * 256 + c.toNat), beN_foldl l (0 * 256 + c.toNat), Nat.pow_succ']
    rw [Nat.add_mul, Nat.zero_mul, Nat.zero_add, Nat.mul_assoc, Nat.add_assoc]
theorem beN_cons (c : UInt8) (l : List UInt8) : beN (c :: l) = c.toNat * 256 ^ l.length + beN l := by
  have := beN_foldl l (0 * 256 + c.toNat)
  simpa [beN] using this
theorem beN_snoc (l : List UInt8) (c : UInt8) : beN (l ++ [c]) = beN l * 256 + c.toNat := by simp [beN]
theorem beN_numB (n : Nat) : ∀ m, beN (numB m n) = n % 256 ^ m
  | 0 => by simp [numB, beN, Nat.mod_one]
  | m + 1 => by
    rw [numB, beN_cons, numB_length, beN_numB n m, byteAt_toNat]
    rw [Nat.pow_succ, Nat.mod_mul, Nat.mul_comm, Nat.add_comm]
theorem takenB_numB {m : Nat} {n : Nat} (h : n < 256 ^ m) (h2 : n < 9223372036854775808) : takenB (numB m n) = n := by
  unfold takenB
  rw [beN_numB, Nat.mod_eq_of_lt h]
  unfold wrap64
  omega
theorem numB_inj {m : Nat} {a b : Nat} (ha : a < 256 ^ m) (hb : b < 256 ^ m) (h : numB m a = numB m b) : a = b := by
  have := congrArg beN h
  rw [beN_numB, beN_numB, Nat.mod_eq_of_lt ha, Nat.mod_eq_of_lt hb] at this
  exact this

/-- s over what l has from o on. -/
def putAt (l : List UInt8) (o : Nat) (s : List UInt8) : List UInt8 := l.take o ++ s ++ l.drop (o + s.length)
theorem putAt_length {l : List UInt8} {o : Nat} {s : List UInt8} (h : o + s.length ≤ l.length) : (putAt l o s).length = l.length := by
  simp [putAt]; omega
theorem putAt_nil (l : List UInt8) (o : Nat) : putAt l o [] = l := by simp [putAt]
theorem putAt_set {l : List UInt8} {o : Nat} {s : List UInt8} (h : o + 1 + s.length ≤ l.length) (c : UInt8) : (putAt l (o + 1) s).set o c = putAt l o (c :: s) := by
  have h1 : l.take (o + 1) = l.take o ++ [l[o]'(by omega)] := List.take_succ_eq_append_getElem (by omega)
  have h2 : (l.take o).length = o := by simp only [List.length_take]; omega
  unfold putAt
  rw [h1]
  generalize l.take o = t at h2
  rw [show t ++ [l[o]'(by omega)] ++ s ++ l.drop (o + 1 + s.length) = t ++ (l[o]'(by omega) :: (s ++ l.drop (o + 1 + s.length))) by simp]
  rw [List.set_append_right _ _ (by omega), show o - t.length = 0 by omega, List.set_cons_zero]
  simp [Nat.add_assoc, Nat.add_comm 1]

/-! ### The head's sector -/
def markB : List UInt8 := [101, 115, 116, 97, 102, 101, 116, 116, 101, 58, 108, 111, 103]
def headB (size groups hand : Int) : Sec := markB ++ (numB 4 size ++ (numB 8 groups ++ (numB 2 hand ++ List.replicate 37 0)))
theorem headB_length (s g h : Int) : (headB s g h).length = 64 := by simp [headB, markB, numB_length]
theorem headB_groups (s g h : Int) : ((headB s g h).drop 17).take 8 = numB 8 g := by
  have e : headB s g h = (markB ++ numB 4 s) ++ (numB 8 g ++ (numB 2 h ++ List.replicate 37 0)) := by simp [headB]
  rw [e, List.drop_append_of_le_length (by simp [markB, numB_length]), List.drop_of_length_le (by simp [markB, numB_length]), List.nil_append, List.take_append_of_le_length (by simp [numB_length]), List.take_of_length_le (by simp [numB_length])]
theorem headB_hand (s g h : Int) : ((headB s g h).drop 25).take 2 = numB 2 h := by
  have e : headB s g h = (markB ++ numB 4 s ++ numB 8 g) ++ (numB 2 h ++ List.replicate 37 0) := by simp [headB]
  rw [e, List.drop_append_of_le_length (by simp [markB, numB_length]), List.drop_of_length_le (by simp [markB, numB_length]), List.nil_append, List.take_append_of_le_length (by simp [numB_length]), List.take_of_length_le (by simp [numB_length])]
theorem headB_size (s g h : Int) : ((headB s g h).drop 13).take 4 = numB 4 s := by
  have e : headB s g h = markB ++ (numB 4 s ++ (numB 8 g ++ (numB 2 h ++ List.replicate 37 0))) := by simp [headB]
  rw [e, List.drop_append_of_le_length (by simp [markB]), List.drop_of_length_le (by simp [markB]), List.nil_append, List.take_append_of_le_length (by simp [numB_length]), List.take_of_length_le (by simp [numB_length])]

/-! ### Room -/
def listsN (n : Nat) : Nat := (n + 31) / 32
def roomN (size : Nat) : Nat := if size < 3 then 0 else (size - 1) / 33 * 32 + ((size - 1) % 33 - 1)

/-! ### What a log does -/
/-- A head between two barriers. -/
def wBoth (d : DiskM) (at' size : Nat) (groups hand : Int) : Int × DiskM :=
  if d.barrier.1 ≠ 0 then d.barrier else
  if (d.barrier.2.write at' (headB size groups hand)).1 ≠ 0 then d.barrier.2.write at' (headB size groups hand) else
  (d.barrier.2.write at' (headB size groups hand)).2.barrier
def wThere (d : DiskM) (at' size : Int) : Bool := 3 ≤ size && size ≤ d.len && 0 ≤ at' && at' ≤ d.len - size
/-- Where a group's sector number i lies. -/
def wFirst (at' size : Nat) : Nat := at' + 1 + listsN (roomN size)
/-- Where the group's sector number i is to go, as the log's sector says. -/
def wTo (d : DiskM) (at' i : Nat) : Int := takenB (((d.now (at' + 1 + i / 32)).drop (i % 32 * 2)).take 2)
def wRound (d : DiskM) (at' size i : Nat) : Int × DiskM :=
  if d.check ((at' + 1 + i / 32 : Nat) : Int) ≠ 0 then (d.check ((at' + 1 + i / 32 : Nat) : Int), d) else
  if d.check ((wFirst at' size + i : Nat) : Int) ≠ 0 then (d.check ((wFirst at' size + i : Nat) : Int), d) else
  (if (d.write (wTo d at' i) (d.now (wFirst at' size + i))).1 = 0 then 0 else if (d.write (wTo d at' i) (d.now (wFirst at' size + i))).1 = 2 then 2 else 4, (d.write (wTo d at' i) (d.now (wFirst at' size + i))).2)
def wLoop (d : DiskM) (at' size : Nat) : Nat → Int × DiskM
  | 0 => (0, d)
  | i + 1 => if (wLoop d at' size i).1 ≠ 0 then wLoop d at' size i else wRound (wLoop d at' size i).2 at' size i
def wFinish (d : DiskM) (at' size : Nat) (groups : Int) (n : Nat) : Int × DiskM :=
  if (wLoop d at' size n).1 ≠ 0 then wLoop d at' size n else wBoth (wLoop d at' size n).2 at' size groups 0
def wFormat (d : DiskM) (at' size : Int) : Int × DiskM := if wThere d at' size = false then (1, d) else wBoth d at'.toNat size.toNat 0 0
def groupsIn (s : Sec) : Int := takenB ((s.drop 17).take 8)
def handIn (s : Sec) : Int := takenB ((s.drop 25).take 2)
/-- The groups that were done, if it opens; what it answers; the disk behind it. -/
def wOpen (d : DiskM) (at' size : Int) : Int × DiskM :=
  if wThere d at' size = false then (1, d) else
  if d.check at' ≠ 0 then (d.check at', d) else
  if d.now at'.toNat ≠ headB size (groupsIn (d.now at'.toNat)) (handIn (d.now at'.toNat)) ∨ (roomN size.toNat : Int) < handIn (d.now at'.toNat) ∨ groupsIn (d.now at'.toNat) < 0 then (4, d) else
  if 0 < handIn (d.now at'.toNat) then wFinish d at'.toNat size.toNat (groupsIn (d.now at'.toNat)) (handIn (d.now at'.toNat)).toNat else (0, d)

/-- A put: a sector and its bytes (and where these lie). -/
structure PutM where
  sector : Int
  bytes : List UInt8
  ad : Option Addr
  cap : Nat
instance : Inhabited PutM := ⟨⟨0, [], none, 0⟩⟩
/-- The bytes' slice. -/
abbrev PutM.val (q : PutM) : Value := .slice q.ad q.bytes.length q.cap
def wOk (len at' size : Nat) (seen : List PutM) (p : PutM) : Bool :=
  !(seen.any fun q => q.sector == p.sector) && !(decide ((at' : Int) ≤ p.sector) && decide (p.sector < at' + size)) && decide (0 ≤ p.sector) && decide (p.sector < len) && (p.bytes.length == 64)
def wMayTo (len at' size : Nat) : List PutM → List PutM → Bool
  | _, [] => true
  | seen, p :: r => wOk len at' size seen p && wMayTo len at' size (seen ++ [p]) r
def wMay (len at' size : Nat) (l : List PutM) : Bool := wMayTo len at' size [] l && decide (l.length ≤ roomN size)
/-- The group's bytes, written. -/
def wBytes (d : DiskM) (at' size : Nat) (l : List PutM) : Nat → Int × DiskM
  | 0 => (0, d)
  | i + 1 => if (wBytes d at' size l i).1 ≠ 0 then wBytes d at' size l i else (wBytes d at' size l i).2.write ((wFirst at' size + i : Nat) : Int) (l.getD i default).bytes
/-- Sector number k of those that tell where a group's sectors go. -/
def wList (l : List PutM) (k : Nat) : Sec :=
  let s := ((l.drop (32 * k)).take 32).flatMap fun p => numB 2 p.sector
  s ++ List.replicate (64 - s.length) 0
def wLists (d : DiskM) (at' : Nat) (l : List PutM) : Nat → Int × DiskM
  | 0 => (0, d)
  | k + 1 => if (wLists d at' l k).1 ≠ 0 then wLists d at' l k else (wLists d at' l k).2.write ((at' + 1 + k : Nat) : Int) (wList l k)
/-- What it answers, the groups that it says were done, the disk. -/
def wCommit (d : DiskM) (at' size : Nat) (groups : Int) (l : List PutM) : Int × Int × DiskM :=
  if wMay d.len at' size l = false then (20, groups, d) else
  if (wBytes d at' size l l.length).1 ≠ 0 then ((wBytes d at' size l l.length).1, groups, (wBytes d at' size l l.length).2) else
  if (wLists (wBytes d at' size l l.length).2 at' l (listsN l.length)).1 ≠ 0 then ((wLists (wBytes d at' size l l.length).2 at' l (listsN l.length)).1, groups, (wLists (wBytes d at' size l l.length).2 at' l (listsN l.length)).2) else
  let b := wBoth (wLists (wBytes d at' size l l.length).2 at' l (listsN l.length)).2 at' size (wrap64 (groups + 1)) l.length
  if b.1 ≠ 0 ∨ l.length = 0 then (b.1, wrap64 (groups + 1), b.2) else ((wFinish b.2 at' size (wrap64 (groups + 1)) l.length).1, wrap64 (groups + 1), (wFinish b.2 at' size (wrap64 (groups + 1)) l.length).2)

end Go.Proofs.YtcggloceabjjdaaGreat

/- Walks of the disk's functions, part 1; no condition. -/
namespace Go.Proofs.YtcggloceabjjdaaGreat
open Go.RowKit Go.MapKept

theorem disk_cells {w : World} {p : Nat} {c : Array Value} {t : TypeId} {R : Assn} (h : Bears w (Assn.obj p (.cells c t (0, 0)) * R)) : (∀ i, w.cell? ⟨p, i, none⟩ = c[i]?) ∧ (∀ i, w.frozen? ⟨p, i, none⟩ = false) :=
  ⟨fun i => cell_of_obj h.obj i, fun i => frozen_of_obj h.obj i⟩

set_option maxHeartbeats 400000 in
theorem check_any {p : Nat} {d : DiskM} {R : Assn} {w : World} (h : Bears w (diskA p d * R)) (i : Int) :
    Calls Tryz.prog 78 #[.pointer (some ⟨p, 0, none⟩), .int .i64 i] w fun e w' => e = .returned (.int .i64 (d.check i)) ∧ w = w' := by
  obtain ⟨ms, mn, wv, ls, ln, hwf, hs, hn, h⟩ := Bears.disk.1 h
  obtain ⟨hc, _⟩ := disk_cells h
  have c0 := hc 0
  have c4 := hc 4
  simp at c0 c4
  have hl := hwf.len
  clear hc
  by_cases ho : d.off = true
  · go_enter Tryz.func78, Tryz.ntmps78
    go_wp2
    go_ret
    exact ⟨by simp [DiskM.check, ho], rfl⟩
  · have ho : d.off = false := by simpa using ho
    by_cases h1 : i < 0
    · go_enter Tryz.func78, Tryz.ntmps78
      go_wp2
      go_ret
      exact ⟨by simp [DiskM.check, ho, h1], rfl⟩
    · by_cases h2 : (d.len : Int) ≤ i
      · go_enter Tryz.func78, Tryz.ntmps78
        go_wp2
        go_ret
        exact ⟨by simp [DiskM.check, ho, h2], rfl⟩
      · go_enter Tryz.func78, Tryz.ntmps78
        go_wp2
        go_ret
        exact ⟨by simp [DiskM.check, ho, h1, h2], rfl⟩

set_option maxHeartbeats 400000 in
theorem step_any {p : Nat} {d : DiskM} {R : Assn} {w : World} (h : Bears w (diskA p d * R)) :
    Calls Tryz.prog 96 #[.pointer (some ⟨p, 0, none⟩)] w fun e w' => e = .returned (.int .i64 d.step.1) ∧ Bears w' (diskA p d.step.2 * R) := by
  obtain ⟨ms, mn, wv, ls, ln, hwf, hs, hn, h⟩ := Bears.disk.1 h
  obtain ⟨hc, hf⟩ := disk_cells h
  have c4 := hc 4
  have c5 := hc 5
  have c6 := hc 6
  have f4 := hf 4
  have f5 := hf 5
  have f6 := hf 6
  simp at c4 c5 c6
  have hl := hwf.len
  have hfu := hwf.fuse
  have hst := hwf.steps
  clear hc hf
  by_cases h0 : d.fuse = 0
  · have Hd : DiskM.step d = (2, { d with off := true, fuse := -1 }) := by simp [DiskM.step, h0]
    have H0 : (d.fuse == 0) = true := by simp [h0]
    have hd := Lib.hid Hd
    clear h0 Hd
    go_enter Tryz.func96, Tryz.ntmps96
    go_wp2
    go_ret
    rw [hd.out]
    refine ⟨rfl, Bears.disk.2 ⟨ms, mn, wv, ls, ln, ⟨hl, hwf.sure, hwf.waits, by simp, hst⟩, hs, hn, ?_⟩⟩
    exact ((h.setCell (i := 4) _).setCell (i := 5) _).cast (by simp)
  · by_cases h1 : 0 < d.fuse
    · have Hd : DiskM.step d = (0, { d with fuse := d.fuse - 1, steps := wrap64 (d.steps + 1) }) := by simp [DiskM.step, h0, h1]
      have H0 : (d.fuse == 0) = false := by simp [h0]
      have hd := Lib.hid Hd
      clear h0 Hd
      go_enter Tryz.func96, Tryz.ntmps96
      go_wp2
      go_ret
      rw [hd.out]
      refine ⟨rfl, Bears.disk.2 ⟨ms, mn, wv, ls, ln, ⟨hl, hwf.sure, hwf.waits, ⟨by simp; omega, by simp; omega⟩, by simp only; unfold wrap64; omega⟩, hs, hn, ?_⟩⟩
      exact ((h.setCell (i := 5) _).setCell (i := 6) _).cast (by simp)
    · have Hd : DiskM.step d = (0, { d with steps := wrap64 (d.steps + 1) }) := by simp [DiskM.step, h0, h1]
      have H0 : (d.fuse == 0) = false := by simp [h0]
      have hd := Lib.hid Hd
      clear h0 Hd
      go_enter Tryz.func96, Tryz.ntmps96
      go_wp2
      go_ret
      rw [hd.out]
      refine ⟨rfl, Bears.disk.2 ⟨ms, mn, wv, ls, ln, ⟨hl, hwf.sure, hwf.waits, hfu, by simp only; unfold wrap64; omega⟩, hs, hn, ?_⟩⟩
      exact (h.setCell (i := 6) _).cast (by simp)

end Go.Proofs.YtcggloceabjjdaaGreat
