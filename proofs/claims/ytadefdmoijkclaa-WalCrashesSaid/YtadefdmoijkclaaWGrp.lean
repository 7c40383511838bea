/- The groups that the log's statements make: what holds of them; no condition. -/
import Derived.Test.YtadefdmoijkclaaWStore
namespace Go.Proofs.Ytadefdmoijkclaa
open Go.RowKit Go.MapKept

/-- A group in the making: sectors from 'base' on, of bytes 'fS', for a log of 40 sectors from a on on a disk of n. -/
structure Grp (n a base off cnt : Nat) (fS : Nat → Sec) (c : UInt8) (has0 has : List UInt8) (seen : List Bool) (l : List PutM) : Prop where
  may : wMayTo n a 40 [] l = true
  puts : ∀ p ∈ l, ∃ j, j < cnt ∧ p.sector = ((base + j : Nat) : Int) ∧ p.bytes = fS j ∧ seen.getD j false = true
  back : ∀ j, j < cnt → seen.getD j false = true → ∃ p ∈ l, p.sector = ((base + j : Nat) : Int)
  marks : ∀ i, has.getD i 0 = if off ≤ i ∧ i < off + cnt ∧ seen.getD (i - off) false = true then c else has0.getD i 0
  hlen : has.length = has0.length
  slen : seen.length = cnt

theorem Grp.start (n a base off cnt : Nat) (fS : Nat → Sec) (c : UInt8) (has0 : List UInt8) : Grp n a base off cnt fS c has0 has0 (List.replicate cnt false) [] := by
  have hf : ∀ j, (List.replicate cnt false).getD j false = false := by
    intro j
    rw [List.getD_eq_getElem?_getD, List.getElem?_replicate]
    split <;> rfl
  refine ⟨rfl, by simp, fun j _ h => ?_, fun i => ?_, rfl, by simp⟩
  · rw [hf] at h; cases h
  · rw [if_neg (fun h => by rw [hf] at h; exact absurd h.2.2 (by simp))]

theorem getD_set {α : Type} (l : List α) (i j : Nat) (x d : α) (hi : i < l.length) : (l.set i x).getD j d = if j = i then x else l.getD j d := by
  simp only [List.getD_eq_getElem?_getD, List.getElem?_set]
  by_cases e : j = i
  · subst e; simp [hi]
  · rw [if_neg (Ne.symm e), if_neg e]

theorem Grp.step {n a base off cnt : Nat} {fS : Nat → Sec} {c : UInt8} {has0 has : List UInt8} {seen : List Bool} {l : List PutM} (h : Grp n a base off cnt fS c has0 has seen l) {j : Nat} (hj : j < cnt) (hs : seen.getD j false = false)
    (h64 : (fS j).length = 64) (hn : base + cnt ≤ n) (hd : base + cnt ≤ a ∨ a + 40 ≤ base) (ho : off + cnt ≤ has0.length) (g : Nat) :
    Grp n a base off cnt fS c has0 (has.set (off + j) c) (seen.set j true) (l ++ [putOf ((base + j : Nat) : Int) g (fS j)]) := by
  have hsl := h.slen
  have hhl := h.hlen
  refine ⟨?_, fun p hp => ?_, fun i hi hi2 => ?_, fun i => ?_, by simp [hhl], by simp [hsl]⟩
  · rw [wMayTo_snoc, h.may, Bool.true_and, List.nil_append]
    refine wOk_iff.2 ⟨?_, by simp only; omega, by simp only; omega, by simp only; omega, by simp only; omega⟩
    rw [← Bool.not_eq_true, List.any_eq_true]
    rintro ⟨q, hq, e⟩
    obtain ⟨i, hi, e1, _, e2⟩ := h.puts q hq
    have e3 : q.sector = ((base + j : Nat) : Int) := by simpa using e
    have : i = j := by omega
    subst this
    rw [hs] at e2
    cases e2
  · rcases List.mem_append.1 hp with hp | hp
    · obtain ⟨i, hi, e1, e2, e3⟩ := h.puts p hp
      refine ⟨i, hi, e1, e2, ?_⟩
      rw [getD_set _ _ _ _ _ (by omega)]
      split
      · rfl
      · exact e3
    · rw [List.mem_singleton] at hp
      subst hp
      exact ⟨j, hj, rfl, rfl, by rw [getD_set _ _ _ _ _ (by omega), if_pos rfl]⟩
  · rw [getD_set _ _ _ _ _ (by omega)] at hi2
    by_cases e : i = j
    · subst e
      exact ⟨_, List.mem_append_right _ (List.mem_singleton.2 rfl), rfl⟩
    · rw [if_neg e] at hi2
      obtain ⟨p, hp, e1⟩ := h.back i hi hi2
      exact ⟨p, List.mem_append_left _ hp, e1⟩
  · rw [getD_set _ _ _ _ _ (by omega), h.marks i]
    by_cases e : i = off + j
    · subst e
      rw [if_pos rfl, if_pos ⟨by omega, by omega, by rw [getD_set _ _ _ _ _ (by omega), if_pos (by omega)]⟩]
    · rw [if_neg e]
      by_cases e2 : off ≤ i ∧ i < off + cnt
      · have e4 : (seen.set j true).getD (i - off) false = seen.getD (i - off) false := by rw [getD_set _ _ _ _ _ (by omega), if_neg (by omega)]
        rw [e4]
      · have e3 : ∀ P : Prop, ¬ (off ≤ i ∧ i < off + cnt ∧ P) := fun P h => e2 ⟨h.1, h.2.1⟩
        rw [if_neg (e3 _), if_neg (e3 _)]

theorem Grp.at {n a base off cnt : Nat} {fS : Nat → Sec} {c : UInt8} {has0 has : List UInt8} {seen : List Bool} {l : List PutM} (h : Grp n a base off cnt fS c has0 has seen l) (F : Nat → Sec) (i : Nat) :
    applyPuts F l i = if base ≤ i ∧ i < base + cnt ∧ seen.getD (i - base) false = true then fS (i - base) else F i := by
  rcases applyPuts_or l i with ⟨p, hp, e, h1⟩ | ⟨h1, h2⟩
  · obtain ⟨j, hj, e1, e2, e3⟩ := h.puts p hp
    have e4 : i = base + j := by omega
    subst e4
    rw [h1, Nat.add_sub_cancel_left, if_pos ⟨by omega, by omega, e3⟩, e2]
  · rw [h2, if_neg]
    rintro ⟨k1, k2, k3⟩
    obtain ⟨p, hp, e⟩ := h.back _ (by omega) k3
    exact h1 p hp (by omega)

theorem Grp.mayAll {n a base off cnt : Nat} {fS : Nat → Sec} {c : UInt8} {has0 has : List UInt8} {seen : List Bool} {l : List PutM} (h : Grp n a base off cnt fS c has0 has seen l) (hl : l.length ≤ 37) : wMay n a 40 l = true := by
  unfold wMay
  rw [h.may, show roomN 40 = 37 by decide]
  simpa using hl

/-! ### WalOrder -/
def wantS (c : UInt8) (j : Nat) : Sec := if c = 0 then zeroSec else fullS c (UInt8.ofNat j)
structure Ord (F : Nat → Sec) (has : List UInt8) : Prop where
  len : has.length = 60
  at' : ∀ j, j < 60 → F (40 + j) = wantS (has.getD j 0) j
abbrev OGrp (c : UInt8) := Grp 100 0 40 0 60 (fun j => fullS c (UInt8.ofNat j)) c
theorem Ord.next {F : Nat → Sec} {has0 has : List UInt8} {c : UInt8} {seen : List Bool} {l : List PutM} (h : Ord F has0) (hg : OGrp c has0 has seen l) (hc : c ≠ 0) : Ord (applyPuts F l) has := by
  refine ⟨hg.hlen.trans h.len, fun j hj => ?_⟩
  rw [hg.at, hg.marks j]
  simp only [Nat.add_sub_cancel_left, Nat.sub_zero]
  by_cases e : seen.getD j false = true
  · rw [if_pos ⟨by omega, by omega, e⟩, if_pos ⟨by omega, by omega, e⟩]
    unfold wantS
    rw [if_neg hc]
  · rw [if_neg (fun h => e h.2.2), if_neg (fun h => e h.2.2)]
    exact h.at' j hj
theorem Ord.zero : Ord (fun _ => zeroSec) (List.replicate 60 0) := by
  refine ⟨by simp, fun j hj => ?_⟩
  rw [List.getD_eq_getElem?_getD, List.getElem?_replicate, if_pos hj]
  rfl

end Go.Proofs.Ytadefdmoijkclaa
