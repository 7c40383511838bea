/- The disk: a plain model of it, and how it lies in memory; no condition. -/
import Derived.Test.YtaiobekochhemaaMem
namespace Go.Proofs.Ytaiobekochhemaa
open Go.RowKit Go.MapKept

abbrev Sec := List UInt8
def zeroSec : Sec := List.replicate 64 0

structure DiskM where
  len : Nat
  sure : Nat → Sec
  waits : List (Nat × Sec)
  off : Bool
  fuse : Int
  steps : Int

def updS (f : Nat → Sec) (i : Nat) (s : Sec) : Nat → Sec := fun j => if j = i then s else f j
def settle (f : Nat → Sec) (l : List (Nat × Sec)) : Nat → Sec := l.foldl (fun f p => updS f p.1 p.2) f
def DiskM.now (d : DiskM) : Nat → Sec := settle d.sure d.waits

/-- Why a sector can't be asked for. -/
def DiskM.check (d : DiskM) (i : Int) : Int := if d.off then 2 else if i < 0 ∨ (d.len : Int) ≤ i then 10 else 0
/-- A step. -/
def DiskM.step (d : DiskM) : Int × DiskM :=
  if d.fuse = 0 then (2, { d with off := true, fuse := -1 })
  else (0, { d with fuse := if 0 < d.fuse then d.fuse - 1 else d.fuse, steps := wrap64 (d.steps + 1) })
def DiskM.write (d : DiskM) (i : Int) (b : Sec) : Int × DiskM :=
  if d.check i ≠ 0 then (d.check i, d) else if b.length ≠ 64 then (11, d) else
  if d.step.1 ≠ 0 then d.step else (0, { d.step.2 with waits := d.waits ++ [(i.toNat, b)] })
def DiskM.barrier (d : DiskM) : Int × DiskM :=
  if d.off then (2, d) else if d.step.1 ≠ 0 then d.step else (0, { d.step.2 with sure := d.now, waits := [] })
def DiskM.setFuse (d : DiskM) (n : Int) : DiskM := if d.off then d else { d with fuse := max n (-1) }
/-- Is write number k kept? -/
def keeps (keep : List Int) (k : Nat) : Bool := !keep.isEmpty && (keep.getD (k % keep.length) 0) % 2 != 0
theorem tmod_two (x : Int) : (x.tmod 2 != 0) = (x % 2 != 0) := by
  rw [Bool.eq_iff_iff, bne_iff_ne, bne_iff_ne]
  exact ⟨fun h e => h (Int.tmod_eq_zero_of_dvd (Int.dvd_of_emod_eq_zero e)), fun h e => h (Int.emod_eq_zero_of_dvd (Int.dvd_of_tmod_eq_zero e))⟩
/-- Which of the writes that wait are kept. -/
def kept (keep : List Int) : Nat → List (Nat × Sec) → List (Nat × Sec)
  | _, [] => []
  | k, p :: r => if keeps keep k = true then p :: kept keep (k + 1) r else kept keep (k + 1) r
theorem kept_append (keep : List Int) (p : Nat × Sec) : ∀ (l : List (Nat × Sec)) (j : Nat), kept keep j (l ++ [p]) = kept keep j l ++ if keeps keep (j + l.length) = true then [p] else []
  | [], j => by simp [kept]
  | q :: l, j => by
    have e : j + (l.length + 1) = j + 1 + l.length := by omega
    simp only [List.cons_append, kept, List.length_cons, e]
    rw [kept_append keep p l (j + 1)]
    split <;> rfl
theorem kept_sub (keep : List Int) : ∀ (l : List (Nat × Sec)) (j : Nat) (p : Nat × Sec), p ∈ kept keep j l → p ∈ l
  | [], _, _, h => by simp [kept] at h
  | q :: l, j, p, h => by
    simp only [kept] at h
    split at h
    · rcases List.mem_cons.1 h with rfl | h
      · simp
      · exact List.mem_cons_of_mem _ (kept_sub keep l _ p h)
    · exact List.mem_cons_of_mem _ (kept_sub keep l _ p h)
def DiskM.boot (d : DiskM) (keep : List Int) : DiskM :=
  { d with sure := settle d.sure (kept keep 0 d.waits), waits := [], off := false, fuse := -1 }
def DiskM.new (n : Nat) : DiskM := { len := n, sure := fun _ => zeroSec, waits := [], off := false, fuse := -1, steps := 0 }

structure DiskM.WF (d : DiskM) : Prop where
  len : d.len ≤ 8192
  sure : ∀ i, (d.sure i).length = 64
  waits : ∀ p ∈ d.waits, p.1 < d.len ∧ p.2.length = 64
  fuse : -1 ≤ d.fuse ∧ d.fuse < 9223372036854775808
  steps : -9223372036854775808 ≤ d.steps ∧ d.steps < 9223372036854775808

/-- A map of sectors: none is noughts. -/
def SecMap (l : List (Int × Value)) (f : Nat → Sec) : Prop := ∀ i : Nat, (getL (i : Int) l).getD (secV zeroSec) = secV (f i)

theorem SecMap.put {l : List (Int × Value)} {f : Nat → Sec} (h : SecMap l f) (i : Nat) (s : Sec) : SecMap (putL (i : Int) (secV s) l) (updS f i s) := by
  intro j
  rw [getL_putL]
  unfold updS
  by_cases hj : j = i
  · subst hj; simp
  · have : (j : Int) ≠ (i : Int) := by omega
    simp only [this, if_false, hj]
    exact h j

theorem SecMap.nil : SecMap [] (fun _ => zeroSec) := fun _ => rfl

def waitCells (l : List (Nat × Sec)) : List Value := l.flatMap fun p => .int .i64 (p.1 : Int) :: cellsV p.2

theorem settle_length {f : Nat → Sec} (hf : ∀ i, (f i).length = 64) {l : List (Nat × Sec)} (hl : ∀ p ∈ l, p.2.length = 64) (i : Nat) : (settle f l i).length = 64 := by
  induction l generalizing f with
  | nil => exact hf i
  | cons p l ih =>
    refine ih (fun j => ?_) (fun q hq => hl q (by simp [hq]))
    show (updS f p.1 p.2 j).length = 64
    unfold updS
    split
    · exact hl p (by simp)
    · exact hf j

theorem settle_append (f : Nat → Sec) (l : List (Nat × Sec)) (p : Nat × Sec) : settle f (l ++ [p]) = updS (settle f l) p.1 p.2 := by
  unfold settle
  rw [List.foldl_append]
  rfl

/-- The disk's own object. -/
abbrev diskObj (p : Nat) (d : DiskM) (ms mn : Nat) (wv : Value) : Assn :=
  Assn.obj p (.cells #[.int .i64 d.len, .map (some ms), .map (some mn), wv, .bool d.off, .int .i64 d.fuse, .int .i64 d.steps] 92 (0, 0))

/-- How a disk lies in memory. -/
def diskA (p : Nat) (d : DiskM) : Assn :=
  Assn.ex fun (x : Nat × Nat × Value × List (Int × Value) × List (Int × Value)) =>
    Assn.fact (d.WF ∧ SecMap x.2.2.2.1 d.sure ∧ SecMap x.2.2.2.2 d.now) *
    (diskObj p d x.1 x.2.1 x.2.2.1 *
    (rowA 128 65 x.2.2.1 d.waits.length (waitCells d.waits) * (mapA x.1 x.2.2.2.1 * mapA x.2.1 x.2.2.2.2)))

theorem Bears.disk {w : World} {p : Nat} {d : DiskM} {R : Assn} : Bears w (diskA p d * R) ↔ ∃ ms mn wv ls ln, d.WF ∧ SecMap ls d.sure ∧ SecMap ln d.now ∧
    Bears w (diskObj p d ms mn wv *
      (rowA 128 65 wv d.waits.length (waitCells d.waits) * (mapA ms ls * (mapA mn ln * R)))) := by
  unfold diskA
  rw [Bears.ex]
  simp only [Assn.mul_assoc']
  constructor
  · rintro ⟨⟨ms, mn, wv, ls, ln⟩, h⟩
    obtain ⟨⟨h1, h2, h3⟩, h⟩ := Bears.fact.1 h
    exact ⟨ms, mn, wv, ls, ln, h1, h2, h3, h⟩
  · rintro ⟨ms, mn, wv, ls, ln, h1, h2, h3, h⟩
    exact ⟨⟨ms, mn, wv, ls, ln⟩, Bears.fact.2 ⟨⟨h1, h2, h3⟩, h⟩⟩

end Go.Proofs.Ytaiobekochhemaa
