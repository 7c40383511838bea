/- Two logs on one disk: what holds of the plain model; no condition. -/
import Derived.Test.YtadefdmoijkclaaWGrp
namespace Go.Proofs.Ytadefdmoijkclaa
open Go.RowKit Go.MapKept

def updN {α : Type} (f : Nat → α) (i : Nat) (x : α) : Nat → α := fun j => if j = i then x else f j

/-- The first k of two logs are on the disk, at rest. -/
structure Logs (k : Nat) (d : DiskM) (g : Nat → Nat) (F : Nat → Sec) : Prop where
  off : d.off = false
  quiet : d.waits = []
  fuse : d.fuse = -1
  len : d.len = 120
  head : ∀ j, j < k → d.sure (40 * j) = headB 40 (g j) 0
  out : ∀ i, 80 ≤ i → d.sure i = F i
theorem Logs.new : Logs 0 (DiskM.new 120) (fun _ => 0) (fun _ => zeroSec) := ⟨rfl, rfl, rfl, rfl, fun j hj => absurd hj (by omega), fun _ _ => rfl⟩
theorem Logs.log {n : Nat} {d : DiskM} {g : Nat → Nat} {F : Nat → Sec} (h : Logs n d g F) {k : Nat} (hk : k < n) (hn : n ≤ 2) : LogOn d (40 * k) 40 (g k) d.sure :=
  ⟨h.off, h.quiet, by decide, by rw [h.len]; omega, by rw [h.len]; decide, h.head k hk, fun _ _ => rfl⟩
theorem Logs.format {k : Nat} {d : DiskM} {F : Nat → Sec} (h : Logs k d (fun _ => 0) F) (hk : k < 2) : ∃ d', wFormat d (40 * k : Nat) 40 = (0, d') ∧ Logs (k + 1) d' (fun _ => 0) F := by
  obtain ⟨d', h1, h2, h3, h4⟩ := formats (a := 40 * k) (s := 40) (F := d.sure) h.off h.fuse (by decide) (by rw [h.len]; omega) (by rw [h.len]; decide) (fun i _ => by rw [now_quiet h.quiet])
  refine ⟨d', h1, h2.off, h2.quiet, h3, h4.trans h.len, fun j hj => ?_, fun i hi => ?_⟩
  · by_cases e : j = k
    · subst e; exact h2.rest.head
    · rw [h2.rest.out _ (by omega)]
      exact h.head j (by omega)
  · rw [h2.rest.out _ (by omega)]
    exact h.out i hi
theorem Logs.commit {d : DiskM} {g : Nat → Nat} {F : Nat → Sec} (h : Logs 2 d g F) {k : Nat} (hk : k < 2) {l : List PutM} (hm : wMay 120 (40 * k) 40 l = true) (hl : ∀ p ∈ l, 80 ≤ p.sector) (hg : g k < 9223372036854775807) :
    ∃ d', wCommit d (40 * k) 40 (g k) l = (0, ((g k + 1 : Nat) : Int), d') ∧ Logs 2 d' (updN g k (g k + 1)) (applyPuts F l) := by
  obtain ⟨d', h1, h2, h3, h4⟩ := (h.log hk (Nat.le_refl 2)).commits h.fuse hg (by rw [h.len]; exact hm)
  refine ⟨d', h1, h2.off, h2.quiet, h3, h4.trans h.len, fun j hj => ?_, fun i hi => ?_⟩
  · unfold updN
    by_cases e : j = k
    · subst e; rw [if_pos rfl]; exact h2.rest.head
    · rw [if_neg e, h2.rest.out _ (by omega), applyPuts_other (fun p hp => by have := hl p hp; omega)]
      exact h.head j (by omega)
  · rw [h2.rest.out _ (by omega)]
    exact applyPuts_congr (h.out i hi)
theorem Logs.opens {d : DiskM} {g : Nat → Nat} {F : Nat → Sec} {n : Nat} (h : Logs n d g F) {k : Nat} (hk : k < n) (hn : n ≤ 2) (hg : g k < 9223372036854775808) : wOpen d (40 * k : Nat) 40 = (0, d) ∧ groupsIn (d.now (40 * k)) = g k := (h.log hk hn).opens hg

abbrev TGrp (k : Nat) (c : UInt8) := Grp 120 (40 * k) (80 + 20 * k) (20 * k) 20 (fun _ => fullS c 3) c
structure TOrd (F : Nat → Sec) (has : List UInt8) : Prop where
  len : has.length = 40
  at' : ∀ j, j < 40 → has.getD j 0 ≠ 0 → F (80 + j) = fullS (has.getD j 0) 3
theorem TOrd.zero : TOrd (fun _ => zeroSec) (List.replicate 40 0) := by
  refine ⟨by simp, fun j hj h => absurd ?_ h⟩
  rw [List.getD_eq_getElem?_getD, List.getElem?_replicate, if_pos hj]
  rfl
theorem TOrd.next {F : Nat → Sec} {has0 has : List UInt8} {c : UInt8} {k : Nat} {seen : List Bool} {l : List PutM} (h : TOrd F has0) (hg : TGrp k c has0 has seen l) : TOrd (applyPuts F l) has := by
  refine ⟨hg.hlen.trans h.len, fun j hj hne => ?_⟩
  rw [hg.at, hg.marks j]
  rw [hg.marks j] at hne
  by_cases e : 20 * k ≤ j ∧ j < 20 * k + 20 ∧ seen.getD (j - 20 * k) false = true
  · rw [if_pos e, if_pos ⟨by omega, by omega, by rw [show 80 + j - (80 + 20 * k) = j - 20 * k by omega]; exact e.2.2⟩]
  · rw [if_neg e] at hne ⊢
    rw [if_neg (fun h => e ⟨by omega, by omega, by have := h.2.2; rw [show 80 + j - (80 + 20 * k) = j - 20 * k by omega] at this; exact this⟩)]
    exact h.at' j hj hne
theorem TGrp.far {has0 has : List UInt8} {c : UInt8} {k : Nat} {seen : List Bool} {l : List PutM} (hg : TGrp k c has0 has seen l) : ∀ p ∈ l, 80 ≤ p.sector := by
  intro p hp
  obtain ⟨j, _, e, _⟩ := hg.puts p hp
  omega

theorem open_yesI {p : Nat} {d d' : DiskM} {R : Assn} {w : World} {a s : Nat} {g y : Int} (h : Bears w (diskA p d * R)) (hy : y = a) (heq : wOpen d a s = (0, d')) (hg : groupsIn (d.now a) = g) (ha : a ≤ 100000) (hs : s ≤ 100000) (hroom : d.waits.length + 20000 < 1099511627776) :
    Calls Try.prog 11 #[.pointer (some ⟨p, 0, none⟩), .int .i64 y, .int .i64 s] w fun e w' => ∃ x, e = .returned (.tuple #[.pointer (some ⟨x, 0, none⟩), .int .i64 0]) ∧ Bears w' (walObj x p a s g * (diskA p d' * R)) := by
  subst hy
  exact open_yes h heq hg ha hs hroom
theorem updN_ints (g : Nat → Nat) (q : Nat) : updN (fun k => Value.int .i64 ((g k : Nat) : Int)) q (.int .i64 ((g q : Int) + 1)) = fun k => Value.int .i64 ((updN g q (g q + 1) k : Nat) : Int) := by
  funext k
  unfold updN
  split
  · simp
  · rfl

end Go.Proofs.Ytadefdmoijkclaa
