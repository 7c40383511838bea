/- The disk's statements: what holds of the plain model; no condition. -/
import Derived.Test.YtcfdnkmllpphfaaLawB
namespace Go.Proofs.Ytcfdnkmllpphfaa
open Go.RowKit Go.MapKept

/-- The power is on, and stays so. -/
structure DiskM.Plain (d : DiskM) : Prop where
  off : d.off = false
  fuse : d.fuse = -1

def DiskM.put (d : DiskM) (i : Nat) (s : Sec) : DiskM := { d with waits := d.waits ++ [(i, s)], steps := wrap64 (d.steps + 1) }
def DiskM.bar (d : DiskM) : DiskM := { d with sure := d.now, waits := [], steps := wrap64 (d.steps + 1) }

theorem DiskM.Plain.step {d : DiskM} (h : d.Plain) : d.step = (0, { d with steps := wrap64 (d.steps + 1) }) := by
  simp [DiskM.step, h.fuse]
theorem DiskM.Plain.check {d : DiskM} (h : d.Plain) {i : Nat} (hi : i < d.len) : d.check (i : Int) = 0 := by
  unfold DiskM.check
  rw [h.off, if_neg (by simp), if_neg (by omega)]
theorem DiskM.Plain.write {d : DiskM} (h : d.Plain) {i : Nat} (hi : i < d.len) {s : Sec} (hs : s.length = 64) : d.write (i : Int) s = (0, d.put i s) := by
  simp only [DiskM.write, h.check hi, hs, h.step]
  simp [DiskM.put]
theorem DiskM.Plain.write' {d : DiskM} (h : d.Plain) {i : Int} {n : Nat} (e : i = n) (hi : n < d.len) {s : Sec} (hs : s.length = 64) : d.write i s = (0, d.put n s) := by
  subst e; exact h.write hi hs
theorem DiskM.Plain.barrier {d : DiskM} (h : d.Plain) : d.barrier = (0, d.bar) := by
  simp only [DiskM.barrier, h.off, h.step]
  simp [DiskM.bar, h.off]
theorem DiskM.Plain.put {d : DiskM} (h : d.Plain) (i : Nat) (s : Sec) : (d.put i s).Plain := ⟨h.off, h.fuse⟩
theorem DiskM.Plain.bar {d : DiskM} (h : d.Plain) : d.bar.Plain := ⟨h.off, h.fuse⟩
theorem DiskM.boot_plain (d : DiskM) (ks : List Int) : (d.boot ks).Plain := ⟨rfl, rfl⟩
theorem DiskM.new_plain (n : Nat) : (DiskM.new n).Plain := ⟨rfl, rfl⟩

theorem Bears.byteCell {w : World} {b : Nat} {l : List UInt8} {t : TypeId} {R : Assn} (h : Bears w (Assn.obj b (.cells (cellsV l).toArray t (0, 0)) * R)) {j : Nat} (hj : j < l.length) : w.cell? ⟨b, j, none⟩ = some (byteV (l.getD j 0)) := by
  rw [cell_of_obj h.obj]
  simp [cellsV, hj]

theorem Bears.setByte {w : World} {b : Nat} {l : List UInt8} {t : TypeId} {R : Assn} (h : Bears w (Assn.obj b (.cells (cellsV l).toArray t (0, 0)) * R)) (j : Nat) (c : UInt8) :
    Bears (w.setCell ⟨b, j, none⟩ (byteV c)) (Assn.obj b (.cells (cellsV (l.set j c)).toArray t (0, 0)) * R) :=
  (h.setCell (i := j) (byteV c)).cast (by simp [cellsV, List.map_set])

/-- A conversion of bytes to a string, at the list of a region's operations. -/
theorem wpList_conv {P : Program} {ops : Array Oper} {rest : List Oper} {o : Oper} {a : Act} {Q : Exit → Act → World → Prop} {w : World} {ss dd : TypeId} {x : Operand} {v u : Value} (hg : Region.wanted o (yielded ops a.tmps) = true) (ho : o.op = .convert ss dd x) (hx : a.eval x = v)
    (hrun : (convert ss dd v).run P w = .ok u w) (h : wpList P ops Q rest (a.put o.dst u) w) : wpList P ops Q (o :: rest) a w := by
  refine wpList_step fun K hK => ?_
  rw [if_pos hg]
  exact wp_of_run (exec_convert ho hx hrun) (hK _ _ h)

/-- Writes of full sectors, the i-th at place 'at i'. -/
def fulls (f : Nat → Nat) (l : List UInt8) (k : Nat) : List (Nat × Sec) := (List.range k).map fun i => (f i, fullS (l.getD i 0))

theorem fulls_succ (f : Nat → Nat) (l : List UInt8) (k : Nat) : fulls f l (k + 1) = fulls f l k ++ [(f k, fullS (l.getD k 0))] := by
  simp [fulls, List.range_succ]

/-- The last byte at each of 8 places. -/
def lasts (f : Nat → Nat) (l : List UInt8) : Nat → List UInt8
  | 0 => List.replicate 8 0
  | k + 1 => (lasts f l k).set (f k) (l.getD k 0)

theorem lasts_length (f : Nat → Nat) (l : List UInt8) (k : Nat) : (lasts f l k).length = 8 := by
  induction k with
  | zero => simp [lasts]
  | succ k ih => simp [lasts, ih]

theorem settle_fulls (f : Nat → Nat) (l : List UInt8) (k : Nat) (j : Nat) (hj : j < 8) : settle (fun _ => zeroSec) (fulls f l k) j = fullS ((lasts f l k).getD j 0) := by
  induction k with
  | zero =>
    simp only [fulls, settle, lasts, List.range_zero, List.map_nil, List.foldl_nil]
    rw [List.getD_eq_getElem?_getD, List.getElem?_replicate]
    simp [hj, zeroSec, fullS]
  | succ k ih =>
    rw [fulls_succ, settle_append]
    unfold updS
    simp only [lasts]
    by_cases h : j = f k
    · subst h
      rw [if_pos rfl]
      simp [List.getD_eq_getElem?_getD, lasts_length, hj]
    · rw [if_neg h, ih]
      simp [List.getD_eq_getElem?_getD, Ne.symm h]

theorem settle_or (f : Nat → Sec) : ∀ (l : List (Nat × Sec)) (j : Nat), settle f l j = f j ∨ ∃ p ∈ l, p.1 = j ∧ settle f l j = p.2 := by
  intro l
  induction l generalizing f with
  | nil => intro j; exact .inl rfl
  | cons q l ih =>
    intro j
    rcases ih (updS f q.1 q.2) j with h | ⟨p, hp, h1, h2⟩
    · by_cases hj : j = q.1
      · refine .inr ⟨q, by simp, hj.symm, ?_⟩
        show settle (updS f q.1 q.2) l j = _
        rw [h, updS, if_pos hj]
      · refine .inl ?_
        show settle (updS f q.1 q.2) l j = _
        rw [h, updS, if_neg hj]
    · exact .inr ⟨p, by simp [hp], h1, h2⟩

theorem str_eq (a b : List UInt8) : ((⟨a.toArray⟩ : ByteArray).toList == (⟨b.toArray⟩ : ByteArray).toList) = decide (a = b) := by
  rw [ByteArray.toList_mk, ByteArray.toList_mk, Bool.eq_iff_iff]
  simp

/-- Is a sector one of those that stand behind the barrier? -/
def okB (s : Sec) (c : UInt8) (l2 : List UInt8) (j : Nat) : Nat → Bool
  | 0 => s == fullS c
  | i + 1 => okB s c l2 j i || (decide (3 * i % 8 = j) && (s == fullS (l2.getD i 0)))

theorem okB_first {s : Sec} {c : UInt8} (l2 : List UInt8) (j : Nat) (h : s = fullS c) : ∀ i, okB s c l2 j i = true
  | 0 => by simp [okB, h]
  | i + 1 => by simp [okB, okB_first l2 j h i]

theorem okB_some {s : Sec} (c : UInt8) (l2 : List UInt8) (j : Nat) {i : Nat} (hi : 3 * i % 8 = j) (h : s = fullS (l2.getD i 0)) : ∀ n, i < n → okB s c l2 j n = true
  | 0, h0 => by omega
  | n + 1, h0 => by
    by_cases hn : i = n
    · subst hn
      simp only [okB, hi, h]
      simp
    · simp only [okB, okB_some c l2 j hi h n (by omega), Bool.true_or]

theorem fullS_inj {a b : UInt8} (h : fullS a = fullS b) : a = b := by
  have := congrArg (fun l : List UInt8 => l.getD 0 0) h
  simpa [fullS] using this

end Go.Proofs.Ytcfdnkmllpphfaa
