/- The log: a plain model of it; no condition. -/
import Derived.Test.YtaiobekochhemaaDiskM
import Derived.Laws.BitsAllLaws
namespace Go.Proofs.Ytaiobekochhemaa
open Go.RowKit Go.MapKept

/-! ### Numbers in bytes -/
/-- The byte of n at so many bytes from the right. -/
def byteAt (n : Int) (j : Nat) : UInt8 := UInt8.ofNat ((n / 2 ^ (8 * j)) % 256).toNat
/-- n in m bytes, the greatest first. -/
def numB : Nat → Int → List UInt8
  | 0, _ => []
  | m + 1, n => byteAt n m :: numB m n
/-- The number that bytes are. -/
def beN : List UInt8 → Nat := List.foldl (fun n c => n * 256 + c.toNat) 0
def takenB (l : List UInt8) : Int := wrap64 (beN l)

theorem numB_length (n : Int) : ∀ m, (numB m n).length = m
  | 0 => rfl
  | m + 1 => by simp [numB, numB_length n m]
theorem byteV_byteAt (n : Int) (j : Nat) : byteV (byteAt n j) = .int .u8 ((n / 2 ^ (8 * j)) % 256) := by
  have h0 : 0 ≤ (n / 2 ^ (8 * j)) % 256 := Int.emod_nonneg _ (by decide)
  have h1 : (n / 2 ^ (8 * j)) % 256 < 256 := Int.emod_lt_of_pos _ (by decide)
  unfold byteV byteAt
  generalize (n / 2 ^ (8 * j)) % 256 = x at h0 h1
  congr 1
  rw [UInt8.toNat_ofNat_of_lt' (by show x.toNat < 256; omega)]
  omega
theorem byteAt_toNat (n : Nat) (j : Nat) : (byteAt (n : Int) j).toNat = n / 256 ^ j % 256 := by
  have e : ((n : Int) / 2 ^ (8 * j)) % 256 = ((n / 256 ^ j % 256 : Nat) : Int) := by
    rw [show (2 : Int) ^ (8 * j) = ((256 ^ j : Nat) : Int) by rw [Int.pow_mul]; simp]
    omega
  unfold byteAt
  rw [e, Int.toNat_natCast, UInt8.toNat_ofNat_of_lt' (by show n / 256 ^ j % 256 < 256; omega)]

theorem beN_foldl : ∀ (l : List UInt8) (a : Nat), l.foldl (fun n c => n * 256 + c.toNat) a = a * 256 ^ l.length + beN l
  | [], a => by simp [beN]
  | c :: l, a => by
    simp only [List.foldl_cons, List.length_cons, beN]
    rw [beN_foldl l (a * 256 + c.toNat), beN_foldl l (0 * 256 + c.toNat), Nat.pow_succ']
    rw [Nat.add_mul, Nat.zero_mul, Nat.zero_add, Nat.mul_assoc, Nat.add_assoc]
theorem beN_cons (c : UInt8) (l : List UInt8) : beN (c :: l) = c.toNat * 256 ^ l.length + beN l := by
  have := beN_foldl l (0 * 256 + c.toNat)
  simpa [beN] using this
theorem beN_snoc (l : List UInt8) (c : UInt8) : beN (l ++ [c]) = beN l * 256 + c.toNat := by simp [beN]
theorem beN_numB (n : Nat) : ∀ m, beN (numB m n) = n % 256 ^ m
  | 0 => by simp [numB, beN, Nat.mod_one]
  | m + 1 => by
    rw [numB, beN_cons, numB_length, beN_numB n m, byteAt_toNat]
    rw [Nat.pow_succ, Nat.mod_mul, Nat.mul_comm, Nat.add_comm]
theorem takenB_numB {m : Nat} {n : Nat} (h : n < 256 ^ m) (h2 : n < 9223372036854775808) : takenB (numB m n) = n := by
  unfold takenB
  rw [beN_numB, Nat.mod_eq_of_lt h]
  unfold wrap64
  omega
theorem numB_inj {m : Nat} {a b : Nat} (ha : a < 256 ^ m) (hb : b < 256 ^ m) (h : numB m a = numB m b) : a = b := by
  have := congrArg beN h
  rw [beN_numB, beN_numB, Nat.mod_eq_of_lt ha, Nat.mod_eq_of_lt hb] at this
  exact this

/-- s over what l has from o on. -/
def putAt (l : List UInt8) (o : Nat) (s : List UInt8) : List UInt8 := l.take o ++ s ++ l.drop (o + s.length)
theorem putAt_length {l : List UInt8} {o : Nat} {s : List UInt8} (h : o + s.length ≤ l.length) : (putAt l o s).length = l.length := by
  simp [putAt]; omega
theorem putAt_nil (l : List UInt8) (o : Nat) : putAt l o [] = l := by simp [putAt]
theorem putAt_set {l : List UInt8} {o : Nat} {s : List UInt8} (h : o + 1 + s.length ≤ l.length) (c : UInt8) : (putAt l (o + 1) s).set o c = putAt l o (c :: s) := by
  have h1 : l.take (o + 1) = l.take o ++ [l[o]'(by omega)] := List.take_succ_eq_append_getElem (by omega)
  have h2 : (l.take o).length = o := by simp only [List.length_take]; omega
  unfold putAt
  rw [h1]
  generalize l.take o = t at h2
  rw [show t ++ [l[o]'(by omega)] ++ s ++ l.drop (o + 1 + s.length) = t ++ (l[o]'(by omega) :: (s ++ l.drop (o + 1 + s.length))) by simp]
  rw [List.set_append_right _ _ (by omega), show o - t.length = 0 by omega, List.set_cons_zero]
  simp [Nat.add_assoc, Nat.add_comm 1]

/-! ### The head's sector -/
def markB : List UInt8 := [101, 115, 116, 97, 102, 101, 116, 116, 101, 58, 108, 111, 103]
def headB (size groups hand : Int) : Sec := markB ++ (numB 4 size ++ (numB 8 groups ++ (numB 2 hand ++ List.replicate 37 0)))
theorem headB_length (s g h : Int) : (headB s g h).length = 64 := by simp [headB, markB, numB_length]
theorem headB_groups (s g h : Int) : ((headB s g h).drop 17).take 8 = numB 8 g := by
  have e : headB s g h = (markB ++ numB 4 s) ++ (numB 8 g ++ (numB 2 h ++ List.replicate 37 0)) := by simp [headB]
  rw [e, List.drop_append_of_le_length (by simp [markB, numB_length]), List.drop_of_length_le (by simp [markB, numB_length]), List.nil_append, List.take_append_of_le_length (by simp [numB_length]), List.take_of_length_le (by simp [numB_length])]
theorem headB_hand (s g h : Int) : ((headB s g h).drop 25).take 2 = numB 2 h := by
  have e : headB s g h = (markB ++ numB 4 s ++ numB 8 g) ++ (numB 2 h ++ List.replicate 37 0) := by simp [headB]
  rw [e, List.drop_append_of_le_length (by simp [markB, numB_length]), List.drop_of_length_le (by simp [markB, numB_length]), List.nil_append, List.take_append_of_le_length (by simp [numB_length]), List.take_of_length_le (by simp [numB_length])]
theorem headB_size (s g h : Int) : ((headB s g h).drop 13).take 4 = numB 4 s := by
  have e : headB s g h = markB ++ (numB 4 s ++ (numB 8 g ++ (numB 2 h ++ List.replicate 37 0))) := by simp [headB]
  rw [e, List.drop_append_of_le_length (by simp [markB]), List.drop_of_length_le (by simp [markB]), List.nil_append, List.take_append_of_le_length (by simp [numB_length]), List.take_of_length_le (by simp [numB_length])]

/-! ### Room -/
def listsN (n : Nat) : Nat := (n + 31) / 32
def roomN (size : Nat) : Nat := if size < 3 then 0 else (size - 1) / 33 * 32 + ((size - 1) % 33 - 1)

/-! ### What a log does -/
/-- A head between two barriers. -/
def wBoth (d : DiskM) (at' size : Nat) (groups hand : Int) : Int × DiskM :=
  if d.barrier.1 ≠ 0 then d.barrier else
  if (d.barrier.2.write at' (headB size groups hand)).1 ≠ 0 then d.barrier.2.write at' (headB size groups hand) else
  (d.barrier.2.write at' (headB size groups hand)).2.barrier
def wThere (d : DiskM) (at' size : Int) : Bool := 3 ≤ size && size ≤ d.len && 0 ≤ at' && at' ≤ d.len - size
/-- Where a group's sector number i lies. -/
def wFirst (at' size : Nat) : Nat := at' + 1 + listsN (roomN size)
/-- Where the group's sector number i is to go, as the log's sector says. -/
def wTo (d : DiskM) (at' i : Nat) : Int := takenB (((d.now (at' + 1 + i / 32)).drop (i % 32 * 2)).take 2)
def wRound (d : DiskM) (at' size i : Nat) : Int × DiskM :=
  if d.check ((at' + 1 + i / 32 : Nat) : Int) ≠ 0 then (d.check ((at' + 1 + i / 32 : Nat) : Int), d) else
  if d.check ((wFirst at' size + i : Nat) : Int) ≠ 0 then (d.check ((wFirst at' size + i : Nat) : Int), d) else
  (if (d.write (wTo d at' i) (d.now (wFirst at' size + i))).1 = 0 then 0 else if (d.write (wTo d at' i) (d.now (wFirst at' size + i))).1 = 2 then 2 else 4, (d.write (wTo d at' i) (d.now (wFirst at' size + i))).2)
def wLoop (d : DiskM) (at' size : Nat) : Nat → Int × DiskM
  | 0 => (0, d)
  | i + 1 => if (wLoop d at' size i).1 ≠ 0 then wLoop d at' size i else wRound (wLoop d at' size i).2 at' size i
def wFinish (d : DiskM) (at' size : Nat) (groups : Int) (n : Nat) : Int × DiskM :=
  if (wLoop d at' size n).1 ≠ 0 then wLoop d at' size n else wBoth (wLoop d at' size n).2 at' size groups 0
def wFormat (d : DiskM) (at' size : Int) : Int × DiskM := if wThere d at' size = false then (1, d) else wBoth d at'.toNat size.toNat 0 0
def groupsIn (s : Sec) : Int := takenB ((s.drop 17).take 8)
def handIn (s : Sec) : Int := takenB ((s.drop 25).take 2)
/-- The groups that were done, if it opens; what it answers; the disk behind it. -/
def wOpen (d : DiskM) (at' size : Int) : Int × DiskM :=
  if wThere d at' size = false then (1, d) else
  if d.check at' ≠ 0 then (d.check at', d) else
  if d.now at'.toNat ≠ headB size (groupsIn (d.now at'.toNat)) (handIn (d.now at'.toNat)) ∨ (roomN size.toNat : Int) < handIn (d.now at'.toNat) ∨ groupsIn (d.now at'.toNat) < 0 then (4, d) else
  if 0 < handIn (d.now at'.toNat) then wFinish d at'.toNat size.toNat (groupsIn (d.now at'.toNat)) (handIn (d.now at'.toNat)).toNat else (0, d)

/-- A put: a sector and its bytes (and where these lie). -/
structure PutM where
  sector : Int
  bytes : List UInt8
  ad : Option Addr
  cap : Nat
instance : Inhabited PutM := ⟨⟨0, [], none, 0⟩⟩
/-- The bytes' slice. -/
abbrev PutM.val (q : PutM) : Value := .slice q.ad q.bytes.length q.cap
def wOk (len at' size : Nat) (seen : List PutM) (p : PutM) : Bool :=
  !(seen.any fun q => q.sector == p.sector) && !(decide ((at' : Int) ≤ p.sector) && decide (p.sector < at' + size)) && decide (0 ≤ p.sector) && decide (p.sector < len) && (p.bytes.length == 64)
def wMayTo (len at' size : Nat) : List PutM → List PutM → Bool
  | _, [] => true
  | seen, p :: r => wOk len at' size seen p && wMayTo len at' size (seen ++ [p]) r
def wMay (len at' size : Nat) (l : List PutM) : Bool := wMayTo len at' size [] l && decide (l.length ≤ roomN size)
/-- The group's bytes, written. -/
def wBytes (d : DiskM) (at' size : Nat) (l : List PutM) : Nat → Int × DiskM
  | 0 => (0, d)
  | i + 1 => if (wBytes d at' size l i).1 ≠ 0 then wBytes d at' size l i else (wBytes d at' size l i).2.write ((wFirst at' size + i : Nat) : Int) (l.getD i default).bytes
/-- Sector number k of those that tell where a group's sectors go. -/
def wList (l : List PutM) (k : Nat) : Sec :=
  let s := ((l.drop (32 * k)).take 32).flatMap fun p => numB 2 p.sector
  s ++ List.replicate (64 - s.length) 0
def wLists (d : DiskM) (at' : Nat) (l : List PutM) : Nat → Int × DiskM
  | 0 => (0, d)
  | k + 1 => if (wLists d at' l k).1 ≠ 0 then wLists d at' l k else (wLists d at' l k).2.write ((at' + 1 + k : Nat) : Int) (wList l k)
/-- What it answers, the groups that it says were done, the disk. -/
def wCommit (d : DiskM) (at' size : Nat) (groups : Int) (l : List PutM) : Int × Int × DiskM :=
  if wMay d.len at' size l = false then (20, groups, d) else
  if (wBytes d at' size l l.length).1 ≠ 0 then ((wBytes d at' size l l.length).1, groups, (wBytes d at' size l l.length).2) else
  if (wLists (wBytes d at' size l l.length).2 at' l (listsN l.length)).1 ≠ 0 then ((wLists (wBytes d at' size l l.length).2 at' l (listsN l.length)).1, groups, (wLists (wBytes d at' size l l.length).2 at' l (listsN l.length)).2) else
  let b := wBoth (wLists (wBytes d at' size l l.length).2 at' l (listsN l.length)).2 at' size (wrap64 (groups + 1)) l.length
  if b.1 ≠ 0 ∨ l.length = 0 then (b.1, wrap64 (groups + 1), b.2) else ((wFinish b.2 at' size (wrap64 (groups + 1)) l.length).1, wrap64 (groups + 1), (wFinish b.2 at' size (wrap64 (groups + 1)) l.length).2)

end Go.Proofs.Ytaiobekochhemaa
