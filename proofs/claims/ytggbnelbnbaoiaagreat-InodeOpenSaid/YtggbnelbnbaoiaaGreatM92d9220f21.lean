/- Texts of this claim, put together: AllocP, AllocT, AllocU, Buf, AllocS, InoM, InoC, InoG, InoH, IW1; no condition. -/
import Derived.Test.YtggbnelbnbaoiaaGreatMd505cac45f

set_option linter.unusedSimpArgs false
set_option linter.unusedVariables false

/- What a space's bits count; no program in sight. -/
namespace Go.Proofs.YtggbnelbnbaoiaaGreat
open Go.RowKit Go.MapKept

/-- How many hold, below n. -/
def cntB (f : Nat → Bool) : Nat → Nat
  | 0 => 0
  | n + 1 => cntB f n + (f n).toNat
theorem cntB_add (f : Nat → Bool) (a : Nat) : ∀ b, cntB f (a + b) = cntB f a + cntB (fun i => f (a + i)) b
  | 0 => rfl
  | b + 1 => by
    show cntB f (a + b) + (f (a + b)).toNat = _
    rw [cntB_add f a b]
    simp only [cntB]
    omega
theorem cntB_congr {f g : Nat → Bool} : ∀ n, (∀ i, i < n → f i = g i) → cntB f n = cntB g n
  | 0, _ => rfl
  | n + 1, h => by
    simp only [cntB]
    rw [cntB_congr n (fun i hi => h i (by omega)), h n (by omega)]
theorem cntB_put {f g : Nat → Bool} {m : Nat} : ∀ n, m < n → (∀ i, i < n → i ≠ m → g i = f i) → cntB g n + (f m).toNat = cntB f n + (g m).toNat
  | n + 1, hm, h => by
    simp only [cntB]
    by_cases e : m = n
    · subst e
      rw [cntB_congr m (fun i hi => h i (by omega) (by omega))]
      omega
    · have := cntB_put n (by omega) (fun i hi hne => h i (by omega) hne)
      rw [h n (by omega) (fun h => e h.symm)]
      omega
theorem ones_cnt : ∀ x : Fin 256, Lib.onesCount x.val = cntB (fun b => x.val.testBit b) 8 := by decide +kernel
theorem onesTo_cnt (r : Sec) : ∀ j, onesTo r j = cntB (bitOf r) (8 * j)
  | 0 => rfl
  | j + 1 => by
    have h := ones_cnt ⟨(r.getD j 0).toNat, (r.getD j 0).toNat_lt⟩
    simp only at h
    rw [show 8 * (j + 1) = 8 * j + 8 by omega, cntB_add, ← onesTo_cnt r j]
    have e := cntB_congr (f := fun b => (r.getD j 0).toNat.testBit b) (g := fun i => bitOf r (8 * j + i)) 8 (fun i hi => by
      simp only [bitOf]
      rw [show (8 * j + i) / 8 = j by omega, show (8 * j + i) % 8 = i by omega])
    rw [← e, ← h]
    rfl
theorem usedTo_cnt (G : Nat → Sec) : ∀ i, usedTo G i = cntB (bitN G) (512 * i)
  | 0 => rfl
  | i + 1 => by
    rw [show 512 * (i + 1) = 512 * i + 512 by omega, cntB_add, ← usedTo_cnt G i]
    have e := cntB_congr (f := bitOf (G (621 + i))) (g := fun k => bitN G (512 * i + k)) 512 (fun k hk => by
      simp only [bitN]
      rw [show (512 * i + k) / 512 = i by omega, show (512 * i + k) % 512 = k by omega])
    rw [← e, show 512 = 8 * 64 from rfl, ← onesTo_cnt]
    rfl

theorem bitSet_bits : ∀ (c : Fin 256) (j b : Fin 8) (u : Bool), ((UInt8.ofNat ((c.val - (if c.val.testBit j.val then 2 ^ j.val else 0)) + (if u then 2 ^ j.val else 0))).toNat.testBit b.val) = (if b.val = j.val then u else c.val.testBit b.val) := by decide +kernel
theorem bitOf_set {r : Sec} (hr : r.length = 64) {k : Nat} (hk : k < 512) (u : Bool) (m : Nat) : bitOf (secSet r k u) m = if m = k then u else bitOf r m := by
  unfold bitOf secSet
  have h := bitSet_bits ⟨(r.getD (k / 8) 0).toNat, (r.getD (k / 8) 0).toNat_lt⟩ ⟨k % 8, by omega⟩ ⟨m % 8, by omega⟩ u
  simp only at h
  by_cases e : m / 8 = k / 8
  · have e2 : (r.set (k / 8) (bitSet (r.getD (k / 8) 0) (k % 8) u)).getD (m / 8) 0 = bitSet (r.getD (k / 8) 0) (k % 8) u := by
      rw [e]; simp [List.getD, hr, show k / 8 < 64 by omega]
    rw [e2]
    unfold bitSet
    rw [h, e]
    by_cases e3 : m % 8 = k % 8
    · rw [if_pos e3, if_pos (by omega)]
    · rw [if_neg e3, if_neg (fun h => e3 (by rw [h]))]
  · have e2 : (r.set (k / 8) (bitSet (r.getD (k / 8) 0) (k % 8) u)).getD (m / 8) 0 = r.getD (m / 8) 0 := by
      rw [List.getD_eq_getElem?_getD, List.getElem?_set_ne (fun h => e h.symm), ← List.getD_eq_getElem?_getD]
    rw [e2, if_neg (fun h => e (by rw [h]))]
theorem bitN_set {G : Nat → Sec} (h64 : ∀ i, (G i).length = 64) (n : Nat) (u : Bool) (m : Nat) :
    bitN (updS G (621 + n / 512) (secSet (G (621 + n / 512)) (n % 512) u)) m = if m = n then u else bitN G m := by
  unfold bitN updS
  by_cases e : m / 512 = n / 512
  · rw [if_pos (by omega), bitOf_set (h64 _) (by omega), e]
    by_cases e2 : m = n
    · rw [if_pos (by omega), if_pos e2]
    · rw [if_neg (by omega), if_neg e2]
  · rw [if_neg (by omega), if_neg (fun h => e (by rw [h]))]
theorem bitN_other {G : Nat → Sec} {i : Nat} {b : Sec} {m : Nat} (h : 621 + m / 512 ≠ i) : bitN (updS G i b) m = bitN G m := by
  unfold bitN updS
  rw [if_neg h]

end Go.Proofs.YtggbnelbnbaoiaaGreat

/- The space's functions, with what they answer named; no condition. -/
namespace Go.Proofs.YtggbnelbnbaoiaaGreat
open Go.RowKit Go.MapKept

/-- A block that is taken, or given back. -/
def allocG (G : Nat → Sec) (n : Nat) : Nat → Sec := updS (updS G (621 + n / 512) (secSet (G (621 + n / 512)) (n % 512) true)) n zeroSec
def freeG (G : Nat → Sec) (n : Nat) : Nat → Sec := updS G (621 + n / 512) (secSet (G (621 + n / 512)) (n % 512) false)
theorem map_lt {len m : Nat} (hm : m < len) : 621 + m / 512 < 621 + mapsN len := by unfold mapsN; omega
theorem bitN_alloc {G : Nat → Sec} {len n : Nat} (h64 : ∀ i, (G i).length = 64) (hn : firstB len ≤ n) (m : Nat) (hm : m < len) : bitN (allocG G n) m = if m = n then true else bitN G m := by
  unfold allocG
  rw [bitN_other (by have := map_lt hm; unfold firstB at hn; omega), bitN_set h64]
theorem bitN_free {G : Nat → Sec} {n : Nat} (h64 : ∀ i, (G i).length = 64) (m : Nat) : bitN (freeG G n) m = if m = n then false else bitN G m := by
  unfold freeG
  rw [bitN_set h64]
theorem secSet64 {r : Sec} (h : r.length = 64) (k : Nat) (u : Bool) : (secSet r k u).length = 64 := by simp [secSet, h]
theorem alloc64 {G : Nat → Sec} (h64 : ∀ i, (G i).length = 64) (n i : Nat) : (allocG G n i).length = 64 :=
  upd64 (upd64 h64 _ (secSet64 (h64 _) _ _)) n rfl i
theorem free64 {G : Nat → Sec} (h64 : ∀ i, (G i).length = 64) (n i : Nat) : (freeG G n i).length = 64 := upd64 h64 _ (secSet64 (h64 _) _ _) i

theorem salloc_at {s p len g : Nat} {k : List Nat} {d : DiskM} {F G : Nat → Sec} {R : Assn} {w : World} (h : Bears w (spA s p d len g k true F G * R)) {n : Nat} (hn : firstB len ≤ n) (hn2 : n < len) (hf : bitN G n = false) (hfull : ∀ m, firstB len ≤ m → m < n → bitN G m = true) :
    Calls Tryz.prog 74 #[.pointer (some ⟨s, 0, none⟩)] w fun e w' => e = .returned (.tuple #[.int .i64 n, .int .i64 0]) ∧ Bears w' (spA s p d len g (n :: (621 + n / 512) :: k) true F (allocG G n) * R) := by
  refine (salloc_any h).mono ?_
  rintro e w' (⟨m, h1, h2, h3, h4, rfl, h5⟩ | ⟨h1, _⟩)
  · have : m = n := by
      rcases Nat.lt_trichotomy m n with q | q | q
      · have := hfull m h1 q; rw [h3] at this; cases this
      · exact q
      · have := h4 n q hn hn2; rw [hf] at this; cases this
    subst this
    exact ⟨rfl, h5⟩
  · have := h1 n hn2 hn hn2; rw [hf] at this; cases this
theorem salloc_full {s p len g : Nat} {k : List Nat} {d : DiskM} {F G : Nat → Sec} {R : Assn} {w : World} (h : Bears w (spA s p d len g k true F G * R)) (hfull : ∀ m, firstB len ≤ m → m < len → bitN G m = true) :
    Calls Tryz.prog 74 #[.pointer (some ⟨s, 0, none⟩)] w fun e w' => e = .returned (.tuple #[.int .i64 0, .int .i64 3]) ∧ Bears w' (spA s p d len g k true F G * R) := by
  refine (salloc_any h).mono ?_
  rintro e w' (⟨m, h1, h2, h3, h4, rfl, h5⟩ | ⟨h1, rfl, h2⟩)
  · have := hfull m h1 h2; rw [h3] at this; cases this
  · exact ⟨rfl, h2⟩
theorem chk_used {len : Nat} {G : Nat → Sec} {n : Nat} (h1 : firstB len ≤ n) (h2 : n < len) (hb : bitN G n = true) : chkN len G n = 0 := by
  unfold chkN
  rw [if_neg (by omega), Int.toNat_natCast, if_pos (by unfold bitN at hb; exact hb)]
theorem chk_unused {len : Nat} {G : Nat → Sec} {n : Nat} (h1 : firstB len ≤ n) (h2 : n < len) (hb : bitN G n = false) : chkN len G n = 41 := by
  unfold chkN
  rw [if_neg (by omega), Int.toNat_natCast, if_neg (by unfold bitN at hb; rw [hb]; decide)]
theorem sfree_at {s p len g : Nat} {k : List Nat} {d : DiskM} {F G : Nat → Sec} {R : Assn} {w : World} (h : Bears w (spA s p d len g k true F G * R)) {n : Nat} (h1 : firstB len ≤ n) (h2 : n < len) (hb : bitN G n = true) :
    Calls Tryz.prog 75 #[.pointer (some ⟨s, 0, none⟩), .int .i64 n] w fun e w' => e = .returned (.int .i64 0) ∧ Bears w' (spA s p d len g ((621 + n / 512) :: k) true F (freeG G n) * R) :=
  sfree_any h n rfl (chk_used h1 h2 hb) h2 rfl

/-- A new space's bits, blocks and inodes. -/
theorem freshF_other {n i : Nat} (h : i ≠ 0) : freshF n i = zeroSec := by unfold freshF updS; rw [if_neg h]
theorem zero_getD (i : Nat) : zeroSec.getD i 0 = 0 := by
  unfold zeroSec
  rw [List.getD_eq_getElem?_getD, List.getElem?_replicate]
  split <;> rfl
theorem bitN_fresh (n m : Nat) : bitN (freshF n) m = false := by
  unfold bitN bitOf
  rw [freshF_other (by omega), zero_getD]
  simp
theorem cntB_zero {f : Nat → Bool} (h : ∀ i, f i = false) : ∀ n, cntB f n = 0
  | 0 => rfl
  | n + 1 => by
    simp only [cntB]
    rw [cntB_zero h n, h]
    rfl
theorem blk_fresh (n m : Nat) : blkN n (freshF m) = ((n - firstB n : Nat) : Int) := by
  unfold blkN
  rw [usedTo_cnt, cntB_zero (bitN_fresh m)]
  simp
theorem ifree_fresh (n m j : Nat) : ifreeB n (freshF m) j = true := by
  unfold ifreeB
  rw [freshF_other (by unfold iSec; omega), zero_getD]
  rfl
theorem ifreeTo_fresh (n m : Nat) : ∀ j, ifreeTo n (freshF m) j = j
  | 0 => rfl
  | j + 1 => by
    simp only [ifreeTo]
    rw [ifreeTo_fresh n m j, ifree_fresh]
    rfl
theorem blk_alloc {G : Nat → Sec} {len n : Nat} (h64 : ∀ i, (G i).length = 64) (hn : firstB len ≤ n) (h2 : n < len) (h8 : 512 * mapsN len ≤ len) (hb : bitN G n = false) : blkN len (allocG G n) = blkN len G - 1 := by
  have h := cntB_put (f := bitN G) (g := bitN (allocG G n)) (m := n) (512 * mapsN len) (by unfold mapsN; omega) (fun i hi hne => by rw [bitN_alloc h64 hn i (by omega), if_neg hne])
  rw [hb, bitN_alloc h64 hn n h2, if_pos rfl, ← usedTo_cnt, ← usedTo_cnt] at h
  unfold blkN
  simp at h
  omega
theorem blk_free {G : Nat → Sec} {len n : Nat} (h64 : ∀ i, (G i).length = 64) (h2 : n < len) (hb : bitN G n = true) : blkN len (freeG G n) = blkN len G + 1 := by
  have h := cntB_put (f := bitN G) (g := bitN (freeG G n)) (m := n) (512 * mapsN len) (by unfold mapsN; omega) (fun i hi hne => by rw [bitN_free h64, if_neg hne])
  rw [hb, bitN_free h64, if_pos rfl, ← usedTo_cnt, ← usedTo_cnt] at h
  unfold blkN
  simp at h
  omega

end Go.Proofs.YtggbnelbnbaoiaaGreat

/- A transaction on a small space always fits; no condition. -/
namespace Go.Proofs.YtggbnelbnbaoiaaGreat
open Go.RowKit Go.MapKept

/-- The sectors outside the log. -/
def outL (len : Nat) : List Nat := 0 :: (List.range (len - 621)).map (621 + ·)
theorem outL_few {len : Nat} (h : len ≤ 1220) (_h2 : 621 ≤ len) : Few (outL len) 600 := Few.of (by simp [outL]; omega)
/-- However often sectors were written: none is pinned but those outside the log. -/
theorem CV.least {len : Nat} {k : List Nat} {F G : Nat → Sec} {op : Bool} {cm : CacheM} (h : CV len 1 620 F G k op cm) : CV len 1 620 F G (outL len) op cm :=
  ⟨h.nodup, h.out, h.free, h.view, fun y hy _ => by
    have o := h.out y hy
    unfold outL
    by_cases e : y.at'.toNat = 0
    · rw [e]; simp
    · refine List.mem_cons_of_mem _ (List.mem_map.2 ⟨y.at'.toNat - 621, ?_, by omega⟩)
      rw [List.mem_range]; omega, h.opn, h.len⟩
theorem Bears.spSub {s p len g : Nat} {k k' : List Nat} {d : DiskM} {F G : Nat → Sec} {op : Bool} {R : Assn} {w : World} (h : Bears w (spA s p d len g k op F G * R)) (hs : ∀ i ∈ k, i ∈ k') : Bears w (spA s p d len g k' op F G * R) := by
  obtain ⟨c, x, hok, h0⟩ := Bears.sp.1 h
  exact Bears.sp.2 ⟨c, x, hok, (h0.pull2.cvSub hs).pull2⟩
theorem Bears.spLeast {s p len g : Nat} {k : List Nat} {d : DiskM} {F G : Nat → Sec} {op : Bool} {R : Assn} {w : World} (h : Bears w (spA s p d len g k op F G * R)) : Bears w (spA s p d len g (outL len) op F G * R) := by
  obtain ⟨c, x, hok, h0⟩ := Bears.sp.1 h
  obtain ⟨cm, hV, h1⟩ := Bears.cv.1 h0.pull2
  exact Bears.sp.2 ⟨c, x, hok, (Bears.cv.2 ⟨cm, hV.least, h1⟩).pull2⟩

end Go.Proofs.YtggbnelbnbaoiaaGreat

/- A slice of bytes that nobody else has (Rows0), above the space; no condition. -/
namespace Go.Proofs.YtggbnelbnbaoiaaGreat

end Go.Proofs.YtggbnelbnbaoiaaGreat

/- The space as a state: what each call answers, and what is there behind it; no condition. -/
namespace Go.Proofs.YtggbnelbnbaoiaaGreat
open Go.RowKit Go.MapKept

/-- What a call answers: a number, bytes, an error. -/
structure Told where
  n : Int
  b : List UInt8
  e : Int
/-- g groups done; is a transaction open? F is sure, G at hand. -/
structure SpM where
  g : Nat
  op : Bool
  F : Nat → Sec
  G : Nat → Sec
def stA (s p : Nat) (d : DiskM) (len : Nat) (k : List Nat) (S : SpM) : Assn := spA s p d len S.g k S.op S.F S.G

/-- The least free block. -/
def freeAt (len : Nat) (G : Nat → Sec) : Option Nat := (List.range len).find? (fun m => decide (firstB len ≤ m) && !bitN G m)
theorem freeAt_some {len n : Nat} {G : Nat → Sec} (h1 : firstB len ≤ n) (h2 : n < len) (hf : bitN G n = false) (hfull : FullTo len G n) : freeAt len G = some n := by
  unfold freeAt
  rw [List.find?_eq_some_iff_getElem]
  refine ⟨by simp [h1, hf], n, by simpa using h2, by simp, fun j hj => ?_⟩
  simp only [List.getElem_range]
  by_cases h : firstB len ≤ j
  · rw [hfull j hj h (by omega)]; simp
  · simp [h]
theorem freeAt_none {len : Nat} {G : Nat → Sec} (hfull : FullTo len G len) : freeAt len G = none := by
  unfold freeAt
  rw [List.find?_eq_none]
  intro m hm
  rw [List.mem_range] at hm
  by_cases h : firstB len ≤ m
  · rw [hfull m hm h hm]; simp
  · simp [h]

def SpM.alloc (len : Nat) (S : SpM) : Told × SpM :=
  if S.op then match freeAt len S.G with
    | some n => (⟨n, [], 0⟩, { S with G := allocG S.G n })
    | none => (⟨0, [], 3⟩, S)
  else (⟨0, [], 30⟩, S)
def SpM.free (len : Nat) (S : SpM) (n : Int) : Told × SpM :=
  if S.op then if chkN len S.G n = 0 then (⟨0, [], 0⟩, { S with G := freeG S.G n.toNat }) else (⟨0, [], chkN len S.G n⟩, S)
  else (⟨0, [], 30⟩, S)
def SpM.read (len : Nat) (S : SpM) (n : Int) : Told := if chkN len S.G n = 0 then ⟨0, S.G n.toNat, 0⟩ else ⟨0, [], chkN len S.G n⟩
def SpM.write (len : Nat) (S : SpM) (n : Int) (b : List UInt8) : Told × SpM :=
  if S.op then if chkN len S.G n = 0 then (⟨0, [], (wrN S.G n.toNat b).1⟩, { S with G := (wrN S.G n.toNat b).2 }) else (⟨0, [], chkN len S.G n⟩, S)
  else (⟨0, [], 30⟩, S)
def inodeB (len : Nat) (G : Nat → Sec) (m : Nat) : List UInt8 := ((G (iSec len m)).drop (iAt m)).take 32
def SpM.inode (len : Nat) (S : SpM) (n : Int) : Told := if n < 0 ∨ 256 ≤ n then ⟨0, [], 40⟩ else ⟨0, inodeB len S.G n.toNat, 0⟩
def SpM.setInode (len : Nat) (S : SpM) (n : Int) (b : List UInt8) : Told × SpM :=
  if S.op then if n < 0 ∨ 256 ≤ n then (⟨0, [], 40⟩, S) else (⟨0, [], (siN len S.G n.toNat b).1⟩, { S with G := (siN len S.G n.toNat b).2 })
  else (⟨0, [], 30⟩, S)
def SpM.begins (S : SpM) : Told × SpM := if S.op then (⟨0, [], 30⟩, S) else (⟨0, [], 0⟩, { S with op := true })
def SpM.commit (S : SpM) : Told × SpM := if S.op then (⟨0, [], 0⟩, ⟨S.g + 1, false, S.G, S.G⟩) else (⟨0, [], 30⟩, S)
def SpM.abort (S : SpM) : Told × SpM := if S.op then (⟨0, [], 0⟩, ⟨S.g, false, S.F, S.F⟩) else (⟨0, [], 30⟩, S)

section
variable {s p len : Nat} {k : List Nat} {d : DiskM} {S : SpM} {R : Assn} {w : World}

theorem Bears.stLeast (h : Bears w (stA s p d len k S * R)) : Bears w (stA s p d len (outL len) S * R) := h.spLeast

theorem alloc_st (h : Bears w (stA s p d len k S * R)) {t : Told} {S' : SpM} (hs : S.alloc len = (t, S')) :
    Calls Tryz.prog 74 #[.pointer (some ⟨s, 0, none⟩)] w fun e w' => e = .returned (.tuple #[.int .i64 t.n, .int .i64 t.e]) ∧ Bears w' (stA s p d len (outL len) S' * R) := by
  obtain ⟨g, op, F, G⟩ := S
  cases op with
  | false =>
    unfold SpM.alloc at hs
    simp at hs
    obtain ⟨rfl, rfl⟩ := hs
    exact (salloc_closed h).mono fun e w' ⟨h1, h2⟩ => ⟨h1, h2.spLeast⟩
  | true =>
    refine (salloc_any h).mono ?_
    rintro e w' (⟨n, h1, h2, h3, h4, rfl, h5⟩ | ⟨h1, rfl, h2⟩)
    · have hf := freeAt_some h1 h2 h3 h4
      unfold SpM.alloc at hs
      simp [hf] at hs
      obtain ⟨rfl, rfl⟩ := hs
      exact ⟨rfl, h5.spLeast⟩
    · have hf := freeAt_none h1
      unfold SpM.alloc at hs
      simp [hf] at hs
      obtain ⟨rfl, rfl⟩ := hs
      exact ⟨rfl, h2.spLeast⟩

theorem free_st (h : Bears w (stA s p d len k S * R)) (n : Int) {t : Told} {S' : SpM} (hs : S.free len n = (t, S')) :
    Calls Tryz.prog 75 #[.pointer (some ⟨s, 0, none⟩), .int .i64 n] w fun e w' => e = .returned (.int .i64 t.e) ∧ Bears w' (stA s p d len (outL len) S' * R) := by
  obtain ⟨g, op, F, G⟩ := S
  cases op with
  | false =>
    unfold SpM.free at hs
    simp at hs
    obtain ⟨rfl, rfl⟩ := hs
    exact (sfree_closed h n).mono fun e w' ⟨h1, h2⟩ => ⟨h1, h2.spLeast⟩
  | true =>
    unfold SpM.free at hs
    by_cases hc : chkN len G n = 0
    · simp [hc] at hs
      obtain ⟨rfl, rfl⟩ := hs
      obtain ⟨m, rfl, h1, h2, h3⟩ := chk_range hc
      exact (sfree_any h m rfl hc h2 rfl).mono fun e w' ⟨h1, h2⟩ => ⟨h1, h2.spLeast⟩
    · simp [hc] at hs
      obtain ⟨rfl, rfl⟩ := hs
      exact (sfree_bad h n rfl hc).mono fun e w' ⟨h1, h2⟩ => ⟨h1, h2.spLeast⟩

theorem read_st (h : Bears w (stA s p d len k S * R)) (n : Int) {t : Told} (hs : S.read len n = t) :
    Calls Tryz.prog 42 #[.pointer (some ⟨s, 0, none⟩), .int .i64 n] w fun e w' => ∃ ad l cap, e = .returned (.tuple #[.slice ad l cap, .int .i64 t.e]) ∧ Bears w' (bufA (.slice ad l cap) t.b * (stA s p d len (outL len) S * R)) := by
  unfold SpM.read at hs
  by_cases hc : chkN len S.G n = 0
  · rw [if_pos hc] at hs
    subst hs
    obtain ⟨m, rfl, h1, h2, h3⟩ := chk_range hc
    refine (sreads_any h m rfl hc h1 h2 rfl).mono ?_
    rintro e w' ⟨ad, cap, rfl, h4⟩
    exact ⟨ad, 64, cap, rfl, (h4.bufRow).pull2.spLeast.pull2⟩
  · rw [if_neg hc] at hs
    subst hs
    refine (sread_bad h n rfl hc).mono ?_
    rintro e w' ⟨rfl, h4⟩
    exact ⟨none, 0, 0, rfl, h4.spLeast.bufNil⟩

theorem write_st (h : Bears w (stA s p d len k S * R)) (n : Int) {b : List UInt8} {ad : Option Addr} {bn cap : Nat} (hb : R.Tells (fun w => BytesIn w (.slice ad bn cap) b)) {t : Told} {S' : SpM} (hs : S.write len n b = (t, S')) :
    Calls Tryz.prog 58 #[.pointer (some ⟨s, 0, none⟩), .int .i64 n, .slice ad bn cap] w fun e w' => e = .returned (.int .i64 t.e) ∧ Bears w' (stA s p d len (outL len) S' * R) := by
  obtain ⟨g, op, F, G⟩ := S
  cases op with
  | false =>
    unfold SpM.write at hs
    simp at hs
    obtain ⟨rfl, rfl⟩ := hs
    exact (swrite_closed h n _).mono fun e w' ⟨h1, h2⟩ => ⟨h1, h2.spLeast⟩
  | true =>
    unfold SpM.write at hs
    by_cases hc : chkN len G n = 0
    · simp [hc] at hs
      obtain ⟨rfl, rfl⟩ := hs
      obtain ⟨m, rfl, h1, h2, h3⟩ := chk_range hc
      exact (swrites_any h m rfl hc h1 h2 hb).mono fun e w' ⟨h1, h2⟩ => ⟨h1, h2.spLeast⟩
    · simp [hc] at hs
      obtain ⟨rfl, rfl⟩ := hs
      exact (swrite_bad h n _ rfl hc).mono fun e w' ⟨h1, h2⟩ => ⟨h1, h2.spLeast⟩

theorem inode_st (h : Bears w (stA s p d len k S * R)) (n : Int) {t : Told} (hs : S.inode len n = t) :
    Calls Tryz.prog 85 #[.pointer (some ⟨s, 0, none⟩), .int .i64 n] w fun e w' => ∃ ad l cap, e = .returned (.tuple #[.slice ad l cap, .int .i64 t.e]) ∧ Bears w' (bufA (.slice ad l cap) t.b * (stA s p d len (outL len) S * R)) := by
  unfold SpM.inode at hs
  by_cases hc : n < 0 ∨ 256 ≤ n
  · rw [if_pos hc] at hs
    subst hs
    refine (sinode_no h n hc).mono ?_
    rintro e w' ⟨rfl, h4⟩
    exact ⟨none, 0, 0, rfl, h4.spLeast.bufNil⟩
  · rw [if_neg hc] at hs
    subst hs
    obtain ⟨m, rfl⟩ : ∃ m : Nat, n = (m : Int) := ⟨n.toNat, by omega⟩
    have hm : m < 256 := by omega
    have h64 := h.sp64 (iSec len m)
    refine (sinode_any h m hm rfl).mono ?_
    rintro e w' ⟨b, cap, rfl, h4⟩
    have hat : iAt m = 0 ∨ iAt m = 32 := by unfold iAt; omega
    refine ⟨_, _, _, rfl, ?_⟩
    simp only [Int.toNat_natCast, inodeB]
    generalize iAt m = a at hat
    have hl : (((S.G (iSec len m)).drop a).take 32).length = 32 := by simp [h64]; omega
    have e1 : (S.G (iSec len m)).take a ++ ((S.G (iSec len m)).drop a).take 32 ++ ((S.G (iSec len m)).drop a).drop 32 = S.G (iSec len m) := by
      rw [List.append_assoc, List.take_append_drop, List.take_append_drop]
    have hla : ((S.G (iSec len m)).take a).length = a := by simp [h64]; omega
    have h5 := Bears.bufPart (pre := (S.G (iSec len m)).take a) (l := ((S.G (iSec len m)).drop a).take 32) (post := ((S.G (iSec len m)).drop a).drop 32) (c := 32) (n := 64) (by rw [e1]; exact h4) (by rw [e1, h64])
    rw [hl, hla] at h5
    exact h5.pull2.spLeast.pull2

theorem setinode_st (h : Bears w (stA s p d len k S * R)) (n : Int) {b : List UInt8} {ad : Option Addr} {bn cap : Nat} (hb : R.Tells (fun w => BytesIn w (.slice ad bn cap) b)) {t : Told} {S' : SpM} (hs : S.setInode len n b = (t, S')) :
    Calls Tryz.prog 84 #[.pointer (some ⟨s, 0, none⟩), .int .i64 n, .slice ad bn cap] w fun e w' => e = .returned (.int .i64 t.e) ∧ Bears w' (stA s p d len (outL len) S' * R) := by
  obtain ⟨g, op, F, G⟩ := S
  cases op with
  | false =>
    unfold SpM.setInode at hs
    simp at hs
    obtain ⟨rfl, rfl⟩ := hs
    exact (setinode_closed h n _).mono fun e w' ⟨h1, h2⟩ => ⟨h1, h2.spLeast⟩
  | true =>
    unfold SpM.setInode at hs
    by_cases hc : n < 0 ∨ 256 ≤ n
    · simp [hc] at hs
      obtain ⟨rfl, rfl⟩ := hs
      exact (setinode_bad h n _ hc).mono fun e w' ⟨h1, h2⟩ => ⟨h1, h2.spLeast⟩
    · simp [hc] at hs
      obtain ⟨rfl, rfl⟩ := hs
      obtain ⟨m, rfl⟩ : ∃ m : Nat, n = (m : Int) := ⟨n.toNat, by omega⟩
      exact (setinode_any h m (by omega) hb).mono fun e w' ⟨h1, h2⟩ => ⟨h1, h2.spLeast⟩

theorem begin_st (h : Bears w (stA s p d len k S * R)) {t : Told} {S' : SpM} (hs : S.begins = (t, S')) :
    Calls Tryz.prog 19 #[.pointer (some ⟨s, 0, none⟩)] w fun e w' => e = .returned (.int .i64 t.e) ∧ Bears w' (stA s p d len (outL len) S' * R) := by
  obtain ⟨g, op, F, G⟩ := S
  cases op with
  | false =>
    unfold SpM.begins at hs
    simp at hs
    obtain ⟨rfl, rfl⟩ := hs
    exact (sbegin_any h).mono fun e w' ⟨h1, h2⟩ => ⟨h1, h2.spLeast⟩
  | true =>
    unfold SpM.begins at hs
    simp at hs
    obtain ⟨rfl, rfl⟩ := hs
    exact (sbegin_no h).mono fun e w' ⟨h1, h2⟩ => ⟨h1, h2.spLeast⟩

theorem abort_st (h : Bears w (stA s p d len k S * R)) {t : Told} {S' : SpM} (hs : S.abort = (t, S')) :
    Calls Tryz.prog 20 #[.pointer (some ⟨s, 0, none⟩)] w fun e w' => e = .returned (.int .i64 t.e) ∧ Bears w' (stA s p d len (outL len) S' * R) := by
  obtain ⟨g, op, F, G⟩ := S
  cases op with
  | false =>
    unfold SpM.abort at hs
    simp at hs
    obtain ⟨rfl, rfl⟩ := hs
    exact (sabort_no h).mono fun e w' ⟨h1, h2⟩ => ⟨h1, h2.spLeast⟩
  | true =>
    unfold SpM.abort at hs
    simp at hs
    obtain ⟨rfl, rfl⟩ := hs
    exact (sabort_any h).mono fun e w' ⟨h1, h2⟩ => ⟨h1, h2.spLeast⟩

theorem commit_st (h : Bears w (stA s p d len k S * R)) (hlen : len ≤ 1220) (hf : d.fuse = -1) (hg : S.g < 4611686018427387904) {t : Told} {S' : SpM} (hs : S.commit = (t, S')) :
    Calls Tryz.prog 11 #[.pointer (some ⟨s, 0, none⟩)] w fun e w' => ∃ d', e = .returned (.int .i64 t.e) ∧ d'.fuse = -1 ∧ Bears w' (stA s p d' len (outL len) S' * R) := by
  have hl := h.spOk
  obtain ⟨g, op, F, G⟩ := S
  cases op with
  | false =>
    unfold SpM.commit at hs
    simp at hs
    obtain ⟨rfl, rfl⟩ := hs
    exact (scommit_no h).mono fun e w' ⟨h1, h2⟩ => ⟨d, h1, hf, h2.spLeast⟩
  | true =>
    unfold SpM.commit at hs
    simp at hs
    obtain ⟨rfl, rfl⟩ := hs
    exact (scommit_any h.spLeast (outL_few hlen (by omega)) hf hg).mono fun e w' ⟨d', h1, h2, h3⟩ => ⟨d', h1, h2, h3.spLeast⟩
end

theorem inodeB_other {len m i : Nat} {G : Nat → Sec} {b : Sec} (h : iSec len m ≠ i) : inodeB len (updS G i b) m = inodeB len G m := by
  unfold inodeB updS
  rw [if_neg h]
theorem putAt_split {l b : Sec} {o : Nat} (h : o + b.length ≤ l.length) : putAt l o b = l.take o ++ b ++ l.drop (o + b.length) := rfl
theorem inodeB_set {len m j : Nat} {G : Nat → Sec} {b : Sec} (h64 : ∀ i, (G i).length = 64) (hb : b.length = 32) : inodeB len (updS G (iSec len m) (putAt (G (iSec len m)) (iAt m) b)) j = if j = m then b else inodeB len G j := by
  by_cases e : j = m
  · subst e
    rw [if_pos rfl]
    unfold inodeB updS
    rw [if_pos rfl]
    have hat : iAt j = 0 ∨ iAt j = 32 := by unfold iAt; omega
    have hl := h64 (iSec len j)
    have hpl : (putAt (G (iSec len j)) (iAt j) b).length = 64 := putAt64 hl (by omega)
    apply List.ext_getElem?
    intro i
    rw [List.getElem?_take, List.getElem?_drop]
    by_cases hi : i < 32
    · rw [if_pos hi]
      unfold putAt
      rw [List.append_assoc, List.getElem?_append_right (by simp; omega), List.length_take, Nat.min_eq_left (by omega), Nat.add_sub_cancel_left, List.getElem?_append_left (by omega)]
    · rw [if_neg hi, List.getElem?_eq_none (by omega)]
  · rw [if_neg e]
    by_cases es : iSec len j = iSec len m
    · unfold inodeB updS
      rw [if_pos es, es]
      have h1 : iAt j = 0 ∧ iAt m = 32 ∨ iAt j = 32 ∧ iAt m = 0 := by unfold iSec at es; unfold iAt; omega
      have hl := h64 (iSec len m)
      unfold putAt
      rcases h1 with ⟨h1, h2⟩ | ⟨h1, h2⟩
      · rw [h1, h2, List.drop_zero, List.drop_zero, List.append_assoc, List.take_append_of_le_length (by simp [hl])]
        rw [List.take_take, Nat.min_self]
      · rw [h1, h2, List.take_zero, List.nil_append, List.drop_append, List.drop_of_length_le (by omega), List.nil_append, hb, List.drop_drop]
    · exact inodeB_other es
theorem siN_ok {len m : Nat} {G : Nat → Sec} {b : Sec} (hb : b.length = 32) : siN len G m b = (0, updS G (iSec len m) (putAt (G (iSec len m)) (iAt m) b)) := by unfold siN; rw [if_pos hb]
theorem wrN_ok {m : Nat} {G : Nat → Sec} {b : Sec} (hb : b.length = 64) : wrN G m b = (0, updS G m b) := by unfold wrN; rw [if_pos hb]

end Go.Proofs.YtggbnelbnbaoiaaGreat

/- Files of blocks, plain: numbers of two bytes, nodes, layouts; no program in sight. -/
namespace Go.Proofs.YtggbnelbnbaoiaaGreat
open Go.RowKit Go.MapKept

/-- A number of two bytes at a place. -/
def two (b : List UInt8) (i : Nat) : Nat := (b.getD i 0).toNat * 256 + (b.getD (i + 1) 0).toNat
def lay2 (b : List UInt8) (i n : Nat) : List UInt8 := (b.set i (UInt8.ofNat (n / 256))).set (i + 1) (UInt8.ofNat n)
theorem two_lt (b : List UInt8) (i : Nat) : two b i < 65536 := by
  have h1 := (b.getD i 0).toNat_lt
  have h2 := (b.getD (i + 1) 0).toNat_lt
  unfold two
  omega
theorem lay2_length (b : List UInt8) (i n : Nat) : (lay2 b i n).length = b.length := by simp [lay2]
theorem getD_set8 (b : List UInt8) (i j : Nat) (c : UInt8) (hi : i < b.length) : (b.set i c).getD j 0 = if j = i then c else b.getD j 0 := by
  by_cases e : j = i
  · subst e; rw [if_pos rfl, List.getD_eq_getElem?_getD, List.getElem?_set_self hi]; rfl
  · rw [if_neg e, List.getD_eq_getElem?_getD, List.getElem?_set_ne (Ne.symm e), ← List.getD_eq_getElem?_getD]
theorem lay2_getD (b : List UInt8) (i n j : Nat) (hi : i + 1 < b.length) : (lay2 b i n).getD j 0 = if j = i + 1 then UInt8.ofNat n else if j = i then UInt8.ofNat (n / 256) else b.getD j 0 := by
  unfold lay2
  rw [getD_set8 _ _ _ _ (by simpa using hi), getD_set8 _ _ _ _ (by omega)]
theorem lay2_getD_lt (b : List UInt8) (i n j : Nat) (hi : i + 1 < b.length) (h : j < i) : (lay2 b i n).getD j 0 = b.getD j 0 := by
  rw [lay2_getD _ _ _ _ hi, if_neg (by omega), if_neg (by omega)]
theorem two_lay2 (b : List UInt8) (i n : Nat) (hi : i + 1 < b.length) (hn : n < 65536) : two (lay2 b i n) i = n := by
  unfold two
  rw [lay2_getD _ _ _ _ hi, lay2_getD _ _ _ _ hi, if_neg (by omega), if_pos rfl, if_pos rfl, UInt8.toNat_ofNat_of_lt' (by show n / 256 < 256; omega), UInt8.toNat_ofNat']
  show n / 256 * 256 + n % 256 = n
  omega
theorem two_lay2_other (b : List UInt8) (i j n : Nat) (hi : i + 1 < b.length) (h : j + 1 < i ∨ i + 1 < j) : two (lay2 b i n) j = two b j := by
  unfold two
  rw [lay2_getD _ _ _ _ hi, lay2_getD _ _ _ _ hi, if_neg (by omega), if_neg (by omega), if_neg (by omega), if_neg (by omega)]

/-- An inode. -/
structure NodeM where
  kind : Nat
  links : Nat
  size : Nat
  d0 : Nat
  d1 : Nat
  d2 : Nat
  d3 : Nat
  near : Nat
  wide : Nat
def NodeM.zero : NodeM := ⟨0, 0, 0, 0, 0, 0, 0, 0, 0⟩
def NodeM.dir (x : NodeM) : Nat → Nat
  | 0 => x.d0
  | 1 => x.d1
  | 2 => x.d2
  | _ => x.d3
def NodeM.setDir (x : NodeM) (k n : Nat) : NodeM := match k with
  | 0 => { x with d0 := n }
  | 1 => { x with d1 := n }
  | 2 => { x with d2 := n }
  | _ => { x with d3 := n }
theorem NodeM.dir_set {x : NodeM} {k n j : Nat} (hk : k < 4) (hj : j < 4) : (x.setDir k n).dir j = if j = k then n else x.dir j := by
  match k, hk, j, hj with
  | 0, _, 0, _ | 0, _, 1, _ | 0, _, 2, _ | 0, _, 3, _ | 1, _, 0, _ | 1, _, 1, _ | 1, _, 2, _ | 1, _, 3, _ | 2, _, 0, _ | 2, _, 1, _ | 2, _, 2, _ | 2, _, 3, _ | 3, _, 0, _ | 3, _, 1, _ | 3, _, 2, _ | 3, _, 3, _ => rfl
/-- What fits into an inode. -/
structure NodeM.Fits (x : NodeM) : Prop where
  kind : x.kind < 256
  links : x.links < 65536
  size : x.size < 4294967296
  d0 : x.d0 < 65536
  d1 : x.d1 < 65536
  d2 : x.d2 < 65536
  d3 : x.d3 < 65536
  near : x.near < 65536
  wide : x.wide < 65536
theorem NodeM.Fits.setNear {x : NodeM} (h : x.Fits) {q : Nat} (hq : q < 65536) : ({ x with near := q } : NodeM).Fits := ⟨h.kind, h.links, h.size, h.d0, h.d1, h.d2, h.d3, hq, h.wide⟩
theorem NodeM.Fits.setWide {x : NodeM} (h : x.Fits) {q : Nat} (hq : q < 65536) : ({ x with wide := q } : NodeM).Fits := ⟨h.kind, h.links, h.size, h.d0, h.d1, h.d2, h.d3, h.near, hq⟩
theorem NodeM.Fits.setDir {x : NodeM} (h : x.Fits) {k q : Nat} (hq : q < 65536) : (x.setDir k q).Fits := by
  match k with
  | 0 => exact ⟨h.kind, h.links, h.size, hq, h.d1, h.d2, h.d3, h.near, h.wide⟩
  | 1 => exact ⟨h.kind, h.links, h.size, h.d0, hq, h.d2, h.d3, h.near, h.wide⟩
  | 2 => exact ⟨h.kind, h.links, h.size, h.d0, h.d1, hq, h.d3, h.near, h.wide⟩
  | k + 3 => exact ⟨h.kind, h.links, h.size, h.d0, h.d1, h.d2, hq, h.near, h.wide⟩
def dec (b : List UInt8) : NodeM := ⟨(b.getD 0 0).toNat, two b 1, two b 3 * 65536 + two b 5, two b 7, two b 9, two b 11, two b 13, two b 15, two b 17⟩
theorem dec_fits (b : List UInt8) : (dec b).Fits := by
  have h0 := (b.getD 0 0).toNat_lt
  have h3 := two_lt b 3
  have h5 := two_lt b 5
  exact ⟨h0, two_lt _ _, by unfold dec; simp only; omega, two_lt _ _, two_lt _ _, two_lt _ _, two_lt _ _, two_lt _ _, two_lt _ _⟩
def encB (x : NodeM) : List UInt8 :=
  lay2 (lay2 (lay2 (lay2 (lay2 (lay2 (lay2 (lay2 (lay2 ((List.replicate 32 0).set 0 (UInt8.ofNat x.kind)) 1 x.links) 3 (x.size / 65536)) 5 x.size) 7 x.d0) 9 x.d1) 11 x.d2) 13 x.d3) 15 x.near) 17 x.wide
theorem encB_length (x : NodeM) : (encB x).length = 32 := by unfold encB; simp [lay2_length]
theorem two_lay2_low (b : List UInt8) (i n : Nat) (hi : i + 1 < b.length) : two (lay2 b i n) i = n % 65536 := by
  unfold two
  rw [lay2_getD _ _ _ _ hi, lay2_getD _ _ _ _ hi, if_neg (by omega), if_pos rfl, if_pos rfl, UInt8.toNat_ofNat', UInt8.toNat_ofNat']
  show n / 256 % 256 * 256 + n % 256 = n % 65536
  omega
set_option maxRecDepth 10000 in
theorem dec_enc {x : NodeM} (h : x.Fits) : dec (encB x) = x := by
  obtain ⟨kind, links, size, d0, d1, d2, d3, near, wide⟩ := x
  obtain ⟨h1, h2, h3, h4, h5, h6, h7, h8, h9⟩ := h
  simp only at h1 h2 h3 h4 h5 h6 h7 h8 h9
  have hl : (List.replicate 32 (0 : UInt8)).length = 32 := by simp
  unfold dec encB
  generalize List.replicate 32 (0 : UInt8) = z at hl ⊢
  simp only [NodeM.mk.injEq]
  refine ⟨?_, ?_, ?_, ?_, ?_, ?_, ?_, ?_, ?_⟩
  · repeat rw [lay2_getD_lt _ _ _ _ (by simp [lay2_length, hl]) (by omega)]
    rw [getD_set8 z 0 0 _ (by omega), if_pos rfl, UInt8.toNat_ofNat_of_lt' (by show kind < 256; omega)]
  · repeat rw [two_lay2_other _ _ _ _ (by simp [lay2_length, hl]) (by omega)]
    rw [two_lay2_low _ _ _ (by simp [lay2_length, hl])]; omega
  · repeat rw [two_lay2_other _ 17 _ _ (by simp [lay2_length, hl]) (by omega)]
    repeat rw [two_lay2_other _ 15 _ _ (by simp [lay2_length, hl]) (by omega)]
    repeat rw [two_lay2_other _ 13 _ _ (by simp [lay2_length, hl]) (by omega)]
    repeat rw [two_lay2_other _ 11 _ _ (by simp [lay2_length, hl]) (by omega)]
    repeat rw [two_lay2_other _ 9 _ _ (by simp [lay2_length, hl]) (by omega)]
    repeat rw [two_lay2_other _ 7 _ _ (by simp [lay2_length, hl]) (by omega)]
    rw [two_lay2_other _ 5 3 _ (by simp [lay2_length, hl]) (by omega), two_lay2_low _ _ _ (by simp [lay2_length, hl]), two_lay2_low _ _ _ (by simp [lay2_length, hl])]
    omega
  all_goals
    repeat rw [two_lay2_other _ _ _ _ (by simp [lay2_length, hl]) (by omega)]
    rw [two_lay2_low _ _ _ (by simp [lay2_length, hl])]; omega

end Go.Proofs.YtggbnelbnbaoiaaGreat

/- Files of blocks, plain: where a file's blocks lie, whose they are; no program in sight. -/
namespace Go.Proofs.YtggbnelbnbaoiaaGreat
open Go.RowKit Go.MapKept

def updF {α : Type} (f : Nat → α) (n : Nat) (v : α) : Nat → α := fun m => if m = n then v else f m
@[simp] theorem updF_self {α : Type} (f : Nat → α) (n : Nat) (v : α) : updF f n v n = v := if_pos rfl
theorem updF_ne {α : Type} {f : Nat → α} {n m : Nat} {v : α} (h : m ≠ n) : updF f n v m = f m := if_neg h
theorem updF_id {α : Type} (f : Nat → α) (n : Nat) : updF f n (f n) = f := by
  funext m
  unfold updF
  split
  · rename_i h; rw [h]
  · rfl
theorem updF_updF {α : Type} (f : Nat → α) (n : Nat) (v u : α) : updF (updF f n v) n u = updF f n u := by
  funext m
  unfold updF
  split <;> rfl

/-- Where a file's blocks lie. -/
structure LayM where
  blk : List Nat
  near : Nat
  wide : Nat
  inner : List Nat
def LayM.own (L : LayM) : List Nat := L.blk ++ ((if 4 < L.blk.length then [L.near] else []) ++ (if 36 < L.blk.length then L.wide :: L.inner else []))
def nIn (nb : Nat) : Nat := (nb - 36 + 31) / 32
/-- How many blocks so many blocks of bytes cost. -/
def costN (nb : Nat) : Nat := nb + ((if 4 < nb then 1 else 0) + (if 36 < nb then 1 + nIn nb else 0))
theorem LayM.mem_blk {L : LayM} {k : Nat} (h : k < L.blk.length) : L.blk.getD k 0 ∈ L.own := by
  unfold LayM.own
  refine List.mem_append_left _ ?_
  rw [List.getD_eq_getElem?_getD, List.getElem?_eq_getElem h]
  exact List.getElem_mem _
theorem LayM.mem_near {L : LayM} (h : 4 < L.blk.length) : L.near ∈ L.own := by
  unfold LayM.own
  rw [if_pos h]
  simp
theorem LayM.mem_wide {L : LayM} (h : 36 < L.blk.length) : L.wide ∈ L.own := by
  unfold LayM.own
  rw [if_pos h]
  simp
theorem LayM.mem_inner {L : LayM} (h : 36 < L.blk.length) {j : Nat} (hj : j < L.inner.length) : L.inner.getD j 0 ∈ L.own := by
  unfold LayM.own
  rw [if_pos h]
  refine List.mem_append_right _ (List.mem_append_right _ (List.mem_cons_of_mem _ ?_))
  rw [List.getD_eq_getElem?_getD, List.getElem?_eq_getElem hj]
  exact List.getElem_mem _

structure LayOn (G : Nat → Sec) (x : NodeM) (L : LayM) : Prop where
  max : L.blk.length ≤ 256
  dir : ∀ k, k < 4 → k < L.blk.length → x.dir k = L.blk.getD k 0
  near : 4 < L.blk.length → x.near = L.near
  nearN : ∀ k, 4 ≤ k → k < 36 → k < L.blk.length → two (G L.near) (2 * (k - 4)) = L.blk.getD k 0
  near0 : L.blk.length ≤ 4 → x.near = 0
  wide : 36 < L.blk.length → x.wide = L.wide
  wide0 : L.blk.length ≤ 36 → x.wide = 0
  inn : L.inner.length = nIn L.blk.length
  wideN : ∀ j, j < L.inner.length → two (G L.wide) (2 * j) = L.inner.getD j 0
  innN : ∀ k, 36 ≤ k → k < L.blk.length → two (G (L.inner.getD ((k - 36) / 32) 0)) (2 * ((k - 36) % 32)) = L.blk.getD k 0
theorem LayOn.cost {G : Nat → Sec} {x : NodeM} {L : LayM} (h : LayOn G x L) : L.own.length = costN L.blk.length := by
  unfold LayM.own costN
  have := h.inn
  simp only [List.length_append]
  split <;> split <;> simp <;> omega
theorem LayOn.innLt {G : Nat → Sec} {x : NodeM} {L : LayM} (h : LayOn G x L) {k : Nat} (h1 : 36 ≤ k) (h2 : k < L.blk.length) : (k - 36) / 32 < L.inner.length := by
  rw [h.inn]; unfold nIn; omega
theorem LayOn.innPos {G : Nat → Sec} {x : NodeM} {L : LayM} (h : LayOn G x L) {j : Nat} (hj : j < L.inner.length) : 36 < L.blk.length := by
  have := h.inn; unfold nIn at this; omega
theorem LayOn.congr {G G' : Nat → Sec} {x : NodeM} {L : LayM} (h : LayOn G x L) (hG : ∀ i ∈ L.own, G' i = G i) : LayOn G' x L := by
  refine ⟨h.max, h.dir, h.near, fun k h1 h2 h3 => ?_, h.near0, h.wide, h.wide0, h.inn, fun j hj => ?_, fun k h1 h2 => ?_⟩
  · rw [hG _ (LayM.mem_near (by omega))]; exact h.nearN k h1 h2 h3
  · rw [hG _ (LayM.mem_wide (h.innPos hj))]; exact h.wideN j hj
  · rw [hG _ (LayM.mem_inner (by omega) (h.innLt h1 h2))]; exact h.innN k h1 h2

/-- The k-th 64 bytes. -/
def chunkB (B : Nat → UInt8) (k : Nat) : List UInt8 := (List.range 64).map fun i => B (64 * k + i)
theorem chunkB_length (B : Nat → UInt8) (k : Nat) : (chunkB B k).length = 64 := by simp [chunkB]
theorem chunkB_getD (B : Nat → UInt8) (k : Nat) {i : Nat} (hi : i < 64) : (chunkB B k).getD i 0 = B (64 * k + i) := by
  simp [chunkB, hi]
theorem chunk_ext {a b : List UInt8} (ha : a.length = 64) (hb : b.length = 64) (h : ∀ i, i < 64 → a.getD i 0 = b.getD i 0) : a = b := by
  apply List.ext_getElem (by rw [ha, hb])
  intro i h1 h2
  have := h i (by omega)
  simpa [List.getD_eq_getElem?_getD, h1, h2] using this
structure DataOn (G : Nat → Sec) (L : LayM) (B : Nat → UInt8) : Prop where
  at' : ∀ k, k < L.blk.length → G (L.blk.getD k 0) = chunkB B k
  tail : ∀ j, 64 * L.blk.length ≤ j → B j = 0
theorem DataOn.congr {G G' : Nat → Sec} {L : LayM} {B : Nat → UInt8} (h : DataOn G L B) (hG : ∀ i ∈ L.own, G' i = G i) : DataOn G' L B :=
  ⟨fun k hk => by rw [hG _ (LayM.mem_blk hk)]; exact h.at' k hk, h.tail⟩

/-- All files: nodes X, bytes B, layouts Ls; E: blocks that are taken and nobody's. -/
structure Core (len : Nat) (G : Nat → Sec) (X : Nat → NodeM) (B : Nat → Nat → UInt8) (Ls : Nat → LayM) (E : List Nat) : Prop where
  g64 : ∀ i, (G i).length = 64
  lay : ∀ m, m < 256 → LayOn G (X m) (Ls m)
  data : ∀ m, m < 256 → DataOn G (Ls m) (B m)
  rng : ∀ m, m < 256 → ∀ i ∈ (Ls m).own, firstB len ≤ i ∧ i < len
  nodup : ∀ m, m < 256 → (Ls m).own.Nodup
  disj : ∀ m m', m < 256 → m' < 256 → m ≠ m' → ∀ i ∈ (Ls m).own, i ∉ (Ls m').own
  eR : ∀ i ∈ E, firstB len ≤ i ∧ i < len
  eN : E.Nodup
  eD : ∀ m, m < 256 → ∀ i ∈ E, i ∉ (Ls m).own
  bits : ∀ i, firstB len ≤ i → i < len → (bitN G i = true ↔ (∃ m, m < 256 ∧ i ∈ (Ls m).own) ∨ i ∈ E)
  out : ∀ i, i < 512 * mapsN len → (i < firstB len ∨ len ≤ i) → bitN G i = false

theorem bitN_alloc' {G : Nat → Sec} {len n : Nat} (h64 : ∀ i, (G i).length = 64) (hn : firstB len ≤ n) (m : Nat) (hm : m < 512 * mapsN len) : bitN (allocG G n) m = if m = n then true else bitN G m := by
  unfold allocG
  rw [bitN_other (by unfold firstB at hn; omega), bitN_set h64]
theorem blk_alloc' {G : Nat → Sec} {len n : Nat} (h64 : ∀ i, (G i).length = 64) (hn : firstB len ≤ n) (h2 : n < len) (hb : bitN G n = false) : blkN len (allocG G n) = blkN len G - 1 := by
  have hl : n < 512 * mapsN len := by unfold mapsN; omega
  have h := cntB_put (f := bitN G) (g := bitN (allocG G n)) (m := n) (512 * mapsN len) hl (fun i hi hne => by rw [bitN_alloc' h64 hn i hi, if_neg hne])
  rw [hb, bitN_alloc' h64 hn n hl, if_pos rfl, ← usedTo_cnt, ← usedTo_cnt] at h
  unfold blkN
  simp at h
  omega
theorem blk_same {G G' : Nat → Sec} {len : Nat} (h : ∀ i, 621 + i / 512 < firstB len → G' (621 + i / 512) = G (621 + i / 512)) : blkN len G' = blkN len G := by
  unfold blkN
  have : usedTo G' (mapsN len) = usedTo G (mapsN len) := by
    rw [usedTo_cnt, usedTo_cnt]
    refine cntB_congr _ (fun i hi => ?_)
    unfold bitN
    rw [h i (by unfold firstB; omega)]
  rw [this]
theorem cntB_full {f : Nat → Bool} {a : Nat} : ∀ b, a ≤ b → (∀ i, a ≤ i → i < b → f i = true) → cntB f b = cntB f a + (b - a)
  | 0, h, _ => by obtain rfl : a = 0 := by omega
                  rfl
  | b + 1, h, hf => by
    by_cases e : a = b + 1
    · subst e; omega
    · simp only [cntB]
      rw [cntB_full b (by omega) (fun i h1 h2 => hf i h1 (by omega)), hf b (by omega) (by omega)]
      simp
      omega
/-- A block can be taken. -/
def CanTake (len : Nat) (G : Nat → Sec) : Prop := ∃ q, firstB len ≤ q ∧ q < len ∧ bitN G q = false
theorem cntB_none {f : Nat → Bool} : ∀ n, (∀ i, i < n → f i = false) → cntB f n = 0
  | 0, _ => rfl
  | n + 1, h => by simp only [cntB]; rw [cntB_none n (fun i hi => h i (by omega)), h n (by omega)]; rfl
theorem canTake_of {len : Nat} {G : Nat → Sec} (hlen : firstB len ≤ len) (hout : ∀ i, i < 512 * mapsN len → (i < firstB len ∨ len ≤ i) → bitN G i = false) (hb : 0 < blkN len G) : CanTake len G := by
  by_cases h : CanTake len G
  · exact h
  · exfalso
    have hl : len ≤ 512 * mapsN len := by unfold mapsN; omega
    have h1 : cntB (bitN G) (firstB len) = 0 := cntB_none _ (fun i hi => hout i (by omega) (.inl hi))
    have h2 := cntB_full (f := bitN G) len hlen (fun i h3 h4 => by
      cases hq : bitN G i with
      | true => rfl
      | false => exact absurd ⟨i, h3, h4, hq⟩ h)
    have h3 : cntB (bitN G) (512 * mapsN len) = cntB (bitN G) len + cntB (fun i => bitN G (len + i)) (512 * mapsN len - len) := by
      rw [← cntB_add, Nat.add_sub_cancel' hl]
    have h4 : cntB (fun i => bitN G (len + i)) (512 * mapsN len - len) = 0 := cntB_none _ (fun i hi => hout (len + i) (by omega) (.inr (by omega)))
    have h5 := usedTo_cnt G (mapsN len)
    unfold blkN at hb
    omega

section
variable {len : Nat} {G : Nat → Sec} {X : Nat → NodeM} {B : Nat → Nat → UInt8} {Ls : Nat → LayM} {E : List Nat}

/-- One file's part changes, within its own blocks and those that are nobody's. -/
theorem Core.relink (h : Core len G X B Ls E) {n : Nat} (hn : n < 256) {G' : Nat → Sec} {x : NodeM} {b : Nat → UInt8} {L : LayM} {E' : List Nat}
    (hG : ∀ i, i ∉ (Ls n).own → i ∉ E → G' i = G i) (hb : ∀ i, 621 + i / 512 < firstB len → G' (621 + i / 512) = G (621 + i / 512)) (h64 : ∀ i, (G' i).length = 64)
    (hL : LayOn G' x L) (hD : DataOn G' L b) (hN : L.own.Nodup) (hN' : E'.Nodup) (hd : ∀ i ∈ E', i ∉ L.own) (hs : ∀ i, (i ∈ L.own ∨ i ∈ E') ↔ (i ∈ (Ls n).own ∨ i ∈ E)) :
    Core len G' (updF X n x) (updF B n b) (updF Ls n L) E' := by
  have hfar : ∀ m, m < 256 → m ≠ n → ∀ i ∈ (Ls m).own, i ∉ (Ls n).own ∧ i ∉ E := fun m hm hne i hi => ⟨h.disj m n hm hn hne i hi, fun he => h.eD m hm i he hi⟩
  have hr : ∀ i, (i ∈ L.own ∨ i ∈ E') → firstB len ≤ i ∧ i < len := fun i hi => by
    rcases (hs i).1 hi with hi | hi
    · exact h.rng n hn i hi
    · exact h.eR i hi
  refine ⟨h64, fun m hm => ?_, fun m hm => ?_, fun m hm i hi => ?_, fun m hm => ?_, fun m m' hm hm' hne i hi hi' => ?_, fun i hi => hr i (.inr hi), hN', fun m hm i hi hi' => ?_, fun i h1 h2 => ?_, fun i h1 h2 => ?_⟩
  · by_cases e : m = n
    · subst e; simpa using hL
    · rw [updF_ne e, updF_ne e]
      exact (h.lay m hm).congr fun i hi => hG i (hfar m hm e i hi).1 (hfar m hm e i hi).2
  · by_cases e : m = n
    · subst e; simpa using hD
    · rw [updF_ne e, updF_ne e]
      exact (h.data m hm).congr fun i hi => hG i (hfar m hm e i hi).1 (hfar m hm e i hi).2
  · by_cases e : m = n
    · subst e; rw [updF_self] at hi; exact hr i (.inl hi)
    · rw [updF_ne e] at hi; exact h.rng m hm i hi
  · by_cases e : m = n
    · subst e; rw [updF_self]; exact hN
    · rw [updF_ne e]; exact h.nodup m hm
  · by_cases e : m = n
    · subst e
      rw [updF_self] at hi
      rw [updF_ne (Ne.symm hne)] at hi'
      have h3 := hfar m' hm' (Ne.symm hne) i hi'
      rcases (hs i).1 (.inl hi) with h4 | h4
      · exact h3.1 h4
      · exact h3.2 h4
    · rw [updF_ne e] at hi
      by_cases e' : m' = n
      · subst e'
        rw [updF_self] at hi'
        have h3 := hfar m hm e i hi
        rcases (hs i).1 (.inl hi') with h4 | h4
        · exact h3.1 h4
        · exact h3.2 h4
      · rw [updF_ne e'] at hi'
        exact h.disj m m' hm hm' hne i hi hi'
  · by_cases e : m = n
    · subst e; rw [updF_self] at hi'; exact hd i hi hi'
    · rw [updF_ne e] at hi'
      have h3 := hfar m hm e i hi'
      rcases (hs i).1 (.inr hi) with h4 | h4
      · exact h3.1 h4
      · exact h3.2 h4
  · have hbit : bitN G' i = bitN G i := by
      unfold bitN
      rw [hb i (by unfold firstB mapsN; omega)]
    rw [hbit, h.bits i h1 h2]
    constructor
    · rintro (⟨m, hm, hi⟩ | hi)
      · by_cases e : m = n
        · subst e
          rcases (hs i).2 (.inl hi) with h4 | h4
          · exact .inl ⟨m, hm, by rw [updF_self]; exact h4⟩
          · exact .inr h4
        · exact .inl ⟨m, hm, by rw [updF_ne e]; exact hi⟩
      · rcases (hs i).2 (.inr hi) with h4 | h4
        · exact .inl ⟨n, hn, by rw [updF_self]; exact h4⟩
        · exact .inr h4
    · rintro (⟨m, hm, hi⟩ | hi)
      · by_cases e : m = n
        · subst e
          rw [updF_self] at hi
          rcases (hs i).1 (.inl hi) with h4 | h4
          · exact .inl ⟨m, hm, h4⟩
          · exact .inr h4
        · rw [updF_ne e] at hi; exact .inl ⟨m, hm, hi⟩
      · rcases (hs i).1 (.inr hi) with h4 | h4
        · exact .inl ⟨n, hn, h4⟩
        · exact .inr h4
  · have hbit : bitN G' i = bitN G i := by
      unfold bitN
      rw [hb i (by unfold firstB; omega)]
    rw [hbit]
    exact h.out i h1 h2

theorem Core.free_not (h : Core len G X B Ls E) {q : Nat} (h1 : firstB len ≤ q) (h2 : q < len) (hq : bitN G q = false) : q ∉ E ∧ ∀ m, m < 256 → q ∉ (Ls m).own := by
  have := h.bits q h1 h2
  rw [hq] at this
  exact ⟨(fun he => by have := this.2 (.inr he); cases this), fun m hm he => by have := this.2 (.inl ⟨m, hm, he⟩); cases this⟩
theorem allocG_at {G : Nat → Sec} {n i : Nat} (h : i ≠ 621 + n / 512) (h2 : i ≠ n) : allocG G n i = G i := by
  unfold allocG updS
  rw [if_neg h2, if_neg h]
theorem allocG_self {G : Nat → Sec} (n : Nat) : allocG G n n = zeroSec := by unfold allocG updS; rw [if_pos rfl]
theorem freeG_at {G : Nat → Sec} {n i : Nat} (h : i ≠ 621 + n / 512) : freeG G n i = G i := by unfold freeG updS; rw [if_neg h]
/-- A block is taken. -/
theorem Core.alloc (h : Core len G X B Ls E) {q : Nat} (h1 : firstB len ≤ q) (h2 : q < len) (hq : bitN G q = false) : Core len (allocG G q) X B Ls (q :: E) := by
  obtain ⟨f1, f2⟩ := h.free_not h1 h2 hq
  have hsec : ∀ i, firstB len ≤ i → i < len → i ≠ 621 + q / 512 := fun i h3 h4 => by unfold firstB mapsN at h3; omega
  have hG : ∀ m, m < 256 → ∀ i ∈ (Ls m).own, allocG G q i = G i := fun m hm i hi => by
    have := h.rng m hm i hi
    exact allocG_at (hsec i this.1 this.2) (fun e => f2 m hm (e ▸ hi))
  refine ⟨alloc64 h.g64 q, fun m hm => (h.lay m hm).congr (hG m hm), fun m hm => (h.data m hm).congr (hG m hm), h.rng, h.nodup, h.disj, fun i hi => ?_, List.nodup_cons.2 ⟨f1, h.eN⟩, fun m hm i hi => ?_, fun i h3 h4 => ?_, fun i h3 h4 => by rw [bitN_alloc' h.g64 h1 i h3, if_neg (by omega)]; exact h.out i h3 h4⟩
  · rcases List.mem_cons.1 hi with rfl | hi
    · exact ⟨h1, h2⟩
    · exact h.eR i hi
  · rcases List.mem_cons.1 hi with rfl | hi
    · exact f2 m hm
    · exact h.eD m hm i hi
  · rw [bitN_alloc h.g64 h1 i h4]
    by_cases e : i = q
    · subst e; simp
    · rw [if_neg e, h.bits i h3 h4, List.mem_cons]
      simp [e]
/-- A block that is nobody's is given back. -/
theorem Core.free (h : Core len G X B Ls E) {q : Nat} (hq : q ∈ E) : Core len (freeG G q) X B Ls (E.erase q) := by
  have hr := h.eR q hq
  have hG : ∀ m, m < 256 → ∀ i ∈ (Ls m).own, freeG G q i = G i := fun m hm i hi => by
    have := h.rng m hm i hi
    exact freeG_at (by have := this.1; unfold firstB mapsN at this; omega)
  have hout : ∀ i, i < 512 * mapsN len → (i < firstB len ∨ len ≤ i) → bitN (freeG G q) i = false := fun i h3 h4 => by
    rw [bitN_free h.g64 i]
    by_cases e : i = q
    · rw [if_pos e]
    · rw [if_neg e]; exact h.out i h3 h4
  refine ⟨free64 h.g64 q, fun m hm => (h.lay m hm).congr (hG m hm), fun m hm => (h.data m hm).congr (hG m hm), h.rng, h.nodup, h.disj, fun i hi => h.eR i (List.mem_of_mem_erase hi), h.eN.erase _, fun m hm i hi => h.eD m hm i (List.mem_of_mem_erase hi), fun i h3 h4 => ?_, hout⟩
  rw [bitN_free h.g64 i]
  by_cases e : i = q
  · subst e
    rw [if_pos rfl]
    constructor
    · intro h; cases h
    · rintro (⟨m, hm, hi⟩ | hi)
      · exact absurd hi (h.eD m hm i hq)
      · exact absurd hi (by rw [h.eN.mem_erase_iff]; simp)
  · rw [if_neg e, h.bits i h3 h4, h.eN.mem_erase_iff]
    simp [e]
theorem Core.canTake (h : Core len G X B Ls E) (hlen : firstB len ≤ len) (hb : 0 < blkN len G) : CanTake len G := canTake_of hlen h.out hb
/-- The bytes of a block of one's own change. -/
theorem bits_upd {len i : Nat} {G : Nat → Sec} {b : Sec} (hi : firstB len ≤ i) : ∀ j, 621 + j / 512 < firstB len → updS G i b (621 + j / 512) = G (621 + j / 512) := fun j hj => by
  unfold updS
  rw [if_neg (by omega)]
end

end Go.Proofs.YtggbnelbnbaoiaaGreat

/- Files of blocks, plain: a file gets one block more; no program in sight. -/
namespace Go.Proofs.YtggbnelbnbaoiaaGreat
open Go.RowKit Go.MapKept

theorem getD_snoc (l : List Nat) (q k : Nat) : (l ++ [q]).getD k 0 = if k < l.length then l.getD k 0 else if k = l.length then q else 0 := by
  rw [List.getD_eq_getElem?_getD, List.getElem?_append]
  by_cases h : k < l.length
  · rw [if_pos h, if_pos h, ← List.getD_eq_getElem?_getD]
  · rw [if_neg h, if_neg h]
    by_cases e : k = l.length
    · subst e; simp
    · rw [if_neg e, List.getElem?_eq_none (by simp; omega)]; rfl
theorem getD_lt' {l : List Nat} {q k : Nat} (h : k < l.length) : (l ++ [q]).getD k 0 = l.getD k 0 := by rw [getD_snoc, if_pos h]
theorem getD_last (l : List Nat) (q : Nat) : (l ++ [q]).getD l.length 0 = q := by rw [getD_snoc, if_neg (Nat.lt_irrefl _), if_pos rfl]
theorem zero_getD' (i : Nat) : zeroSec.getD i 0 = 0 := zero_getD i

theorem DataOn.push {G : Nat → Sec} {L L' : LayM} {b : Nat → UInt8} {q : Nat} (h : DataOn G L b) (hz : G q = zeroSec) (hb : L'.blk = L.blk ++ [q]) : DataOn G L' b := by
  refine ⟨fun k hk => ?_, fun j hj => h.tail j (by rw [hb] at hj; simp at hj; omega)⟩
  rw [hb] at hk ⊢
  rw [List.length_append, List.length_singleton] at hk
  by_cases e : k < L.blk.length
  · rw [getD_lt' e]; exact h.at' k e
  · obtain rfl : k = L.blk.length := by omega
    rw [getD_last, hz]
    refine chunk_ext rfl (chunkB_length _ _) fun i hi => ?_
    rw [zero_getD, chunkB_getD _ _ hi, h.tail _ (by omega)]
theorem DataOn.upd {G : Nat → Sec} {L : LayM} {b : Nat → UInt8} {r : Nat} {c : Sec} (h : DataOn G L b) (hr : r ∉ L.blk) : DataOn (updS G r c) L b :=
  ⟨fun k hk => by
    unfold updS
    rw [if_neg (fun e => hr (by rw [← e, List.getD_eq_getElem?_getD, List.getElem?_eq_getElem hk]; exact List.getElem_mem _))]
    exact h.at' k hk, h.tail⟩

section
variable {len q : Nat} {G : Nat → Sec} {X : Nat → NodeM} {B : Nat → Nat → UInt8} {Ls : Nat → LayM} {E : List Nat}

theorem Core.grows (h : Core len G X B Ls E) {n : Nat} (hn : n < 256) {G' : Nat → Sec} {x : NodeM} {L : LayM} {M E' : List Nat}
    (hG : ∀ i, i ∉ (Ls n).own → i ∉ E → G' i = G i) (hb : ∀ i, 621 + i / 512 < firstB len → G' (621 + i / 512) = G (621 + i / 512)) (h64 : ∀ i, (G' i).length = 64)
    (hL : LayOn G' x L) (hD : DataOn G' L (B n)) (hE : E = M ++ E') (hp : L.own.Perm (M ++ (Ls n).own)) :
    Core len G' (updF X n x) B (updF Ls n L) E' := by
  have hN := h.eN
  rw [hE, List.nodup_append] at hN
  have h1 := h.relink hn (E' := E') (b := B n) hG hb h64 hL hD ?_ hN.2.1 ?_ ?_
  · rwa [updF_id] at h1
  · rw [hp.nodup_iff, List.nodup_append]
    refine ⟨hN.1, h.nodup n hn, fun a ha c hc e => ?_⟩
    subst e
    exact h.eD n hn a (by rw [hE]; exact List.mem_append_left _ ha) hc
  · intro i hi ho
    rw [hp.mem_iff, List.mem_append] at ho
    rcases ho with ho | ho
    · exact hN.2.2 i ho i hi rfl
    · exact h.eD n hn i (by rw [hE]; exact List.mem_append_right _ hi) ho
  · intro i
    rw [hp.mem_iff, List.mem_append, hE, List.mem_append]
    constructor
    · rintro ((h1 | h1) | h1)
      · exact .inr (.inl h1)
      · exact .inl h1
      · exact .inr (.inr h1)
    · rintro (h1 | h1 | h1)
      · exact .inl (.inr h1)
      · exact .inl (.inl h1)
      · exact .inr h1

/-- A block that the inode names itself. -/
theorem Core.linkDir (h : Core len G X B Ls [q]) {n : Nat} (hn : n < 256) {k : Nat} (hk : (Ls n).blk.length = k) (hk4 : k < 4) (hz : G q = zeroSec) :
    Core len G (updF X n ((X n).setDir k q)) B (updF Ls n { Ls n with blk := (Ls n).blk ++ [q] }) [] := by
  have hl := h.lay n hn
  refine h.grows hn (M := [q]) (fun _ _ _ => rfl) (fun _ _ => rfl) h.g64 ⟨?_, fun j h1 h2 => ?_, fun h4 => ?_, fun j h1 h2 h3 => ?_, fun _ => ?_, fun h4 => ?_, fun _ => ?_, ?_, fun j hj => ?_, fun j h1 h2 => ?_⟩ ((h.data n hn).push hz rfl) rfl ?_
  · simp; omega
  · simp only [List.length_append, List.length_singleton] at h2
    rw [NodeM.dir_set hk4 h1, getD_snoc, hk]
    by_cases e : j = k
    · subst e; rw [if_pos rfl, if_neg (Nat.lt_irrefl _), if_pos rfl]
    · rw [if_neg e, if_pos (by omega)]; exact hl.dir j h1 (by omega)
  · simp at h4; omega
  · simp at h3; omega
  · have := hl.near0 (by omega)
    unfold NodeM.setDir
    split <;> exact this
  · simp at h4; omega
  · have := hl.wide0 (by omega)
    unfold NodeM.setDir
    split <;> exact this
  · have := hl.inn
    rw [hk] at this
    simp only [List.length_append, List.length_singleton, hk, this]
    unfold nIn; omega
  · have := hl.inn
    rw [hk] at this
    unfold nIn at this
    simp only at hj
    omega
  · simp at h2; omega
  · unfold LayM.own
    simp only [List.length_append, List.length_singleton, hk]
    rw [if_neg (by omega), if_neg (by omega), if_neg (by omega), if_neg (by omega)]
    simp only [List.append_nil, List.singleton_append]
    exact List.perm_append_singleton _ _

/-- A block that the near block names; r is that block (the fifth one brings it with it). -/
theorem Core.linkNear (h : Core len G X B Ls E) {n : Nat} (hn : n < 256) {k r : Nat} (hk : (Ls n).blk.length = k) (h4 : 4 ≤ k) (h36 : k < 36) (hz : G q = zeroSec)
    (hr : if k = 4 then E = [r, q] else E = [q] ∧ r = (X n).near) (hq : q < 65536) :
    Core len (updS G r (lay2 (G r) (2 * (k - 4)) q)) (updF X n { X n with near := r }) B (updF Ls n { Ls n with blk := (Ls n).blk ++ [q], near := r }) [] := by
  have hl := h.lay n hn
  have hqE : q ∈ E := by
    split at hr
    · rw [hr]; simp
    · rw [hr.1]; simp
  have hrE : r ∈ E ∨ r ∈ (Ls n).own := by
    split at hr
    · exact .inl (by rw [hr]; simp)
    · rename_i h5
      exact .inr (by rw [hr.2, hl.near (by omega)]; exact LayM.mem_near (by omega))
  have hrF : firstB len ≤ r := by
    rcases hrE with h1 | h1
    · exact (h.eR r h1).1
    · exact (h.rng n hn r h1).1
  have hrq : r ≠ q := by
    split at hr
    · have := h.eN; rw [hr] at this; simpa using this
    · rename_i h5
      intro e
      exact h.eD n hn q hqE (by rw [← e, hr.2, hl.near (by omega)]; exact LayM.mem_near (by omega))
  have hrb : r ∉ (Ls n).blk := by
    split at hr
    · intro hb
      exact h.eD n hn r (by rw [hr]; simp) (by unfold LayM.own; exact List.mem_append_left _ hb)
    · rename_i h5
      intro hb
      have := h.nodup n hn
      unfold LayM.own at this
      rw [if_pos (by omega), List.nodup_append] at this
      exact this.2.2 r hb r (by rw [hr.2, hl.near (by omega)]; simp) rfl
  have h64r : (G r).length = 64 := h.g64 r
  have e64 : (lay2 (G r) (2 * (k - 4)) q).length = 64 := by rw [lay2_length]; exact h64r
  refine h.grows hn (M := if k = 4 then [r, q] else [q]) (E' := []) (fun i h1 h2 => ?_) (bits_upd hrF) (upd64 h.g64 r e64) ⟨?_, fun j h1 h2 => ?_, fun _ => rfl, fun j h1 h2 h3 => ?_, fun h5 => ?_, fun h5 => ?_, fun h5 => ?_, ?_, fun j hj => ?_, fun j h1 h2 => ?_⟩ ?_ ?_ ?_
  · unfold updS
    rw [if_neg (fun e => ?_)]
    rw [e] at h1 h2
    rcases hrE with h3 | h3
    · exact h2 h3
    · exact h1 h3
  · simp; omega
  · rw [getD_lt' (by omega)]; exact hl.dir j h1 (by omega)
  · simp only [List.length_append, List.length_singleton, hk] at h3
    show two (updS G r _ r) _ = _
    unfold updS
    rw [if_pos rfl, getD_snoc, hk]
    by_cases e : j = k
    · subst e
      rw [if_neg (Nat.lt_irrefl _), if_pos rfl, two_lay2 _ _ _ (by omega) hq]
    · rw [if_pos (by omega), two_lay2_other _ _ _ _ (by omega) (by omega)]
      split at hr
      · omega
      · have := hl.nearN j h1 h2 (by omega)
        rw [hr.2, hl.near (by omega)]; exact this
  · simp only [List.length_append, List.length_singleton] at h5; omega
  · simp only [List.length_append, List.length_singleton] at h5; omega
  · exact hl.wide0 (by omega)
  · have := hl.inn
    rw [hk] at this
    simp only [List.length_append, List.length_singleton, hk, this]
    unfold nIn; omega
  · have := hl.inn
    rw [hk] at this
    unfold nIn at this
    simp only at hj
    omega
  · simp only [List.length_append, List.length_singleton] at h2; omega
  · refine DataOn.push (L := Ls n) ((h.data n hn).upd hrb) ?_ rfl
    unfold updS
    rw [if_neg (Ne.symm hrq)]
    exact hz
  · split at hr
    · rename_i h5; rw [if_pos h5, hr]; rfl
    · rename_i h5; rw [if_neg h5, hr.1]; rfl
  · unfold LayM.own
    simp only [List.length_append, List.length_singleton, hk]
    rw [if_pos (show 4 < k + 1 by omega), if_neg (show ¬ 36 < k + 1 by omega), if_neg (show ¬ 36 < k by omega)]
    split at hr
    · rename_i h5
      rw [if_pos h5, if_neg (by omega)]
      refine List.perm_iff_count.2 fun a => ?_
      simp only [List.count_append, List.count_cons, List.count_nil]
      omega
    · rename_i h5
      rw [if_neg h5, if_pos (by omega), hr.2, hl.near (by omega)]
      refine List.perm_iff_count.2 fun a => ?_
      simp only [List.count_append, List.count_cons, List.count_nil]
      omega

theorem Core.own_ne (h : Core len G X B Ls E) {n : Nat} (hn : n < 256) : (Ls n).blk.Nodup ∧ (36 < (Ls n).blk.length → ((Ls n).wide :: (Ls n).inner).Nodup ∧ (Ls n).near ∉ (Ls n).wide :: (Ls n).inner ∧ ∀ i ∈ (Ls n).blk, i ∉ (Ls n).wide :: (Ls n).inner) := by
  have hN := h.nodup n hn
  unfold LayM.own at hN
  rw [List.nodup_append] at hN
  refine ⟨hN.1, fun h36 => ?_⟩
  rw [if_pos (by omega), if_pos h36] at hN
  have h2 := hN.2.1
  rw [List.nodup_append] at h2
  exact ⟨h2.2.1, fun hc => h2.2.2 _ (by simp) _ hc rfl, fun i hi hc => hN.2.2 i hi i (List.mem_append_right _ hc) rfl⟩
theorem getD_inj {l : List Nat} (h : l.Nodup) {i j : Nat} (hi : i < l.length) (hj : j < l.length) (e : l.getD i 0 = l.getD j 0) : i = j := by
  rw [List.getD_eq_getElem?_getD, List.getD_eq_getElem?_getD, List.getElem?_eq_getElem hi, List.getElem?_eq_getElem hj] at e
  exact (List.getElem_inj h).1 e
theorem getD_mem' {l : List Nat} {i : Nat} (hi : i < l.length) : l.getD i 0 ∈ l := by
  rw [List.getD_eq_getElem?_getD, List.getElem?_eq_getElem hi]; exact List.getElem_mem _

/-- A block that an inner block names. -/
theorem Core.linkInner (h : Core len G X B Ls [q]) {n : Nat} (hn : n < 256) {k : Nat} (hk : (Ls n).blk.length = k) (h36 : 36 ≤ k) (h256 : k < 256) (hm : (k - 36) % 32 ≠ 0) (hz : G q = zeroSec) (hq : q < 65536)
    {r : Nat} (hr : r = (Ls n).inner.getD ((k - 36) / 32) 0) :
    Core len (updS G r (lay2 (G r) (2 * ((k - 36) % 32)) q)) X B (updF Ls n { Ls n with blk := (Ls n).blk ++ [q] }) [] := by
  have hl := h.lay n hn
  obtain ⟨hb, ho⟩ := h.own_ne hn
  obtain ⟨hwi, hnw, hbw⟩ := ho (by omega)
  have hin : (Ls n).inner.length = nIn k := by rw [← hk]; exact hl.inn
  have hil : (k - 36) / 32 < (Ls n).inner.length := by rw [hin]; unfold nIn; omega
  have hri : r ∈ (Ls n).inner := by rw [hr]; exact getD_mem' hil
  have hro : r ∈ (Ls n).own := by rw [hr]; exact LayM.mem_inner (by omega) hil
  have hrF := (h.rng n hn r hro).1
  have hrq : r ≠ q := fun e => h.eD n hn q (by simp) (by rw [← e]; exact hro)
  have hrb : r ∉ (Ls n).blk := fun hc => hbw r hc (List.mem_cons_of_mem _ hri)
  have hrn : (Ls n).near ≠ r := fun e => hnw (by rw [e]; exact List.mem_cons_of_mem _ hri)
  have hrw : (Ls n).wide ≠ r := fun e => (List.nodup_cons.1 hwi).1 (by rw [e]; exact hri)
  have h64r : (G r).length = 64 := h.g64 r
  have e64 : (lay2 (G r) (2 * ((k - 36) % 32)) q).length = 64 := by rw [lay2_length]; exact h64r
  have hup : ∀ i, i ≠ r → updS G r (lay2 (G r) (2 * ((k - 36) % 32)) q) i = G i := fun i hi => by unfold updS; rw [if_neg hi]
  have hus : updS G r (lay2 (G r) (2 * ((k - 36) % 32)) q) r = lay2 (G r) (2 * ((k - 36) % 32)) q := by unfold updS; rw [if_pos rfl]
  have hg := h.grows hn (M := [q]) (E' := []) (x := X n) (L := { Ls n with blk := (Ls n).blk ++ [q] }) (fun i h1 _ => hup i (fun e => h1 (e ▸ hro))) (bits_upd hrF) (upd64 h.g64 r e64)
    ⟨?_, fun j h1 h2 => ?_, fun _ => hl.near (by omega), fun j h1 h2 h3 => ?_, fun h5 => ?_, fun _ => hl.wide (by omega), fun h5 => ?_, ?_, fun j hj => ?_, fun j h1 h2 => ?_⟩ ?_ rfl ?_
  · rwa [updF_id] at hg
  · simp; omega
  · rw [getD_lt' (by omega)]; exact hl.dir j h1 (by omega)
  · show two (updS G r _ (Ls n).near) _ = _
    rw [hup _ hrn, getD_lt' (by omega)]; exact hl.nearN j h1 h2 (by omega)
  · simp only [List.length_append, List.length_singleton] at h5; omega
  · simp only [List.length_append, List.length_singleton] at h5; omega
  · simp only [List.length_append, List.length_singleton, hk, hin]
    unfold nIn; omega
  · show two (updS G r _ (Ls n).wide) _ = _
    rw [hup _ hrw]; exact hl.wideN j hj
  · simp only [List.length_append, List.length_singleton, hk] at h2
    show two (updS G r _ ((Ls n).inner.getD ((j - 36) / 32) 0)) _ = _
    have hjl : (j - 36) / 32 < (Ls n).inner.length := by rw [hin]; unfold nIn; omega
    by_cases e : (j - 36) / 32 = (k - 36) / 32
    · rw [e, ← hr, hus]
      by_cases e2 : j = k
      · subst e2
        rw [two_lay2 _ _ _ (by omega) hq, getD_snoc, hk, if_neg (Nat.lt_irrefl _), if_pos rfl]
      · rw [two_lay2_other _ _ _ _ (by omega) (by omega), getD_lt' (by omega)]
        have := hl.innN j h1 (by omega)
        rw [e, ← hr] at this
        exact this
    · rw [hup _ (fun e2 => e (getD_inj (List.nodup_cons.1 hwi).2 hjl hil (by rw [e2]; exact hr))), getD_lt' (by omega)]
      exact hl.innN j h1 (by omega)
  · refine DataOn.push (L := Ls n) ((h.data n hn).upd hrb) ?_ rfl
    rw [hup _ (Ne.symm hrq)]; exact hz
  · unfold LayM.own
    simp only [List.length_append, List.length_singleton, hk]
    rw [if_pos (show 4 < k + 1 by omega), if_pos (show 36 < k + 1 by omega), if_pos (show 4 < k by omega), if_pos (show 36 < k by omega)]
    refine List.perm_iff_count.2 fun a => ?_
    simp only [List.count_append, List.count_cons, List.count_nil]
    omega

/-- A block that a new inner block names; v is the wide block (the first inner one brings it with it). -/
theorem Core.linkWide (h : Core len G X B Ls E) {n : Nat} (hn : n < 256) {k r v : Nat} (hk : (Ls n).blk.length = k) (h36 : 36 ≤ k) (h256 : k < 256) (hm : (k - 36) % 32 = 0) (hz : G q = zeroSec) (hrq2 : two (G r) 0 = q)
    (hv : if k = 36 then E = [v, r, q] else E = [r, q] ∧ v = (X n).wide) (hr6 : r < 65536) :
    Core len (updS G v (lay2 (G v) (2 * ((k - 36) / 32)) r)) (updF X n { X n with wide := v }) B (updF Ls n { Ls n with blk := (Ls n).blk ++ [q], wide := v, inner := (Ls n).inner ++ [r] }) [] := by
  have hl := h.lay n hn
  obtain ⟨hb, ho⟩ := h.own_ne hn
  have hin : (Ls n).inner.length = nIn k := by rw [← hk]; exact hl.inn
  have hink : nIn k = (k - 36) / 32 := by unfold nIn; omega
  have hqE : q ∈ E := by
    split at hv
    · rw [hv]; simp
    · rw [hv.1]; simp
  have hrE : r ∈ E := by
    split at hv
    · rw [hv]; simp
    · rw [hv.1]; simp
  have hvE : v ∈ E ∨ v ∈ (Ls n).own := by
    split at hv
    · exact .inl (by rw [hv]; simp)
    · rename_i h5
      exact .inr (by rw [hv.2, hl.wide (by omega)]; exact LayM.mem_wide (by omega))
  have hvF : firstB len ≤ v := by
    rcases hvE with h1 | h1
    · exact (h.eR v h1).1
    · exact (h.rng n hn v h1).1
  have hne : v ≠ r ∧ v ≠ q ∧ r ≠ q := by
    have hN := h.eN
    split at hv
    · rw [hv] at hN; simp at hN; exact ⟨hN.1.1, hN.1.2, hN.2⟩
    · rename_i h5
      rw [hv.1] at hN
      have hvo : v ∈ (Ls n).own := by rw [hv.2, hl.wide (by omega)]; exact LayM.mem_wide (by omega)
      exact ⟨fun e => h.eD n hn r hrE (by rw [← e]; exact hvo), fun e => h.eD n hn q hqE (by rw [← e]; exact hvo), by simpa using hN⟩
  obtain ⟨hvr, hvq, hrq⟩ := hne
  have hown : ∀ i ∈ (Ls n).own, (i = (Ls n).wide → k = 36) → i ≠ v := fun i hi hw e => by
    split at hv
    · exact h.eD n hn i (by rw [hv, e]; simp) hi
    · rename_i h5
      exact h5 (hw (by rw [e, hv.2, hl.wide (by omega)]))
  have hvb : v ∉ (Ls n).blk := fun hc => by
    refine hown v (by unfold LayM.own; exact List.mem_append_left _ hc) (fun e => ?_) rfl
    by_cases h5 : k = 36
    · exact h5
    · exact absurd (List.mem_cons_self) (e ▸ (ho (by omega)).2.2 v hc)
  have hvn : (Ls n).near ≠ v := by
    refine hown _ (LayM.mem_near (by omega)) (fun e => ?_)
    by_cases h5 : k = 36
    · exact h5
    · exact absurd (by rw [e]; exact List.mem_cons_self) (ho (by omega)).2.1
  have hvi : ∀ j, j < (Ls n).inner.length → (Ls n).inner.getD j 0 ≠ v := fun j hj => by
    have h37 := hl.innPos hj
    refine hown _ (LayM.mem_inner h37 hj) (fun e => ?_)
    exact absurd (by rw [← e]; exact getD_mem' hj) (List.nodup_cons.1 (ho h37).1).1
  have h64v : (G v).length = 64 := h.g64 v
  have e64 : (lay2 (G v) (2 * ((k - 36) / 32)) r).length = 64 := by rw [lay2_length]; exact h64v
  have hup : ∀ i, i ≠ v → updS G v (lay2 (G v) (2 * ((k - 36) / 32)) r) i = G i := fun i hi => by unfold updS; rw [if_neg hi]
  have hus : updS G v (lay2 (G v) (2 * ((k - 36) / 32)) r) v = lay2 (G v) (2 * ((k - 36) / 32)) r := by unfold updS; rw [if_pos rfl]
  refine h.grows hn (M := if k = 36 then [v, r, q] else [r, q]) (E' := []) (fun i h1 h2 => hup i (fun e => ?_)) (bits_upd hvF) (upd64 h.g64 v e64)
    ⟨?_, fun j h1 h2 => ?_, fun _ => hl.near (by omega), fun j h1 h2 h3 => ?_, fun h5 => ?_, fun _ => rfl, fun h5 => ?_, ?_, fun j hj => ?_, fun j h1 h2 => ?_⟩ ?_ ?_ ?_
  · rw [e] at h1 h2
    rcases hvE with h3 | h3
    · exact h2 h3
    · exact h1 h3
  · simp; omega
  · rw [getD_lt' (by omega)]; exact hl.dir j h1 (by omega)
  · show two (updS G v _ (Ls n).near) _ = _
    rw [hup _ hvn, getD_lt' (by omega)]; exact hl.nearN j h1 h2 (by omega)
  · simp only [List.length_append, List.length_singleton] at h5; omega
  · simp only [List.length_append, List.length_singleton] at h5; omega
  · simp only [List.length_append, List.length_singleton, hk, hin]
    unfold nIn; omega
  · simp only [List.length_append, List.length_singleton] at hj
    show two (updS G v _ v) _ = _
    rw [hus, getD_snoc]
    by_cases e : j < (Ls n).inner.length
    · rw [if_pos e, two_lay2_other _ _ _ _ (by omega) (by omega)]
      have h37 := hl.innPos e
      split at hv
      · omega
      · have := hl.wideN j e
        rw [hv.2, hl.wide h37]; exact this
    · obtain rfl : j = (Ls n).inner.length := by omega
      rw [if_neg e, if_pos rfl, hin, hink, two_lay2 _ _ _ (by omega) hr6]
  · simp only [List.length_append, List.length_singleton, hk] at h2
    show two (updS G v _ (((Ls n).inner ++ [r]).getD ((j - 36) / 32) 0)) _ = _
    rw [getD_snoc]
    by_cases e : j = k
    · subst e
      rw [if_neg (by omega), if_pos (by omega), hup _ (Ne.symm hvr), hm, getD_snoc, hk, if_neg (Nat.lt_irrefl _), if_pos rfl]
      exact hrq2
    · have hjl : (j - 36) / 32 < (Ls n).inner.length := by omega
      rw [if_pos hjl, hup _ (hvi _ hjl), getD_lt' (by omega)]
      exact hl.innN j h1 (by omega)
  · refine DataOn.push (L := Ls n) ((h.data n hn).upd hvb) ?_ rfl
    rw [hup _ (Ne.symm hvq)]; exact hz
  · split at hv
    · rename_i h5; rw [if_pos h5, hv]; rfl
    · rename_i h5; rw [if_neg h5, hv.1]; rfl
  · unfold LayM.own
    simp only [List.length_append, List.length_singleton, hk]
    rw [if_pos (show 4 < k + 1 by omega), if_pos (show 36 < k + 1 by omega), if_pos (show 4 < k by omega)]
    split at hv
    · rename_i h5
      have hi0 : (Ls n).inner = [] := List.length_eq_zero_iff.1 (by rw [hin]; unfold nIn; omega)
      rw [if_pos h5, if_neg (by omega), hi0]
      refine List.perm_iff_count.2 fun a => ?_
      simp only [List.count_append, List.count_cons, List.count_nil]
      omega
    · rename_i h5
      rw [if_neg h5, if_pos (by omega), hv.2, hl.wide (by omega)]
      refine List.perm_iff_count.2 fun a => ?_
      simp only [List.count_append, List.count_cons, List.count_nil]
      omega
end

end Go.Proofs.YtggbnelbnbaoiaaGreat

/- Files of blocks, plain: a file loses its last block; bytes of a file change; no program in sight. -/
namespace Go.Proofs.YtggbnelbnbaoiaaGreat
open Go.RowKit Go.MapKept

def cutB (b : Nat → UInt8) (n : Nat) : Nat → UInt8 := fun j => if j < n then b j else 0
def shrinkX (x : NodeM) (k : Nat) : NodeM := if k = 4 then { x with near := 0 } else if k = 36 then { x with wide := 0 } else x
def shrinkL (L : LayM) (k : Nat) : LayM := { L with blk := L.blk.take k, inner := L.inner.take (nIn k) }
def goneL (L : LayM) (k : Nat) : List Nat :=
  L.blk.getD k 0 :: ((if k = 4 then [L.near] else []) ++ (if 36 ≤ k ∧ (k - 36) % 32 = 0 then L.inner.getD ((k - 36) / 32) 0 :: (if k = 36 then [L.wide] else []) else []))
theorem shrinkX_dir (x : NodeM) (k j : Nat) : (shrinkX x k).dir j = x.dir j := by
  unfold shrinkX
  split
  · match j with
    | 0 | 1 | 2 | _ + 3 => rfl
  · split
    · match j with
      | 0 | 1 | 2 | _ + 3 => rfl
    · rfl
theorem shrinkX_wide (x : NodeM) {k : Nat} (h : k ≠ 36) : (shrinkX x k).wide = x.wide := by
  unfold shrinkX
  split
  · rfl
  · first | rfl | rw [if_neg h]
theorem getD_take' {l : List Nat} {n k : Nat} (h : k < n) : (l.take n).getD k 0 = l.getD k 0 := by
  rw [List.getD_eq_getElem?_getD, List.getElem?_take, if_pos h, ← List.getD_eq_getElem?_getD]
theorem take_last {l : List Nat} {k : Nat} (h : l.length = k + 1) : l = l.take k ++ [l.getD k 0] := by
  rw [List.getD_eq_getElem?_getD, List.getElem?_eq_getElem (by omega), Option.getD_some]
  have := List.take_append_drop k l
  rw [List.drop_eq_getElem_cons (by omega), List.drop_of_length_le (by omega)] at this
  exact this.symm

section
variable {len : Nat} {G : Nat → Sec} {X : Nat → NodeM} {B : Nat → Nat → UInt8} {Ls : Nat → LayM} {E : List Nat}

theorem Core.shrinks (h : Core len G X B Ls []) {n : Nat} (hn : n < 256) {k : Nat} (hk : (Ls n).blk.length = k + 1) :
    Core len G (updF X n (shrinkX (X n) k)) (updF B n (cutB (B n) (64 * k))) (updF Ls n (shrinkL (Ls n) k)) (goneL (Ls n) k) := by
  have hl := h.lay n hn
  have hd := h.data n hn
  have hin := hl.inn
  have hmax := hl.max
  rw [hk] at hin hmax
  have hbl : ((Ls n).blk.take k).length = k := by simp [hk]
  have hil : ((Ls n).inner.take (nIn k)).length = nIn k := by rw [List.length_take, hin]; unfold nIn; omega
  have hperm : ((shrinkL (Ls n) k).own ++ goneL (Ls n) k).Perm (Ls n).own := by
    have e1 := take_last hk
    refine List.perm_iff_count.2 fun a => ?_
    have c1 : (Ls n).blk.count a = ((Ls n).blk.take k).count a + [(Ls n).blk.getD k 0].count a := by
      rw [← List.count_append, ← e1]
    unfold LayM.own shrinkL goneL
    simp only [hbl, hk]
    have i5 : (if 36 < k + 1 then (Ls n).wide :: (Ls n).inner else []) = if 36 ≤ k then (Ls n).wide :: (Ls n).inner else [] := by
      by_cases h : 36 ≤ k
      · rw [if_pos h, if_pos (by omega)]
      · rw [if_neg h, if_neg (by omega)]
    rw [i5]
    by_cases h36 : 36 ≤ k
    · rw [if_pos (c := 4 < k) (by omega), if_pos (c := 4 < k + 1) (by omega), if_pos (c := 36 ≤ k) h36, if_neg (c := k = 4) (by omega)]
      by_cases hm : (k - 36) % 32 = 0
      · have e2 : (Ls n).inner.length = (k - 36) / 32 + 1 := by rw [hin]; unfold nIn; omega
        have e3 : nIn k = (k - 36) / 32 := by unfold nIn; omega
        have c2 : (Ls n).inner.count a = ((Ls n).inner.take ((k - 36) / 32)).count a + [(Ls n).inner.getD ((k - 36) / 32) 0].count a := by
          rw [← List.count_append, ← take_last e2]
        rw [if_pos (c := 36 ≤ k ∧ (k - 36) % 32 = 0) ⟨h36, hm⟩, e3]
        by_cases h5 : k = 36
        · have hi0 : (Ls n).inner.take ((k - 36) / 32) = [] := by rw [h5]; rfl
          rw [if_neg (c := 36 < k) (by omega), if_pos (c := k = 36) h5]
          rw [hi0] at c2
          simp only [List.count_append, List.count_cons, List.count_nil] at c1 c2 ⊢
          omega
        · rw [if_neg (c := k = 36) h5, if_pos (c := 36 < k) (by omega)]
          simp only [List.count_append, List.count_cons, List.count_nil] at c1 c2 ⊢
          omega
      · have e3 : (Ls n).inner.take (nIn k) = (Ls n).inner := List.take_of_length_le (by rw [hin]; unfold nIn; omega)
        rw [if_neg (c := 36 ≤ k ∧ (k - 36) % 32 = 0) (fun hc => hm hc.2), if_pos (c := 36 < k) (by omega), e3]
        simp only [List.count_append, List.count_cons, List.count_nil] at c1 ⊢
        omega
    · rw [if_neg (c := 36 ≤ k ∧ (k - 36) % 32 = 0) (fun hc => h36 hc.1), if_neg (c := 36 < k) (by omega), if_neg (c := 36 ≤ k) h36]
      by_cases h5 : k = 4
      · rw [if_pos (c := k = 4) h5, if_neg (c := 4 < k) (by omega), if_pos (c := 4 < k + 1) (by omega)]
        simp only [List.count_append, List.count_cons, List.count_nil] at c1 ⊢
        omega
      · rw [if_neg (c := k = 4) h5]
        by_cases h6 : 4 < k
        · rw [if_pos (c := 4 < k) h6, if_pos (c := 4 < k + 1) (by omega)]
          simp only [List.count_append, List.count_cons, List.count_nil] at c1 ⊢
          omega
        · rw [if_neg (c := 4 < k) h6, if_neg (c := 4 < k + 1) (by omega)]
          simp only [List.count_append, List.count_cons, List.count_nil] at c1 ⊢
          omega
  have hN := hperm.nodup_iff.2 (h.nodup n hn)
  rw [List.nodup_append] at hN
  refine h.relink hn (fun _ _ _ => rfl) (fun _ _ => rfl) h.g64 ⟨?_, fun j h1 h2 => ?_, fun h5 => ?_, fun j h1 h2 h3 => ?_, fun h5 => ?_, fun h5 => ?_, fun h5 => ?_, ?_, fun j hj => ?_, fun j h1 h2 => ?_⟩ ⟨fun j hj => ?_, fun j hj => ?_⟩ hN.1 hN.2.1 (fun i hi ho => hN.2.2 i ho i hi rfl) (fun i => ?_)
  · show ((Ls n).blk.take k).length ≤ 256
    omega
  · rw [show (shrinkL (Ls n) k).blk = (Ls n).blk.take k from rfl, hbl] at h2
    rw [show (shrinkL (Ls n) k).blk = (Ls n).blk.take k from rfl, getD_take' h2]
    have e : (shrinkX (X n) k).dir j = (X n).dir j := shrinkX_dir _ _ _
    rw [e]
    exact hl.dir j h1 (by omega)
  · rw [show (shrinkL (Ls n) k).blk = (Ls n).blk.take k from rfl, hbl] at h5
    have e : (shrinkX (X n) k).near = (X n).near := by unfold shrinkX; rw [if_neg (by omega)]; split <;> rfl
    rw [e]
    exact hl.near (by omega)
  · rw [show (shrinkL (Ls n) k).blk = (Ls n).blk.take k from rfl, hbl] at h3
    rw [show (shrinkL (Ls n) k).blk = (Ls n).blk.take k from rfl, getD_take' h3]
    exact hl.nearN j h1 h2 (by omega)
  · rw [show (shrinkL (Ls n) k).blk = (Ls n).blk.take k from rfl, hbl] at h5
    unfold shrinkX
    by_cases e : k = 4
    · rw [if_pos e]
    · rw [if_neg e, if_neg (by omega)]; exact hl.near0 (by omega)
  · rw [show (shrinkL (Ls n) k).blk = (Ls n).blk.take k from rfl, hbl] at h5
    have e : (shrinkX (X n) k).wide = (X n).wide := shrinkX_wide _ (by omega)
    rw [e]
    exact hl.wide (by omega)
  · rw [show (shrinkL (Ls n) k).blk = (Ls n).blk.take k from rfl, hbl] at h5
    unfold shrinkX
    by_cases e : k = 36
    · rw [if_neg (by omega), if_pos e]
    · have := hl.wide0 (by omega)
      split
      · exact this
      · first | exact this | (rw [if_neg e]; exact this)
  · show ((Ls n).inner.take (nIn k)).length = nIn ((Ls n).blk.take k).length
    rw [hil, hbl]
  · have hj' : j < nIn k := by rw [← hil]; exact hj
    show two (G (Ls n).wide) (2 * j) = ((Ls n).inner.take (nIn k)).getD j 0
    rw [getD_take' hj']
    refine hl.wideN j ?_
    rw [hin]; unfold nIn at hj' ⊢; omega
  · rw [show (shrinkL (Ls n) k).blk = (Ls n).blk.take k from rfl, hbl] at h2
    show two (G (((Ls n).inner.take (nIn k)).getD ((j - 36) / 32) 0)) _ = ((Ls n).blk.take k).getD j 0
    rw [getD_take' h2, getD_take' (by unfold nIn; omega)]
    exact hl.innN j h1 (by omega)
  · rw [show (shrinkL (Ls n) k).blk = (Ls n).blk.take k from rfl, hbl] at hj
    rw [show (shrinkL (Ls n) k).blk = (Ls n).blk.take k from rfl, getD_take' hj, hd.at' j (by omega)]
    refine chunk_ext (chunkB_length _ _) (chunkB_length _ _) fun i hi => ?_
    rw [chunkB_getD _ _ hi, chunkB_getD _ _ hi]
    unfold cutB
    rw [if_pos (by omega)]
  · rw [show (shrinkL (Ls n) k).blk = (Ls n).blk.take k from rfl, hbl] at hj
    unfold cutB
    rw [if_neg (by omega)]
  · rw [← List.mem_append, hperm.mem_iff]; simp

/-- The bytes of a file's k-th block are written. -/
theorem Core.writes (h : Core len G X B Ls []) {n : Nat} (hn : n < 256) {k : Nat} (hk : k < (Ls n).blk.length) {b : Nat → UInt8} (hsame : ∀ j, j / 64 ≠ k → b j = B n j) :
    Core len (updS G ((Ls n).blk.getD k 0) (chunkB b k)) X (updF B n b) Ls [] := by
  have hl := h.lay n hn
  have hd := h.data n hn
  obtain ⟨hb, ho⟩ := h.own_ne hn
  have hN := h.nodup n hn
  obtain ⟨q, hq⟩ : ∃ q, (Ls n).blk.getD k 0 = q := ⟨_, rfl⟩
  have hqb : q ∈ (Ls n).blk := by rw [← hq]; exact getD_mem' hk
  have hqo : q ∈ (Ls n).own := by unfold LayM.own; exact List.mem_append_left _ hqb
  rw [hq]
  have hup : ∀ i, i ≠ q → updS G q (chunkB b k) i = G i := fun i hi => by unfold updS; rw [if_neg hi]
  unfold LayM.own at hN
  rw [List.nodup_append] at hN
  have hx : ∀ i, i ∈ ((if 4 < (Ls n).blk.length then [(Ls n).near] else []) ++ (if 36 < (Ls n).blk.length then (Ls n).wide :: (Ls n).inner else [])) → i ≠ q := fun i hi e => hN.2.2 q hqb i hi e.symm
  have hr := h.relink hn (G' := updS G q (chunkB b k)) (x := X n) (b := b) (L := Ls n) (E' := []) (fun i h1 _ => hup i (fun e => h1 (e ▸ hqo))) (bits_upd (h.rng n hn q hqo).1) (upd64 h.g64 q (chunkB_length b k))
    ⟨hl.max, hl.dir, hl.near, fun j h1 h2 h3 => ?_, hl.near0, hl.wide, hl.wide0, hl.inn, fun j hj => ?_, fun j h1 h2 => ?_⟩ ⟨fun j hj => ?_, fun j hj => ?_⟩ (h.nodup n hn) (by simp) (by simp) (fun i => by simp)
  · rwa [updF_id, updF_id] at hr
  · rw [hup _ (hx _ (by rw [if_pos (by omega)]; simp))]; exact hl.nearN j h1 h2 h3
  · rw [hup _ (hx _ (by rw [if_pos (hl.innPos hj)]; simp))]; exact hl.wideN j hj
  · rw [hup _ (hx _ (by rw [if_pos (show 36 < (Ls n).blk.length by omega)]; exact List.mem_append_right _ (List.mem_cons_of_mem _ (getD_mem' (hl.innLt h1 h2)))))]; exact hl.innN j h1 h2
  · by_cases e : j = k
    · subst e
      rw [hq]; unfold updS; rw [if_pos rfl]
    · rw [hup _ (fun e2 => e (getD_inj hb hj hk (by rw [e2, hq]))), hd.at' j hj]
      refine chunk_ext (chunkB_length _ _) (chunkB_length _ _) fun i hi => ?_
      rw [chunkB_getD _ _ hi, chunkB_getD _ _ hi, hsame _ (by omega)]
  · rw [hsame j (by omega)]; exact hd.tail j hj
end

end Go.Proofs.YtggbnelbnbaoiaaGreat

/- Walks of the files' functions, part 1: two, lay, closed, named; no condition. -/
namespace Go.Proofs.YtggbnelbnbaoiaaGreat
open Go.RowKit Go.MapKept

abbrev filesObj (f s : Nat) : Assn := Assn.obj f (.cells #[.pointer (some ⟨s, 0, none⟩)] 89 (0, 0))
theorem files_cell {w : World} {f s : Nat} {R : Assn} (h : Bears w (filesObj f s * R)) : w.cell? ⟨f, 0, none⟩ = some (.pointer (some ⟨s, 0, none⟩)) := cell_of_obj h.obj 0

theorem or_nat64 (a b : Nat) (ha : a < 4611686018427387904) (hb : b < 4611686018427387904) : bits BinOp.or IntKind.i64 (a : Int) (b : Int) = ((a ||| b : Nat) : Int) := by
  have hx : a ||| b < 2 ^ 62 := Nat.or_lt_two_pow (by omega) (by omega)
  have h1 : (BitVec.ofInt 64 (a : Int)).toNat = a := by
    rw [BitVec.ofInt_natCast, BitVec.toNat_ofNat]; exact Nat.mod_eq_of_lt (by omega)
  have h2 : (BitVec.ofInt 64 (b : Int)).toNat = b := by
    rw [BitVec.ofInt_natCast, BitVec.toNat_ofNat]; exact Nat.mod_eq_of_lt (by omega)
  show IntKind.i64.wrap ((BitVec.ofInt 64 (a : Int) ||| BitVec.ofInt 64 (b : Int)).toNat : Int) = _
  rw [BitVec.toNat_or, h1, h2]
  exact IntWalk.i64_in _ (by omega)
theorem or_i64 (a b : Nat) (ha : a < 65536) (hb : b < 65536) : bits BinOp.or IntKind.i64 ((a : Int) * 65536) (b : Int) = (a : Int) * 65536 + (b : Int) := by
  have h := or_nat64 (65536 * a) b (by omega) (by omega)
  rw [← Nat.two_pow_add_eq_or_of_lt (i := 16) (by omega) a] at h
  rw [show (a : Int) * 65536 = ((65536 * a : Nat) : Int) by omega, h]
  omega
theorem or_two (a b : Nat) (ha : a < 256) (hb : b < 256) : bits BinOp.or IntKind.i64 ((a : Int) * 256) (b : Int) = (a : Int) * 256 + (b : Int) := by
  have h := or_nat64 (256 * a) b (by omega) (by omega)
  rw [← Nat.two_pow_add_eq_or_of_lt (i := 8) (by omega) a] at h
  rw [show (a : Int) * 256 = ((256 * a : Nat) : Int) by omega, h]
  omega

set_option maxRecDepth 100000 in
set_option maxHeartbeats 400000 in
theorem two_any {R : Assn} {w : World} (h : Bears w R) {l : List UInt8} {ad : Option Addr} {n cap : Nat} (hl : R.Tells (fun w => BytesIn w (.slice ad n cap) l)) (i : Nat) (hi : i + 1 < l.length) (hb : l.length < 1000000) :
    Calls Tryz.prog 109 #[.slice ad n cap, .int .i64 i] w fun e w' => e = .returned (.int .i64 (two l i)) ∧ Bears w' R := by
  obtain rfl : n = l.length := (hl _ h).len
  obtain ⟨b, o, rfl, c0⟩ := (hl _ h).cell (j := i) (by omega)
  obtain ⟨b', o', e, c1⟩ := (hl _ h).cell (j := i + 1) hi
  cases e
  have hx := (l.getD i 0).toNat_lt
  have hy := (l.getD (i + 1) 0).toNat_lt
  have hor := or_two _ _ hx hy
  unfold two
  unfold byteV at c0 c1
  generalize (l.getD i 0).toNat = x at c0 hor hx ⊢
  generalize (l.getD (i + 1) 0).toNat = y at c1 hor hy ⊢
  have w1 : IntKind.i64.wrap ((x : Int) * 256) = (x : Int) * 256 := IntWalk.i64_in _ (by omega)
  have wx : IntKind.i64.wrap (x : Int) = (x : Int) := IntWalk.i64_in _ (by omega)
  have wy : IntKind.i64.wrap (y : Int) = (y : Int) := IntWalk.i64_in _ (by omega)
  have w2 : IntKind.i64.wrap ((i : Int) + 1) = (i : Int) + 1 := IntWalk.i64_in _ (by omega)
  have i1 : (i : Int) < (l.length : Int) := by omega
  have i2 : (i : Int) + 1 < (l.length : Int) := by omega
  have i3 : (0 : Int) ≤ (i : Int) + 1 := by omega
  have e2 : ((i : Int) + 1).toNat = i + 1 := by omega
  have hfin : ((x * 256 + y : Nat) : Int) = (x : Int) * 256 + (y : Int) := by omega
  rw [hfin]
  clear hfin
  go_enter Tryz.func109, Tryz.ntmps109
  go_wp2_with fail
  refine wp_region_L (fun w' => w'.cell? ⟨b, o + i, none⟩ = some (.int .u8 x) ∧ w'.cell? ⟨b, o + (i + 1), none⟩ = some (.int .u8 y)) 13
    [(true, 0), (true, 1), (true, 2), (true, 3), (true, 4), (true, 5), (true, 6), (true, 7), (true, 8), (true, 9), (true, 10), (true, 11), (true, 12)] [(true, 13)] (by kernel_rfl) (by kernel_rfl) ⟨c0, c1⟩ ?_
  simp only [pick, List.getElem?_cons_zero, List.getElem?_cons_succ]
  refine wpL_yield (v := ?_) rfl (fun w' hS => ?_) ?_
  rotate_left
  · (obtain ⟨c0, c1⟩ := hS; go_simp; try with_reducible rfl)
  simp only [Act.put, List.setIfInBounds_toArray, List.set_cons_zero, List.set_cons_succ]
  refine wpL_yield (v := ?_) rfl (fun w' hS => ?_) ?_
  rotate_left
  · (obtain ⟨c0, c1⟩ := hS; go_simp; try with_reducible rfl)
  simp only [Act.put, List.setIfInBounds_toArray, List.set_cons_zero, List.set_cons_succ]
  refine wpL_yield (v := ?_) rfl (fun w' hS => ?_) ?_
  rotate_left
  · (obtain ⟨c0, c1⟩ := hS; go_simp; try with_reducible rfl)
  simp only [Act.put, List.setIfInBounds_toArray, List.set_cons_zero, List.set_cons_succ]
  refine wpL_yield (v := ?_) rfl (fun w' hS => ?_) ?_
  rotate_left
  · (obtain ⟨c0, c1⟩ := hS; go_simp; try with_reducible rfl)
  simp only [Act.put, List.setIfInBounds_toArray, List.set_cons_zero, List.set_cons_succ]
  refine wpL_yield (v := ?_) rfl (fun w' hS => ?_) ?_
  rotate_left
  · (obtain ⟨c0, c1⟩ := hS; go_simp; try with_reducible rfl)
  simp only [Act.put, List.setIfInBounds_toArray, List.set_cons_zero, List.set_cons_succ]
  refine wpL_yield (v := ?_) rfl (fun w' hS => ?_) ?_
  rotate_left
  · (obtain ⟨c0, c1⟩ := hS; go_simp; try with_reducible rfl)
  simp only [Act.put, List.setIfInBounds_toArray, List.set_cons_zero, List.set_cons_succ]
  refine wpL_yield (v := ?_) rfl (fun w' hS => ?_) ?_
  rotate_left
  · (obtain ⟨c0, c1⟩ := hS; go_simp; try with_reducible rfl)
  simp only [Act.put, List.setIfInBounds_toArray, List.set_cons_zero, List.set_cons_succ]
  refine wpL_yield (v := ?_) rfl (fun w' hS => ?_) ?_
  rotate_left
  · (obtain ⟨c0, c1⟩ := hS; go_simp; try with_reducible rfl)
  simp only [Act.put, List.setIfInBounds_toArray, List.set_cons_zero, List.set_cons_succ]
  refine wpL_yield (v := ?_) rfl (fun w' hS => ?_) ?_
  rotate_left
  · (obtain ⟨c0, c1⟩ := hS; go_simp; try with_reducible rfl)
  simp only [Act.put, List.setIfInBounds_toArray, List.set_cons_zero, List.set_cons_succ]
  refine wpL_yield (v := ?_) rfl (fun w' hS => ?_) ?_
  rotate_left
  · (obtain ⟨c0, c1⟩ := hS; go_simp; try with_reducible rfl)
  simp only [Act.put, List.setIfInBounds_toArray, List.set_cons_zero, List.set_cons_succ]
  refine wpL_yield (v := ?_) rfl (fun w' hS => ?_) ?_
  rotate_left
  · (obtain ⟨c0, c1⟩ := hS; go_simp; try with_reducible rfl)
  simp only [Act.put, List.setIfInBounds_toArray, List.set_cons_zero, List.set_cons_succ]
  refine wpL_yield (v := ?_) rfl (fun w' hS => ?_) ?_
  rotate_left
  · (obtain ⟨c0, c1⟩ := hS; go_simp; try with_reducible rfl)
  simp only [Act.put, List.setIfInBounds_toArray, List.set_cons_zero, List.set_cons_succ]
  refine wpL_yield (v := ?_) rfl (fun w' hS => ?_) ?_
  rotate_left
  · (obtain ⟨c0, c1⟩ := hS; go_simp; try with_reducible rfl)
  simp only [Act.put, List.setIfInBounds_toArray, List.set_cons_zero, List.set_cons_succ]
  refine wpL_nil ?_
  refine wpL_yield (v := ?_) rfl (fun w' hS => ?_) ?_
  rotate_left
  · (go_simp; try with_reducible rfl)
  simp only [Act.put, List.setIfInBounds_toArray, List.set_cons_zero]
  refine wpL_nil ?_
  go_wp2_with fail
  go_ret
  exact ⟨rfl, h.drew⟩

/-- A slice of bytes, and a number of two bytes laid into it. -/
theorem byte_of_int (n : Nat) : byteV (UInt8.ofNat n) = .int .u8 ((n : Int) % 256) := by
  unfold byteV
  rw [UInt8.toNat_ofNat']
  rfl
theorem byte_of_div (n : Nat) : byteV (UInt8.ofNat (n / 256)) = .int .u8 ((n : Int) / 256 % 256) := by
  rw [byte_of_int]
  congr 1
set_option maxRecDepth 100000 in
set_option maxHeartbeats 800000 in
theorem lay_any {R : Assn} {w : World} {l : List UInt8} {ad : Option Addr} {m cap : Nat} (h : Bears w (bufA (.slice ad m cap) l * R)) (i n : Nat) (hi : i + 1 < l.length) (hb : l.length < 1000000) (hn : n < 4294967296) :
    Calls Tryz.prog 108 #[.slice ad m cap, .int .i64 i, .int .i64 n] w fun e w' => e = .returned (.tuple #[]) ∧ Bears w' (bufA (.slice ad m cap) (lay2 l i n) * R) := by
  obtain rfl : m = l.length := h.bufLen
  obtain ⟨g, o, rfl, c0, f0, s0⟩ := h.bufAt (j := i) (by omega)
  have h1 := s0 (UInt8.ofNat (n / 256))
  obtain ⟨g', o', e, c1, f1, s1⟩ := h1.bufAt (j := i + 1) (by simpa using hi)
  cases e
  have h2 := s1 (UInt8.ofNat n)
  rw [byte_of_div] at h1
  rw [byte_of_div, byte_of_int] at h2
  rw [byte_of_div] at c1 f1
  unfold byteV at c0 c1
  generalize (l.getD i 0).toNat = x0 at c0
  generalize ((l.set i (UInt8.ofNat (n / 256))).getD (i + 1) 0).toNat = x1 at c1
  have i1 : (i : Int) < (l.length : Int) := by omega
  have i2 : (i : Int) + 1 < (l.length : Int) := by omega
  have i3 : (0 : Int) ≤ (i : Int) + 1 := by omega
  have e2 : ((i : Int) + 1).toNat = i + 1 := by omega
  have w2 : IntKind.i64.wrap ((i : Int) + 1) = (i : Int) + 1 := IntWalk.i64_in _ (by omega)
  have H2 := Lib.hid h2
  clear h2 s0 s1 h1
  go_enter Tryz.func108, Tryz.ntmps108
  go_wp2_with fail
  go_end0
  exact ⟨rfl, H2.out⟩

set_option maxRecDepth 100000 in
set_option maxHeartbeats 400000 in
theorem closed_any {f s p len g : Nat} {k : List Nat} {d : DiskM} {op : Bool} {F G : Nat → Sec} {R : Assn} {w : World} (h : Bears w (filesObj f s * (spA s p d len g k op F G * R))) :
    Calls Tryz.prog 51 #[.pointer (some ⟨f, 0, none⟩)] w fun e w' => e = .returned (.bool (!op)) ∧ Bears w' (filesObj f s * (spA s p d len g k op F G * R)) := by
  have c0 := files_cell h
  cases op with
  | true =>
    have hs := setinode_bad h.pull2 (-1) (.slice none 0 0) (by omega)
    clear h
    go_enter Tryz.func51, Tryz.ntmps51
    go_wp2_with fail
    refine hs.mono ?_
    rintro e w1 ⟨rfl, h1⟩
    go_wp2_with fail
    go_ret
    exact ⟨rfl, h1.pull2⟩
  | false =>
    have hs := setinode_closed h.pull2 (-1) (.slice none 0 0)
    clear h
    go_enter Tryz.func51, Tryz.ntmps51
    go_wp2_with fail
    refine hs.mono ?_
    rintro e w1 ⟨rfl, h1⟩
    go_wp2_with fail
    go_ret
    exact ⟨rfl, h1.pull2⟩

set_option maxRecDepth 100000 in
set_option maxHeartbeats 400000 in
theorem named_any {f s p len g : Nat} {k : List Nat} {d : DiskM} {op : Bool} {F G : Nat → Sec} {R : Assn} {w : World} (h : Bears w (filesObj f s * (spA s p d len g k op F G * R))) {m : Nat} (hc : chkN len G m = 0) (h1 : firstB len ≤ m) (hm : m < len)
    {j : Nat} (hj : j < 32) {r : Nat} (hr : two (G m) (2 * j) = r) :
    Calls Tryz.prog 111 #[.pointer (some ⟨f, 0, none⟩), .int .i64 m, .int .i64 j] w fun e w' => e = .returned (.tuple #[.int .i64 r, .int .i64 0]) ∧ Bears w' (filesObj f s * (spA s p d len g k op F G * R)) := by
  subst hr
  have c0 := files_cell h
  have hl := h.pull2.sp64 m
  have hs := sreads_any h.pull2 m rfl hc h1 hm rfl
  have e2 : ((2 * j : Nat) : Int) = 2 * (j : Int) := by omega
  have ht := fun w' ad cap (h' : Bears w' (bufA (.slice ad 64 cap) (G m) * (spA s p d len g k op F G * (filesObj f s * R)))) => two_any h' buf_tells (2 * j) (by rw [hl]; omega) (by rw [hl]; decide)
  rw [e2] at ht
  generalize two (G m) (2 * j) = r at ht
  have Ht := Lib.hid ht
  have Hs := Lib.hid hs
  clear ht hs hc hl h e2
  go_enter Tryz.func111, Tryz.ntmps111
  go_wp2_with fail
  refine Hs.out.mono ?_
  rintro e w1 ⟨ad, cap, rfl, h2⟩
  go_wp2_with fail
  refine (Ht.out _ _ _ h2.bufRow).mono ?_
  rintro e w2 ⟨rfl, h3⟩
  go_wp2_with fail
  go_ret2
  exact ⟨rfl, h3.right.pull2⟩

end Go.Proofs.YtggbnelbnbaoiaaGreat
