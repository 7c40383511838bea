/- The statements of the cache: calls that keep its bounds; no condition. -/
import Derived.Test.YtaiobekochhemaaCLawC
namespace Go.Proofs.Ytaiobekochhemaa
open Go.RowKit Go.MapKept

/-! ### Few lines -/
theorem nodup_bound : ∀ (n : Nat) (l : List Int), l.Nodup → (∀ i ∈ l, 0 ≤ i ∧ i < n) → l.length ≤ n
  | 0, [], _, _ => Nat.le_refl _
  | 0, i :: l, _, h => by have := h i (by simp); omega
  | n + 1, l, hn, h => by
    by_cases hm : (n : Int) ∈ l
    · have h1 := nodup_bound n (l.erase (n : Int)) (hn.erase _) (fun i hi => by
        obtain ⟨h1, h2⟩ := hn.mem_erase_iff.1 hi
        have := h i h2
        omega)
      rw [List.length_erase_of_mem hm] at h1
      omega
    · have := nodup_bound n l hn (fun i hi => by
        have h1 := h i hi
        have : i ≠ (n : Int) := fun e => hm (e ▸ hi)
        omega)
      omega
def freeN (ls : List LineM) : Nat := (ls.filter fun y => !y.pin).length
theorem freeN_sub {a b : List LineM} (h : a.Sublist b) : freeN a ≤ freeN b := (h.filter _).length_le
theorem freeN_le (ls : List LineM) : freeN ls ≤ ls.length := List.length_filter_le _ _
theorem dropFree_none : ∀ {ls : List LineM}, dropFree ls = none → freeN ls = 0
  | [], _ => rfl
  | y :: r, h => by
    simp only [dropFree] at h
    split at h
    · cases h
    · rename_i hp
      have : dropFree r = none := by simpa using h
      have ih := dropFree_none this
      unfold freeN at ih ⊢
      simp only [List.filter_cons]
      simp only [Bool.not_eq_false] at hp
      simp [hp, ih]
theorem trimL_free {most : Int} : ∀ (n : Nat) {ls : List LineM}, ls.length = n → 0 ≤ most → (freeN (trimL most n ls) : Int) ≤ most
  | 0, ls, h, hm => by
    obtain rfl : ls = [] := List.eq_nil_of_length_eq_zero h
    simpa [trimL, freeN] using hm
  | n + 1, ls, h, hm => by
    simp only [trimL]
    split
    · rename_i h1
      have := freeN_le ls
      omega
    · cases hd : dropFree ls with
      | none =>
        simp only
        rw [dropFree_none hd]
        omega
      | some r =>
        simp only
        exact trimL_free n (by have := (dropFree_sub hd).2; omega) hm

/-- What a cache's bounds say. -/
structure Bounds (cm : CacheM) (d : DiskM) (n g : Nat) (F : Nat → Sec) (k : Nat) : Prop where
  log : LogOn d 0 40 g F
  few : g ≤ k
  fuse : d.fuse = -1
  len : d.len = 100
  most : cm.most = n
  nodup : (cm.lines.map (·.at')).Nodup
  range : ∀ y ∈ cm.lines, 0 ≤ y.at' ∧ y.at' < 100
  free : freeN cm.lines ≤ n
theorem Bounds.length {cm : CacheM} {d : DiskM} {n g : Nat} {F : Nat → Sec} {k : Nat} (h : Bounds cm d n g F k) : cm.lines.length ≤ 100 := by
  have := nodup_bound 100 _ h.nodup (fun i hi => by
    obtain ⟨y, hy, rfl⟩ := List.mem_map.1 hi
    exact h.range y hy)
  simpa using this
theorem Bounds.new {d : DiskM} {n : Nat} {m : Int} {F : Nat → Sec} (hm : m = n) (h : LogOn d 0 40 0 F) (h2 : d.fuse = -1) (h3 : d.len = 100) : Bounds (CacheM.new m) d n 0 F 0 :=
  ⟨h, Nat.le_refl _, h2, h3, hm, by simp [CacheM.new], by simp [CacheM.new], by simp [CacheM.new, freeN]⟩

def boundA (c p x n k : Nat) : Assn := Assn.ex fun (z : CacheM × DiskM × Nat × (Nat → Sec)) => Assn.fact (Bounds z.1 z.2.1 n z.2.2.1 z.2.2.2 k) * (cacheA c p x z.1 * (walObj x p 0 40 (z.2.2.1 : Int) * diskA p z.2.1))
theorem Bears.bound {w : World} {c p x n k : Nat} {R : Assn} : Bears w (boundA c p x n k * R) ↔ ∃ cm d g F, Bounds cm d n g F k ∧ Bears w (cacheA c p x cm * (diskA p d * (walObj x p 0 40 (g : Int) * R))) := by
  unfold boundA
  rw [Bears.ex]
  simp only [Assn.mul_assoc']
  constructor
  · rintro ⟨⟨cm, d, g, F⟩, h⟩
    obtain ⟨h1, h⟩ := Bears.fact.1 h
    exact ⟨cm, d, g, F, h1, h.c23⟩
  · rintro ⟨cm, d, g, F, h1, h⟩
    exact ⟨⟨cm, d, g, F⟩, Bears.fact.2 ⟨h1, h.c23⟩⟩

theorem Bounds.more {cm : CacheM} {d : DiskM} {n g : Nat} {F : Nat → Sec} {k : Nat} (h : Bounds cm d n g F k) : Bounds cm d n g F (k + 1) := ⟨h.log, by have := h.few; omega, h.fuse, h.len, h.most, h.nodup, h.range, h.free⟩
theorem Bears.more {w : World} {c p x n k : Nat} {R : Assn} (h : Bears w (boundA c p x n k * R)) : Bears w (boundA c p x n (k + 1) * R) := by
  obtain ⟨cm, d, g, F, hB, h⟩ := Bears.bound.1 h
  exact Bears.bound.2 ⟨cm, d, g, F, hB.more, h⟩

theorem freeN_use {y : LineM} {ls : List LineM} (hy : y.pin = true) : freeN (useL y ls) ≤ freeN ls := by
  unfold freeN useL
  rw [List.filter_append]
  have := ((forgetL_sub y.at' ls).filter fun z => !z.pin).length_le
  simp [hy]
  exact this
theorem Bounds.used {cm : CacheM} {d : DiskM} {n g : Nat} {F : Nat → Sec} {k : Nat} (h : Bounds cm d n g F k) {y : LineM} (hy : 0 ≤ y.at' ∧ y.at' < 100) : Bounds (cm.used y) d n g F k := by
  refine ⟨h.log, h.few, h.fuse, h.len, h.most, ((trimL_sub _ _ _).map _).nodup (useL_nodup h.nodup), fun z hz => ?_, ?_⟩
  · rcases mem_useL ((trimL_sub _ _ _).subset hz) with rfl | hz
    · exact hy
    · exact h.range z hz
  · have := trimL_free (most := cm.most) _ (ls := useL y cm.lines) rfl (by rw [h.most]; omega)
    rw [h.most] at this
    simp only [CacheM.used]
    rw [h.most]
    omega
theorem bread_any {c p x n k : Nat} {R : Assn} {w : World} (h : Bears w (boundA c p x n k * R)) (i : Int) :
    Calls Try.prog 24 #[.pointer (some ⟨c, 0, none⟩), .int .i64 i] w fun e w' => (∃ v e', e = .returned (.tuple #[v, .int .i64 e'])) ∧ Bears w' (boundA c p x n k * R) := by
  obtain ⟨cm, d, g, F, hB, h⟩ := Bears.bound.1 h
  have hl := hB.length
  cases hf : findL i cm.lines with
  | some y =>
    refine (cread_held_to h hf rfl (by omega)).mono ?_
    rintro e w' ⟨ad, cap, rfl, h2⟩
    exact ⟨⟨_, _, rfl⟩, Bears.bound.2 ⟨_, d, g, F, hB.used (hB.range y (findL_mem hf).1), h2.right⟩⟩
  | none =>
    by_cases hck : d.check i = 0
    · refine (cread_disk_to h hf hck rfl rfl (by omega)).mono ?_
      rintro e w' ⟨ad, cap, rfl, h2⟩
      have hi := (check_range hck).2
      rw [hB.len] at hi
      have hB' : Bounds ({ cm with misses := wrap64 (cm.misses + 1) } : CacheM) d n g F k := ⟨hB.log, hB.few, hB.fuse, hB.len, hB.most, hB.nodup, hB.range, hB.free⟩
      exact ⟨⟨_, _, rfl⟩, Bears.bound.2 ⟨_, d, g, F, hB'.used (y := ⟨i, _, false⟩) (by simp only; omega), h2.right⟩⟩
    · refine (cread_no_to h hf rfl hck).mono ?_
      rintro e w' ⟨rfl, h2⟩
      exact ⟨⟨_, _, rfl⟩, Bears.bound.2 ⟨cm, d, g, F, hB, h2⟩⟩

theorem bwrite_any {c p x n k : Nat} {R : Assn} {w : World} {i : Int} {b : Sec} {ad : Option Addr} {m cap : Nat} (h : Bears w (boundA c p x n k * R)) (hb : R.Tells (fun w => BytesIn w (.slice ad m cap) b)) :
    Calls Try.prog 28 #[.pointer (some ⟨c, 0, none⟩), .int .i64 i, .slice ad m cap] w fun e w' => (∃ v, e = .returned v) ∧ Bears w' (boundA c p x n k * R) := by
  obtain ⟨cm, d, g, F, hB, h⟩ := Bears.bound.1 h
  have hl := hB.length
  refine (cwrite_any h hb.right (by omega)).mono ?_
  rintro e w' ⟨rfl, h2⟩
  refine ⟨⟨_, rfl⟩, Bears.bound.2 ⟨_, d, g, F, ?_, h2⟩⟩
  unfold CacheM.write
  split
  · exact hB
  · split
    · exact hB
    · split
      · exact hB
      · rename_i hi _
        rw [hB.len] at hi
        refine ⟨hB.log, hB.few, hB.fuse, hB.len, hB.most, useL_nodup hB.nodup, fun z hz => ?_, Nat.le_trans (freeN_use rfl) hB.free⟩
        rcases mem_useL hz with rfl | hz
        · simp only; omega
        · exact hB.range z hz

theorem bbegin_any {c p x n k : Nat} {R : Assn} {w : World} (h : Bears w (boundA c p x n k * R)) :
    Calls Try.prog 29 #[.pointer (some ⟨c, 0, none⟩)] w fun e w' => (∃ v, e = .returned v) ∧ Bears w' (boundA c p x n k * R) := by
  obtain ⟨cm, d, g, F, hB, h⟩ := Bears.bound.1 h
  refine (cbegin_any h).mono ?_
  rintro e w' ⟨rfl, h2⟩
  refine ⟨⟨_, rfl⟩, Bears.bound.2 ⟨_, d, g, F, ?_, h2⟩⟩
  unfold CacheM.begins
  split
  · exact hB
  · exact ⟨hB.log, hB.few, hB.fuse, hB.len, hB.most, hB.nodup, hB.range, hB.free⟩

theorem babort_any {c p x n k : Nat} {R : Assn} {w : World} (h : Bears w (boundA c p x n k * R)) :
    Calls Try.prog 33 #[.pointer (some ⟨c, 0, none⟩)] w fun e w' => (∃ v, e = .returned v) ∧ Bears w' (boundA c p x n k * R) := by
  obtain ⟨cm, d, g, F, hB, h⟩ := Bears.bound.1 h
  refine (cabort_any h).mono ?_
  rintro e w' ⟨rfl, h2⟩
  refine ⟨⟨_, rfl⟩, Bears.bound.2 ⟨_, d, g, F, ?_, h2⟩⟩
  unfold CacheM.abort
  split
  · exact hB
  · exact ⟨hB.log, hB.few, hB.fuse, hB.len, hB.most, (List.filter_sublist.map _).nodup hB.nodup, fun y hy => hB.range y (List.mem_filter.1 hy).1, Nat.le_trans (freeN_sub List.filter_sublist) hB.free⟩

theorem bcommit_any {c p x n k : Nat} {R : Assn} {w : World} (h : Bears w (boundA c p x n k * R)) (hk : k < 1000000) :
    Calls Try.prog 31 #[.pointer (some ⟨c, 0, none⟩)] w fun e w' => (∃ v, e = .returned v) ∧ Bears w' (boundA c p x n (k + 1) * R) := by
  obtain ⟨cm, d, g, F, hB, h⟩ := Bears.bound.1 h
  have hl := hB.length
  have hB1 : Bounds cm d n g F (k + 1) := ⟨hB.log, by have := hB.few; omega, hB.fuse, hB.len, hB.most, hB.nodup, hB.range, hB.free⟩
  cases ho : cm.isOpen with
  | false =>
    refine (ccommit_closed h ho).mono ?_
    rintro e w' ⟨rfl, rfl⟩
    exact ⟨⟨_, rfl⟩, Bears.bound.2 ⟨cm, d, g, F, hB1, h⟩⟩
  | true =>
    refine (ccommit_log h.c23 ho hB.log hB.fuse (by have := hB.few; omega) (by omega)).mono ?_
    rintro e w' (⟨rfl, _, l, d', _, hL, hfu, hlen, _, h2⟩ | ⟨rfl, _, h2⟩)
    · refine ⟨⟨_, rfl⟩, Bears.bound.2 ⟨cm.commits, d', g + 1, _, ⟨hL, by have := hB.few; omega, hfu, by rw [hlen, hB.len], hB.most, ?_, fun y hy => ?_, ?_⟩, h2.c23⟩⟩
      · exact ((trimL_sub _ _ _).map _).nodup (by rw [unpinL_at]; exact hB.nodup)
      · obtain ⟨z, hz, rfl⟩ := List.mem_map.1 ((trimL_sub _ _ _).subset hy)
        exact hB.range z hz
      · have := trimL_free (most := cm.most) _ (ls := unpinL cm.lines) rfl (by rw [hB.most]; omega)
        rw [hB.most] at this
        simp only [CacheM.commits]
        rw [hB.most]
        omega
    · exact ⟨⟨_, rfl⟩, Bears.bound.2 ⟨cm, d, g, F, hB1, h2.c23⟩⟩

end Go.Proofs.Ytaiobekochhemaa
