/- Texts of this claim, put together: CacheV, WalQ, CacheQ, Bools, AllocW1, AllocW2, AllocW3, AllocW4; no condition. -/
import Derived.Test.YtcggloceabjjdaaGreatMce20143bb8

set_option linter.unusedSimpArgs false
set_option linter.unusedVariables false

/- The cache as a view of the sectors: what is sure, what is at hand; no condition. -/
namespace Go.Proofs.YtcggloceabjjdaaGreat
open Go.RowKit Go.MapKept

theorem overL_pin {F : Nat → Sec} {ls : List LineM} (hn : (ls.map (·.at')).Nodup) {y : LineM} (hy : y ∈ ls) (hp : y.pin = true) {i : Nat} (hi : y.at' = (i : Int)) : overL F ls i = y.b := by
  have : findL (i : Int) ls = some y := by rw [← hi]; exact findL_of_mem hn hy
  unfold overL
  rw [this]
  simp [hp]
theorem overL_free {F : Nat → Sec} {ls : List LineM} {i : Nat} (h : ∀ y ∈ ls, y.at' = (i : Int) → y.pin = false) : overL F ls i = F i := by
  unfold overL
  cases hf : findL (i : Int) ls with
  | none => rfl
  | some y =>
    obtain ⟨hy, hyi⟩ := findL_mem hf
    simp [h y hy hyi]
/-- What the pinned lines are decides it. -/
theorem overL_congr {F : Nat → Sec} {ls ls' : List LineM} (hn : (ls.map (·.at')).Nodup) (hn' : (ls'.map (·.at')).Nodup) (h : ∀ y : LineM, y.pin = true → (y ∈ ls' ↔ y ∈ ls)) : overL F ls' = overL F ls := by
  funext i
  by_cases hx : ∃ y ∈ ls, y.pin = true ∧ y.at' = (i : Int)
  · obtain ⟨y, hy, hp, hi⟩ := hx
    rw [overL_pin hn hy hp hi, overL_pin hn' ((h y hp).2 hy) hp hi]
  · rw [overL_free (ls := ls) (fun y hy hi => by
      cases hp : y.pin with
      | false => rfl
      | true => exact absurd ⟨y, hy, hp, hi⟩ hx), overL_free (fun y hy hi => by
      cases hp : y.pin with
      | false => rfl
      | true => exact absurd ⟨y, (h y hp).1 hy, hp, hi⟩ hx)]
theorem dropFree_keeps : ∀ {ls r : List LineM}, dropFree ls = some r → ∀ y : LineM, y.pin = true → (y ∈ r ↔ y ∈ ls)
  | [], _, h => by simp [dropFree] at h
  | x :: l, r, h => by
    simp only [dropFree] at h
    split at h
    · rename_i hx
      simp only [Option.some.injEq] at h
      subst h
      intro y hp
      simp only [List.mem_cons]
      constructor
      · exact .inr
      · rintro (rfl | h)
        · rw [hp] at hx; cases hx
        · exact h
    · cases hd : dropFree l with
      | none => simp [hd] at h
      | some r' =>
        simp only [hd, Option.map_some, Option.some.injEq] at h
        subst h
        intro y hp
        have := dropFree_keeps hd y hp
        simp [this]
theorem trimL_keeps (most : Int) : ∀ (n : Nat) (ls : List LineM) (y : LineM), y.pin = true → (y ∈ trimL most n ls ↔ y ∈ ls)
  | 0, ls, y, _ => Iff.rfl
  | n + 1, ls, y, hp => by
    simp only [trimL]
    split
    · exact Iff.rfl
    · cases hd : dropFree ls with
      | none => exact Iff.rfl
      | some r => exact (trimL_keeps most n r y hp).trans (dropFree_keeps hd y hp)

theorem dropFree_filter : ∀ {ls r : List LineM}, dropFree ls = some r → r.filter (·.pin) = ls.filter (·.pin)
  | [], _, h => by simp [dropFree] at h
  | x :: l, r, h => by
    simp only [dropFree] at h
    split at h
    · rename_i hx
      simp only [Option.some.injEq] at h
      subst h
      simp [hx]
    · cases hd : dropFree l with
      | none => simp [hd] at h
      | some r' =>
        simp only [hd, Option.map_some, Option.some.injEq] at h
        subst h
        simp only [List.filter_cons]
        rw [dropFree_filter hd]
theorem trimL_filter (most : Int) : ∀ (n : Nat) (ls : List LineM), (trimL most n ls).filter (·.pin) = ls.filter (·.pin)
  | 0, ls => rfl
  | n + 1, ls => by
    simp only [trimL]
    split
    · rfl
    · cases hd : dropFree ls with
      | none => rfl
      | some r =>
        simp only
        rw [trimL_filter most n r, dropFree_filter hd]

/-- A cache over a log at rest: F is what was laid down, G what is at hand, k how many sectors are pinned at the most. -/
structure CV (len a s : Nat) (F G : Nat → Sec) (k : List Nat) (op : Bool) (cm : CacheM) : Prop where
  nodup : (cm.lines.map (·.at')).Nodup
  out : ∀ y ∈ cm.lines, 0 ≤ y.at' ∧ y.at' < len ∧ ¬ ((a : Int) ≤ y.at' ∧ y.at' < a + s)
  free : ∀ y ∈ cm.lines, y.pin = false → y.b = F y.at'.toNat
  view : overL F cm.lines = G
  few : ∀ y ∈ cm.lines, y.pin = true → y.at'.toNat ∈ k
  opn : cm.isOpen = op
  len : len ≤ 8192

theorem CV.length {len a s : Nat} {F G : Nat → Sec} {k : List Nat} {op : Bool} {cm : CacheM} (h : CV len a s F G k op cm) : cm.lines.length ≤ 8192 := by
  have := nodup_bound len _ h.nodup (fun i hi => by
    obtain ⟨y, hy, rfl⟩ := List.mem_map.1 hi
    have := h.out y hy
    exact ⟨this.1, this.2.1⟩)
  have := h.len
  simp at *
  omega
theorem CV.new {len a s : Nat} {F : Nat → Sec} {m : Int} (hl : len ≤ 8192) : CV len a s F F [] false (CacheM.new m) :=
  ⟨by simp [CacheM.new], by simp [CacheM.new], by simp [CacheM.new], by funext i; rfl, by simp [CacheM.new], rfl, hl⟩
theorem CV.used {len a s : Nat} {F G : Nat → Sec} {k : List Nat} {op : Bool} {cm : CacheM} (h : CV len a s F G k op cm) {y : LineM} (ho : 0 ≤ y.at' ∧ y.at' < len ∧ ¬ ((a : Int) ≤ y.at' ∧ y.at' < a + s))
    (hy : y ∈ cm.lines ∨ (y.pin = false ∧ y.b = F y.at'.toNat ∧ findL y.at' cm.lines = none)) : CV len a s F G k op (cm.used y) := by
  have hn2 := useL_nodup (x := y) h.nodup
  have hsub : ∀ z ∈ trimL cm.most (useL y cm.lines).length (useL y cm.lines), z = y ∨ z ∈ cm.lines := fun z hz => mem_useL ((trimL_sub _ _ _).subset hz)
  have hk : ∀ z : LineM, z.pin = true → (z ∈ trimL cm.most (useL y cm.lines).length (useL y cm.lines) ↔ z ∈ cm.lines) := by
    intro z hp
    rw [trimL_keeps _ _ _ _ hp]
    constructor
    · intro hz
      rcases mem_useL hz with rfl | hz
      · rcases hy with hy | ⟨h1, _⟩
        · exact hy
        · rw [hp] at h1; cases h1
      · exact hz
    · intro hz
      by_cases e : z.at' = y.at'
      · have hfz := findL_of_mem h.nodup hz
        rcases hy with hy | ⟨_, _, h3⟩
        · have hfy := findL_of_mem h.nodup hy
          rw [e, hfy] at hfz
          simp only [Option.some.injEq] at hfz
          subst hfz
          unfold useL
          simp
        · rw [e, h3] at hfz; cases hfz
      · unfold useL
        rw [forgetL_filter h.nodup]
        refine List.mem_append_left _ (List.mem_filter.2 ⟨hz, ?_⟩)
        simpa using e
  have hn3 : ((trimL cm.most (useL y cm.lines).length (useL y cm.lines)).map (·.at')).Nodup := ((trimL_sub _ _ _).map _).nodup hn2
  refine ⟨hn3, fun z hz => ?_, fun z hz hp => ?_, ?_, ?_, h.opn, h.len⟩
  · rcases hsub z hz with rfl | hz
    · exact ho
    · exact h.out z hz
  · rcases hsub z hz with rfl | hz
    · rcases hy with hy | ⟨_, h2, _⟩
      · exact h.free _ hy hp
      · exact h2
    · exact h.free z hz hp
  · simp only [CacheM.used]
    rw [overL_congr h.nodup hn3 hk]
    exact h.view
  · intro z hz hp
    exact h.few z ((hk z hp).1 hz) hp

def cvA (c p x len a s : Nat) (F G : Nat → Sec) (k : List Nat) (op : Bool) : Assn := Assn.ex fun cm => Assn.fact (CV len a s F G k op cm) * cacheA c p x cm
theorem Bears.cv {w : World} {c p x len a s : Nat} {F G : Nat → Sec} {k : List Nat} {op : Bool} {R : Assn} : Bears w (cvA c p x len a s F G k op * R) ↔ ∃ cm, CV len a s F G k op cm ∧ Bears w (cacheA c p x cm * R) := by
  unfold cvA
  rw [Bears.ex]
  simp only [Assn.mul_assoc']
  constructor
  · rintro ⟨cm, h⟩
    exact ⟨cm, Bears.fact.1 h⟩
  · rintro ⟨cm, h⟩
    exact ⟨cm, Bears.fact.2 h⟩

/-- So many at the most. -/
def Few (k : List Nat) (n : Nat) : Prop := ∃ L : List Nat, L.length ≤ n ∧ ∀ i ∈ k, i ∈ L
theorem Few.nil (n : Nat) : Few [] n := ⟨[], Nat.zero_le _, by simp⟩
theorem Few.of {k : List Nat} {n : Nat} (h : k.length ≤ n) : Few k n := ⟨k, h, fun _ h => h⟩
theorem Few.mono {k k' : List Nat} {n : Nat} (h : Few k n) (hs : ∀ i ∈ k', i ∈ k) : Few k' n := by
  obtain ⟨L, h1, h2⟩ := h
  exact ⟨L, h1, fun i hi => h2 i (hs i hi)⟩
theorem nodup_within : ∀ (l L : List Nat), l.Nodup → (∀ i ∈ l, i ∈ L) → l.length ≤ L.length
  | [], _, _, _ => Nat.zero_le _
  | i :: l, L, hn, h => by
    have h1 := nodup_within l (L.erase i) (List.nodup_cons.1 hn).2 (fun j hj => (List.mem_erase_of_ne (fun e => (List.nodup_cons.1 hn).1 (by rw [← e]; exact hj))).2 (h j (by simp [hj])))
    rw [List.length_erase_of_mem (h i (by simp))] at h1
    have := List.length_pos_of_mem (h i (by simp))
    simp
    omega
theorem CV.pins {len a s : Nat} {F G : Nat → Sec} {k : List Nat} {op : Bool} {cm : CacheM} (h : CV len a s F G k op cm) {n : Nat} (hk : Few k n) : (cm.lines.filter (·.pin)).length ≤ n := by
  obtain ⟨L, hL, hk⟩ := hk
  have h1 : ((cm.lines.filter (·.pin)).map (fun y => y.at'.toNat)).Nodup := by
    have h0 : ((cm.lines.filter (·.pin)).map (·.at')).Nodup := (List.filter_sublist.map _).nodup h.nodup
    unfold List.Nodup at h0 ⊢
    rw [List.pairwise_map] at h0 ⊢
    refine h0.imp_of_mem (fun {y z} hy hz hne => ?_)
    have o1 := h.out y (List.mem_filter.1 hy).1
    have o2 := h.out z (List.mem_filter.1 hz).1
    omega
  have h2 := nodup_within _ L h1 (fun i hi => by
    obtain ⟨y, hy, rfl⟩ := List.mem_map.1 hi
    exact hk _ (h.few y (List.mem_filter.1 hy).1 (List.mem_filter.1 hy).2))
  rw [List.length_map] at h2
  omega
theorem Bears.cvSub {w : World} {c p x len a s : Nat} {F G : Nat → Sec} {k k' : List Nat} {op : Bool} {R : Assn} (h : Bears w (cvA c p x len a s F G k op * R)) (hs : ∀ i ∈ k, i ∈ k') : Bears w (cvA c p x len a s F G k' op * R) := by
  obtain ⟨cm, hV, h⟩ := Bears.cv.1 h
  exact Bears.cv.2 ⟨cm, ⟨hV.nodup, hV.out, hV.free, hV.view, fun y hy hp => hs _ (hV.few y hy hp), hV.opn, hV.len⟩, h⟩
theorem Bears.cvMore {w : World} {c p x len a s : Nat} {F G : Nat → Sec} {k : List Nat} {op : Bool} {R : Assn} (h : Bears w (cvA c p x len a s F G k op * R)) (i : Nat) : Bears w (cvA c p x len a s F G (i :: k) op * R) := h.cvSub (fun _ h => List.mem_cons_of_mem _ h)

theorem vread_any {c p x len a s g : Nat} {k : List Nat} {op : Bool} {F G : Nat → Sec} {d : DiskM} {R : Assn} {w : World} {i : Int} {r : Sec} (h : Bears w (cvA c p x len a s F G k op * (diskA p d * R))) (hL : LogOn d a s g F) (hlen : d.len = len)
    (hi0 : 0 ≤ i) (hi : i < len) (ho : ¬ ((a : Int) ≤ i ∧ i < a + s)) (hr : G i.toNat = r) :
    Calls Tryz.prog 62 #[.pointer (some ⟨c, 0, none⟩), .int .i64 i] w fun e w' => ∃ ad cap, e = .returned (.tuple #[.slice ad 64 cap, .int .i64 0]) ∧
      Bears w' (rowA 5 1 (.slice ad 64 cap) 64 (cellsV r) * (cvA c p x len a s F G k op * (diskA p d * R))) := by
  subst hr
  obtain ⟨cm, hV, h⟩ := Bears.cv.1 h
  have hl := hV.length
  cases hf : findL i cm.lines with
  | some y =>
    obtain ⟨hy, rfl⟩ := findL_mem hf
    have e1 : G y.at'.toNat = y.b := by
      rw [← hV.view]
      cases hp : y.pin with
      | true => exact overL_pin hV.nodup hy hp (by omega)
      | false =>
        rw [overL_free (fun z hz hzi => ?_)]
        · exact (hV.free y hy hp).symm
        · have := findL_of_mem hV.nodup hz
          rw [show z.at' = y.at' by omega, hf] at this
          simp only [Option.some.injEq] at this
          rw [← this, hp]
    rw [e1]
    refine (cread_held_to h hf rfl (by omega)).mono ?_
    rintro e w' ⟨ad, cap, rfl, h2⟩
    exact ⟨ad, cap, rfl, Bears.pull2 (Bears.cv.2 ⟨_, hV.used (hV.out y hy) (.inl hy), h2.pull2⟩)⟩
  | none =>
    have hn : d.now i.toNat = G i.toNat := by
      rw [hL.now (by omega), ← hV.view, overL_free (fun z hz hzi => ?_)]
      have := findL_of_mem hV.nodup hz
      rw [show z.at' = i by omega, hf] at this
      cases this
    have hF : d.now i.toNat = F i.toNat := hL.now (by omega)
    have hck : d.check i = 0 := by
      have := DiskM.on_check (i := i.toNat) hL.off (by omega)
      rwa [show ((i.toNat : Nat) : Int) = i by omega] at this
    refine (cread_disk_to h hf hck hn rfl (by omega)).mono ?_
    rintro e w' ⟨ad, cap, rfl, h2⟩
    have hV2 : CV len a s F G k op { cm with misses := wrap64 (cm.misses + 1) } := ⟨hV.nodup, hV.out, hV.free, hV.view, hV.few, hV.opn, hV.len⟩
    exact ⟨ad, cap, rfl, Bears.pull2 (Bears.cv.2 ⟨_, hV2.used (y := ⟨i, G i.toNat, false⟩) ⟨hi0, hi, ho⟩ (.inr ⟨rfl, by rw [← hn, hF], hf⟩), h2.pull2⟩)⟩

theorem overL_use {F : Nat → Sec} {ls : List LineM} (hn : (ls.map (·.at')).Nodup) {i : Nat} {b : Sec} : overL F (useL ⟨(i : Int), b, true⟩ ls) = updS (overL F ls) i b := by
  funext j
  unfold updS
  by_cases e : j = i
  · subst e
    rw [if_pos rfl]
    exact overL_pin (y := ⟨(j : Int), b, true⟩) (useL_nodup hn) (by simp [useL]) rfl rfl
  · rw [if_neg e]
    unfold overL
    rw [findL_useL hn, if_neg (by simp only; omega)]

theorem vwrite_any {c p x len a s : Nat} {k : List Nat} {F G : Nat → Sec} {d : DiskM} {R : Assn} {w : World} {i : Int} {b : Sec} {ad : Option Addr} {n cap : Nat} (h : Bears w (cvA c p x len a s F G k true * (diskA p d * R))) (hlen : d.len = len)
    (hb : R.Tells (fun w => BytesIn w (.slice ad n cap) b)) (hb64 : b.length = 64) (hi0 : 0 ≤ i) (hi : i < len) (ho : ¬ ((a : Int) ≤ i ∧ i < a + s)) :
    Calls Tryz.prog 69 #[.pointer (some ⟨c, 0, none⟩), .int .i64 i, .slice ad n cap] w fun e w' => e = .returned (.int .i64 0) ∧ Bears w' (cvA c p x len a s F (updS G i.toNat b) (i.toNat :: k) true * (diskA p d * R)) := by
  obtain ⟨cm, hV, h⟩ := Bears.cv.1 h
  have hl := hV.length
  have hw : cm.write d.len i b = (0, { cm with lines := useL ⟨i, b, true⟩ cm.lines }) := by
    unfold CacheM.write
    rw [hV.opn, if_neg (by simp), if_neg (by rw [hlen]; omega), if_neg (by simpa using hb64)]
  refine (cwrite_to h hw hb (by omega)).mono ?_
  rintro e w' ⟨rfl, h2⟩
  refine ⟨rfl, Bears.cv.2 ⟨{ cm with lines := useL ⟨i, b, true⟩ cm.lines }, ⟨useL_nodup hV.nodup, fun z hz => ?_, fun z hz hp => ?_, ?_, ?_, hV.opn, hV.len⟩, h2⟩⟩
  · rcases mem_useL hz with rfl | hz
    · exact ⟨hi0, hi, ho⟩
    · exact hV.out z hz
  · rcases mem_useL hz with rfl | hz
    · cases hp
    · exact hV.free z hz hp
  · have := overL_use (F := F) (i := i.toNat) (b := b) hV.nodup
    rw [show ((i.toNat : Nat) : Int) = i by omega, hV.view] at this
    exact this
  · intro z hz hp
    rcases mem_useL hz with rfl | hz
    · exact List.mem_cons_self
    · exact List.mem_cons_of_mem _ (hV.few z hz hp)

theorem vbegin_any {c p x len a s : Nat} {k : List Nat} {F G : Nat → Sec} {R : Assn} {w : World} (h : Bears w (cvA c p x len a s F G k false * R)) :
    Calls Tryz.prog 58 #[.pointer (some ⟨c, 0, none⟩)] w fun e w' => e = .returned (.int .i64 0) ∧ Bears w' (cvA c p x len a s F G k true * R) := by
  obtain ⟨cm, hV, h⟩ := Bears.cv.1 h
  have hw : cm.begins = (0, { cm with isOpen := true }) := by unfold CacheM.begins; rw [hV.opn, if_neg (by simp)]
  refine (cbegin_to h hw).mono ?_
  rintro e w' ⟨rfl, h2⟩
  exact ⟨rfl, Bears.cv.2 ⟨{ cm with isOpen := true }, ⟨hV.nodup, hV.out, hV.free, hV.view, hV.few, rfl, hV.len⟩, h2⟩⟩
theorem vbegin_no {c p x len a s : Nat} {k : List Nat} {F G : Nat → Sec} {R : Assn} {w : World} (h : Bears w (cvA c p x len a s F G k true * R)) :
    Calls Tryz.prog 58 #[.pointer (some ⟨c, 0, none⟩)] w fun e w' => e = .returned (.int .i64 30) ∧ Bears w' (cvA c p x len a s F G k true * R) := by
  obtain ⟨cm, hV, h⟩ := Bears.cv.1 h
  have hw : cm.begins = (30, cm) := by unfold CacheM.begins; rw [hV.opn, if_pos rfl]
  refine (cbegin_to h hw).mono ?_
  rintro e w' ⟨rfl, h2⟩
  exact ⟨rfl, Bears.cv.2 ⟨_, hV, h2⟩⟩

theorem vabort_any {c p x len a s : Nat} {k : List Nat} {F G : Nat → Sec} {R : Assn} {w : World} (h : Bears w (cvA c p x len a s F G k true * R)) :
    Calls Tryz.prog 55 #[.pointer (some ⟨c, 0, none⟩)] w fun e w' => e = .returned (.int .i64 0) ∧ Bears w' (cvA c p x len a s F F [] false * R) := by
  obtain ⟨cm, hV, h⟩ := Bears.cv.1 h
  have hw : cm.abort = (0, { cm with isOpen := false, lines := cm.lines.filter fun y => !y.pin }) := by unfold CacheM.abort; rw [hV.opn, if_neg (by simp)]
  refine (cabort_to h hw).mono ?_
  rintro e w' ⟨rfl, h2⟩
  have hp : ∀ y ∈ cm.lines.filter (fun y => !y.pin), y.pin = false := fun y hy => by have := (List.mem_filter.1 hy).2; simpa using this
  refine ⟨rfl, Bears.cv.2 ⟨{ cm with isOpen := false, lines := cm.lines.filter fun y => !y.pin }, ⟨(List.filter_sublist.map _).nodup hV.nodup, fun y hy => hV.out y (List.mem_filter.1 hy).1, fun y hy hf => hV.free y (List.mem_filter.1 hy).1 hf, ?_, ?_, rfl, hV.len⟩, h2⟩⟩
  · funext i
    exact overL_free (fun y hy _ => hp y hy)
  · intro y hy hq
    rw [hp y hy] at hq; cases hq
theorem vabort_no {c p x len a s : Nat} {k : List Nat} {F G : Nat → Sec} {R : Assn} {w : World} (h : Bears w (cvA c p x len a s F G k false * R)) :
    Calls Tryz.prog 55 #[.pointer (some ⟨c, 0, none⟩)] w fun e w' => e = .returned (.int .i64 30) ∧ Bears w' (cvA c p x len a s F G k false * R) := by
  obtain ⟨cm, hV, h⟩ := Bears.cv.1 h
  have hw : cm.abort = (30, cm) := by unfold CacheM.abort; rw [hV.opn, if_pos rfl]
  refine (cabort_to h hw).mono ?_
  rintro e w' ⟨rfl, h2⟩
  exact ⟨rfl, Bears.cv.2 ⟨_, hV, h2⟩⟩

theorem CV.commits {len a s : Nat} {F G : Nat → Sec} {k : List Nat} {op : Bool} {cm : CacheM} (h : CV len a s F G k op cm) : CV len a s G G [] false cm.commits := by
  have hn : ((unpinL cm.lines).map (·.at')).Nodup := by rw [unpinL_at]; exact h.nodup
  have hsub : ∀ z ∈ trimL cm.most (unpinL cm.lines).length (unpinL cm.lines), ∃ y ∈ cm.lines, z = { y with pin := false } := fun z hz => by
    obtain ⟨y, hy, rfl⟩ := List.mem_map.1 ((trimL_sub _ _ _).subset hz)
    exact ⟨y, hy, rfl⟩
  refine ⟨((trimL_sub _ _ _).map _).nodup hn, fun z hz => ?_, fun z hz _ => ?_, ?_, ?_, rfl, h.len⟩
  · obtain ⟨y, hy, rfl⟩ := hsub z hz
    exact h.out y hy
  · obtain ⟨y, hy, rfl⟩ := hsub z hz
    simp only
    rw [← h.view]
    have ho := h.out y hy
    cases hp : y.pin with
    | true => exact (overL_pin h.nodup hy hp (by omega)).symm
    | false =>
      rw [overL_free (fun v hv hvi => ?_)]
      · exact h.free y hy hp
      · have h1 := findL_of_mem h.nodup hv
        rw [show v.at' = y.at' by omega, findL_of_mem h.nodup hy] at h1
        simp only [Option.some.injEq] at h1
        rw [← h1, hp]
  · funext i
    refine overL_free (fun z hz _ => ?_)
    obtain ⟨y, hy, rfl⟩ := hsub z hz
    rfl
  · intro z hz hp
    obtain ⟨y, hy, rfl⟩ := hsub z hz
    cases hp
theorem CV.pinsOk {len a s : Nat} {F G : Nat → Sec} {k : List Nat} {op : Bool} {cm : CacheM} (h : CV len a s F G k op cm) (hk : Few k (roomN s)) : PinsOk len a s cm.lines :=
  ⟨fun y hy _ => by have := h.out y hy; exact ⟨this.2.2, this.1, this.2.1⟩, h.pins hk⟩

theorem vcommit_any {c p x len a s g : Nat} {k : List Nat} {F G : Nat → Sec} {d : DiskM} {R : Assn} {w : World} (h : Bears w (cvA c p x len a s F G k true * (walObj x p a s (g : Int) * (diskA p d * R)))) (hL : LogOn d a s g F) (hlen : d.len = len) (hf : d.fuse = -1) (hk : Few k (roomN s))
    (hg : g < 4611686018427387904) :
    Calls Tryz.prog 59 #[.pointer (some ⟨c, 0, none⟩)] w fun e w' => ∃ d', e = .returned (.int .i64 0) ∧ LogOn d' a s (g + 1) G ∧ d'.fuse = -1 ∧ d'.len = len ∧
      Bears w' (cvA c p x len a s G G [] false * (walObj x p a s ((g + 1 : Nat) : Int) * (diskA p d' * R))) := by
  obtain ⟨cm, hV, h⟩ := Bears.cv.1 h
  have hl := hV.length
  refine (ccommit_log h hV.opn hL hf hg (by omega)).mono ?_
  rintro e w' (⟨rfl, _, l, d', _, hL2, hfu, hlen2, _, h2⟩ | ⟨_, hno, _⟩)
  · rw [hV.view] at hL2
    exact ⟨d', rfl, hL2, hfu, hlen2.trans hlen, Bears.cv.2 ⟨_, hV.commits, h2⟩⟩
  · exact absurd (by rw [hlen]; exact hV.pinsOk hk) hno
theorem vcommit_no {c p x len a s : Nat} {k : List Nat} {F G : Nat → Sec} {R : Assn} {w : World} (h : Bears w (cvA c p x len a s F G k false * R)) :
    Calls Tryz.prog 59 #[.pointer (some ⟨c, 0, none⟩)] w fun e w' => e = .returned (.int .i64 30) ∧ Bears w' (cvA c p x len a s F G k false * R) := by
  obtain ⟨cm, hV, h⟩ := Bears.cv.1 h
  refine (ccommit_closed h hV.opn).mono ?_
  rintro e w' ⟨rfl, rfl⟩
  exact ⟨rfl, Bears.cv.2 ⟨_, hV, h⟩⟩

/-- A commit under a fuse: the disk goes on, or falls; behind a boot all is there, or none. -/
theorem commit_waits {d d' : DiskM} {a s : Nat} {g g' r : Int} {l : List PutM} (h : wCommit d a s g l = (r, g', d')) : d'.waits.length ≤ d.waits.length + 3 * l.length + 10 := by
  cases hm : wMay d.len a s l with
  | false =>
    rw [wCommit_no hm] at h
    simp only [Prod.mk.injEq] at h
    rw [← h.2.2]
    omega
  | true =>
    have hl : listsN l.length ≤ l.length + 1 := by unfold listsN; omega
    obtain ⟨r1, d1, hb⟩ : ∃ r d1, wBytes d a s l l.length = (r, d1) := ⟨_, _, rfl⟩
    have s1 := wBytes_waits d a s l l.length
    rw [hb] at s1
    simp only at s1
    by_cases hr1 : r1 = 0
    · subst hr1
      obtain ⟨r2, d2, hs⟩ : ∃ r d2, wLists d1 a l (listsN l.length) = (r, d2) := ⟨_, _, rfl⟩
      have s2 := wLists_waits d1 a l (listsN l.length)
      rw [hs] at s2
      simp only at s2
      by_cases hr2 : r2 = 0
      · subst hr2
        obtain ⟨r3, d3, ho⟩ : ∃ r d3, wBoth d2 a s (wrap64 (g + 1)) l.length = (r, d3) := ⟨_, _, rfl⟩
        rw [wCommit_both hm hb hs ho] at h
        have s3 := wBoth_waits d2 a s (wrap64 (g + 1)) l.length
        rw [ho] at s3
        simp only at s3
        split at h
        · simp only [Prod.mk.injEq] at h
          rw [← h.2.2]
          omega
        · have s4 : (wFinish d3 a s (wrap64 (g + 1)) l.length).2.waits.length ≤ d3.waits.length + l.length + 1 := by
            have h1 := wLoop_waits d3 a s l.length
            unfold wFinish
            split
            · omega
            · have h2 := wBoth_waits (wLoop d3 a s l.length).2 a s (wrap64 (g + 1)) 0
              omega
          simp only [Prod.mk.injEq] at h
          rw [← h.2.2]
          omega
      · rw [wCommit_lists hm hb hs hr2 (Nat.le_refl _)] at h
        simp only [Prod.mk.injEq] at h
        rw [← h.2.2]
        omega
    · rw [wCommit_bytes hm hb hr1 (Nat.le_refl _)] at h
      simp only [Prod.mk.injEq] at h
      rw [← h.2.2]
      omega

theorem vcommit_cut {c p x len a s g : Nat} {k : List Nat} {F G : Nat → Sec} {d : DiskM} {R : Assn} {w : World} (h : Bears w (cvA c p x len a s F G k true * (walObj x p a s (g : Int) * (diskA p d * R)))) (hL : LogOn d a s g F) (hlen : d.len = len) (hk : Few k (roomN s))
    (hg : g < 4611686018427387904) :
    Calls Tryz.prog 59 #[.pointer (some ⟨c, 0, none⟩)] w fun e w' => ∃ r d', e = .returned (.int .i64 r) ∧ Goes d r d' ∧ (r = 0 → LogOn d' a s (g + 1) G) ∧ Boots d' (fun f => At len a s f g F ∨ At len a s f (g + 1) G) ∧ d'.waits.length < 1000000 ∧
      Bears w' (diskA p d' * R) := by
  obtain ⟨cm, hV, h⟩ := Bears.cv.1 h
  obtain ⟨_, _, _, _, _, _, hwf, _⟩ := Bears.cache.1 h
  have hl := hV.length
  refine (ccommit_open h hV.opn (by have := hL.place; have := hL.len; omega) (by have := hL.place; have := hL.len; omega) (hL.few _ (by decide)) (by omega)).mono ?_
  rintro e w' ⟨l, r, g', d', hP, hc, rfl, h2⟩
  have hok := hV.pinsOk hk
  have hm : wMay d.len a s l = true := by rw [hlen]; exact hP.may hV.nodup hwf.bytes hok
  obtain ⟨r2, g2, d2, hc2, h3, h4, h5⟩ := hL.commit (by omega) hm
  rw [hc] at hc2
  obtain ⟨rfl, rfl, rfl⟩ : r = r2 ∧ g' = g2 ∧ d' = d2 := by simpa using hc2
  have hap := hP.apply hV.nodup (fun y hy hp => (hok.out y hy hp).2.1) F
  rw [hV.view] at hap
  rw [hap] at h4 h5
  rw [hlen] at h5
  have hw := commit_waits hc
  rw [hL.quiet] at hw
  have h6 := hP.length
  have h7 := hV.pins hk
  have h8 := room_le s
  have h9 := hL.place
  have h10 := hL.len
  exact ⟨r, d', rfl, h3, fun hr => (h4 hr).2, h5, by simp at hw; omega, h2.right.right⟩

end Go.Proofs.YtcggloceabjjdaaGreat

/- A sector that a group leaves as it was, wherever the power goes off; plain; no condition. -/
namespace Go.Proofs.YtcggloceabjjdaaGreat
open Go.RowKit Go.MapKept

theorem settle_val {i : Nat} {v : Sec} : ∀ (ws : List (Nat × Sec)) (f : Nat → Sec), f i = v → (∀ p ∈ ws, p.1 = i → p.2 = v) → settle f ws i = v
  | [], _, h, _ => h
  | p :: ws, f, h, hw => by
    show settle (updS f p.1 p.2) ws i = v
    refine settle_val ws _ ?_ (fun q hq => hw q (List.mem_cons_of_mem _ hq))
    unfold updS
    split
    · rename_i e
      exact hw p (List.mem_cons_self ..) e.symm
    · exact h
theorem wFinish_keeps {d : DiskM} (h : d.off = false) {a s g : Nat} {F : Nat → Sec} {l : List PutM} (hs : 3 ≤ s) (hp : a + s ≤ d.len) (hlen : d.len ≤ 8192) (hw : d.waits = []) (hh : Hand d.len a s d.sure g F l)
    {i : Nat} {v : Sec} (hi : ¬ (a ≤ i ∧ i < a + s)) (hv : d.sure i = v) (hl : ∀ p ∈ l, p.sector.toNat = i → p.bytes = v) {r : Int} {d' : DiskM} (he : wFinish d a s g l.length = (r, d')) : Boots d' (fun f => f i = v) := by
  obtain ⟨r1, dk, h1, h2, h3, h4, h5⟩ := wLoop_goes h hs hp hlen hh.ok (by rw [now_quiet hw]; exact hh.holds) hw l.length (Nat.le_refl _)
  have hb : Boots dk (fun f => f i = v) := by
    intro ws hws
    rw [h3]
    refine settle_val _ _ hv (fun p hp => ?_)
    obtain ⟨q, hq, rfl⟩ := h4 p (hws.subset hp)
    exact hl q hq
  by_cases hr : r1 = 0
  · subst hr
    obtain ⟨r2, d2, e2, g2, k2, b2⟩ := wBoth_goes h2.on (a := a) (s := s) (g := g) (hand := 0) (by rw [h2.len]; omega) hb (by
      show updS dk.now a (headB s g 0) i = v
      unfold updS
      rw [if_neg (by omega)]
      exact hb.now)
    unfold wFinish at he
    rw [h1, if_neg (by simp)] at he
    simp only at he
    rw [e2] at he
    obtain ⟨-, rfl⟩ := Prod.mk.inj he
    exact b2
  · unfold wFinish at he
    rw [h1, if_pos hr] at he
    obtain ⟨-, rfl⟩ := Prod.mk.inj he
    exact hb

theorem wCommit_keeps {d : DiskM} (h : d.off = false) {a s g : Nat} {F : Nat → Sec} {l : List PutM} (hs : 3 ≤ s) (hp : a + s ≤ d.len) (hlen : d.len ≤ 8192) (hg : g < 9223372036854775807) (hw : d.waits = []) (hr : Rest a s d.sure g F) (hm : wMay d.len a s l = true)
    {i : Nat} {v : Sec} (hi : ¬ (a ≤ i ∧ i < a + s)) (hv : d.sure i = v) (hlv : ∀ p ∈ l, p.sector.toNat = i → p.bytes = v) {r g' : Int} {d' : DiskM} (he : wCommit d a s g l = (r, g', d')) : Boots d' (fun f => f i = v) := by
  have hok := GroupOk.of hm
  have hwrap : wrap64 ((g : Int) + 1) = ((g + 1 : Nat) : Int) := by unfold wrap64; omega
  have hbody : ∀ ws : List (Nat × Sec), (∀ p ∈ ws, a < p.1 ∧ p.1 < a + s) → settle d.sure ws i = v := fun ws hws => by
    rw [settle_other _ _ _ (fun p hp => by have := hws p hp; omega)]
    exact hv
  have hb : Body d a s := by intro p hp; rw [hw] at hp; simp at hp
  obtain ⟨r1, d1, h1, g1, s1, b1, n1⟩ := wBytes_goes h hs hp hok hb l.length (Nat.le_refl _)
  by_cases hr1 : r1 = 0
  · subst hr1
    have n1 := n1 rfl
    obtain ⟨r2, d2, h2, g2, s2, b2, n2⟩ := wLists_goes (l := l) g1.on hs (by rw [g1.len]; exact hp) hok.room b1 _ (Nat.le_refl _)
    have hB : Boots d2 (fun f => f i = v) := by
      intro ws hws
      rw [s2, s1]
      exact hbody ws (fun p hp => b2 p (hws.subset hp))
    by_cases hr2 : r2 = 0
    · subst hr2
      have n2 := n2 rfl
      have hf := first_fits (a := a) hs hok.room
      have hlo : a + 1 ≤ wFirst a s := by unfold wFirst; omega
      obtain ⟨r3, d3, h3, g3, k3, b3⟩ := wBoth_goes g2.on (a := a) (s := s) (g := ((g + 1 : Nat) : Int)) (hand := (l.length : Int)) (by rw [g2.len, g1.len]; omega) hB (by
        show updS d2.now a _ i = v
        unfold updS
        rw [if_neg (by omega)]
        exact hB.now)
      rw [← hwrap] at h3
      by_cases hl0 : l.length = 0
      · rw [wCommit_both hm h1 h2 h3, if_pos (.inr hl0)] at he
        simp only [Prod.mk.injEq] at he
        obtain ⟨-, -, rfl⟩ := he
        exact b3
      · by_cases hr3 : r3 = 0
        · subst hr3
          obtain ⟨e3, e4⟩ := k3 rfl
          have hd3 : d3.len = d.len := ((g1.trans g2).trans g3).len
          have hholds : Holds d2.now a s l := by
            refine ⟨fun k hk => ?_, fun c hc => ?_⟩
            · rw [n2, if_neg (by omega), n1, if_pos (by omega), show wFirst a s + k - wFirst a s = k by omega]
            · rw [n2, if_pos (by omega), show a + 1 + c - (a + 1) = c by omega]
          have hout : ∀ i, ¬ (a ≤ i ∧ i < a + s) → d2.now i = F i := by
            intro i hi
            rw [n2, if_neg (by omega), n1, if_neg (by omega), now_quiet hw]
            exact hr.out i hi
          have hhand : Hand d.len a s (updS d2.now a (headB s ((g + 1 : Nat) : Int) (l.length : Int))) (g + 1) (applyPuts F l) l := by
            refine ⟨by unfold updS; rw [if_pos rfl], by omega, hholds.congr hs (Nat.le_refl _) hok.room (fun i h1 h2 => by unfold updS; rw [if_neg (by omega)]), hok, fun i hi => applyPuts_congr ?_⟩
            unfold updS
            rw [if_neg (by omega), hout i hi]
          have hv3 : d3.sure i = v := by
            rw [e4]
            unfold updS
            rw [if_neg (by omega)]
            exact hB.now
          cases hfe : wFinish d3 a s ((g + 1 : Nat) : Int) l.length with
          | mk r4 d4 =>
            have hk := wFinish_keeps g3.on (g := g + 1) (F := applyPuts F l) (l := l) hs (by rw [hd3]; exact hp) (by rw [hd3]; exact hlen) e3 (by rw [hd3, e4]; exact hhand) hi hv3 hlv hfe
            rw [wCommit_both hm h1 h2 h3, if_neg (by simp [hl0]), hwrap, hfe] at he
            simp only [Prod.mk.injEq] at he
            obtain ⟨-, -, rfl⟩ := he
            exact hk
        · rw [wCommit_both hm h1 h2 h3, if_pos (.inl hr3)] at he
          simp only [Prod.mk.injEq] at he
          obtain ⟨-, -, rfl⟩ := he
          exact b3
    · rw [wCommit_lists hm h1 h2 hr2 (Nat.le_refl _)] at he
      simp only [Prod.mk.injEq] at he
      obtain ⟨-, -, rfl⟩ := he
      exact hB
  · rw [wCommit_bytes hm h1 hr1 (Nat.le_refl _)] at he
    simp only [Prod.mk.injEq] at he
    obtain ⟨-, -, rfl⟩ := he
    intro ws hws
    rw [s1]
    exact hbody ws (fun p hp => b1 p (hws.subset hp))

end Go.Proofs.YtcggloceabjjdaaGreat

/- A commit under a fuse, and the sectors that it leaves; no condition. -/
namespace Go.Proofs.YtcggloceabjjdaaGreat
open Go.RowKit Go.MapKept

theorem vcommit_keeps {c p x len a s g : Nat} {k : List Nat} {F G : Nat → Sec} {d : DiskM} {R : Assn} {w : World} (h : Bears w (cvA c p x len a s F G k true * (walObj x p a s (g : Int) * (diskA p d * R)))) (hL : LogOn d a s g F) (hlen : d.len = len) (hk : Few k (roomN s))
    (hg : g < 4611686018427387904) :
    Calls Tryz.prog 59 #[.pointer (some ⟨c, 0, none⟩)] w fun e w' => ∃ r d', e = .returned (.int .i64 r) ∧ Goes d r d' ∧ (r = 0 → LogOn d' a s (g + 1) G) ∧ Boots d' (fun f => At len a s f g F ∨ At len a s f (g + 1) G) ∧ d'.waits.length < 1000000 ∧
      (∀ i v, ¬ (a ≤ i ∧ i < a + s) → F i = v → G i = v → Boots d' (fun f => f i = v)) ∧ Bears w' (diskA p d' * R) := by
  obtain ⟨cm, hV, h⟩ := Bears.cv.1 h
  obtain ⟨_, _, _, _, _, _, hwf, _⟩ := Bears.cache.1 h
  have hl := hV.length
  refine (ccommit_open h hV.opn (by have := hL.place; have := hL.len; omega) (by have := hL.place; have := hL.len; omega) (hL.few _ (by decide)) (by omega)).mono ?_
  rintro e w' ⟨l, r, g', d', hP, hc, rfl, h2⟩
  have hok := hV.pinsOk hk
  have hm : wMay d.len a s l = true := by rw [hlen]; exact hP.may hV.nodup hwf.bytes hok
  obtain ⟨r2, g2, d2, hc2, h3, h4, h5⟩ := hL.commit (by omega) hm
  have hc0 := hc
  rw [hc] at hc2
  obtain ⟨rfl, rfl, rfl⟩ : r = r2 ∧ g' = g2 ∧ d' = d2 := by simpa using hc2
  have hap := hP.apply hV.nodup (fun y hy hp => (hok.out y hy hp).2.1) F
  rw [hV.view] at hap
  rw [hap] at h4 h5
  rw [hlen] at h5
  have hw := commit_waits hc
  rw [hL.quiet] at hw
  have h6 := hP.length
  have h7 := hV.pins hk
  have h8 := room_le s
  have h9 := hL.place
  have h10 := hL.len
  refine ⟨r, d', rfl, h3, fun hr => (h4 hr).2, h5, by simp at hw; omega, fun i v hi hF hG => ?_, h2.right.right⟩
  refine wCommit_keeps hL.off hL.three hL.place hL.len (by omega) hL.quiet hL.rest hm hi (by rw [hL.rest.out i hi]; exact hF) (fun q hq hqi => ?_) hc0
  obtain ⟨y, hy, hp, e1, e2⟩ := hP.bytes q hq
  rw [← e2]
  have e3 : G i = y.b := by
    rw [← hV.view]
    exact overL_pin hV.nodup hy hp (by rw [e1]; have := ((GroupOk.of hm).ok q hq).2.1; omega)
  rw [← e3]
  exact hG

end Go.Proofs.YtcggloceabjjdaaGreat

/- Arrays of bools; a value that is built of nothing; no condition. -/
namespace Go.Proofs.YtcggloceabjjdaaGreat
open Go.RowKit Go.MapKept

def boolsV (l : List Bool) : List Value := l.map Value.bool
theorem Bears.boolCell {w : World} {b : Nat} {l : List Bool} {t : TypeId} {R : Assn} (h : Bears w (Assn.obj b (.cells (boolsV l).toArray t (0, 0)) * R)) {j : Nat} (hj : j < l.length) : w.cell? ⟨b, j, none⟩ = some (.bool (l.getD j false)) := by
  rw [cell_of_obj h.obj]
  simp [boolsV, hj]
theorem Bears.setBool {w : World} {b : Nat} {l : List Bool} {t : TypeId} {R : Assn} (h : Bears w (Assn.obj b (.cells (boolsV l).toArray t (0, 0)) * R)) (j : Nat) (c : Bool) :
    Bears (w.setCell ⟨b, j, none⟩ (.bool c)) (Assn.obj b (.cells (boolsV (l.set j c)).toArray t (0, 0)) * R) :=
  (h.setCell (i := j) (.bool c)).cast (by simp [boolsV, List.map_set])
theorem oneCell_bools (l : List Bool) : ∀ v ∈ boolsV l, v.oneCell' = true := by
  intro v hv
  obtain ⟨u, _, rfl⟩ := List.mem_map.1 hv
  rfl
theorem exec_build0 {P : Program} {ev : Operand → Value} {o : Oper} {t : TypeId} {v : Value} {w : World} (ho : o.op = .build t #[]) (h : (Instr.build t #[]).run P w = .ok v w) : (execOp ev o).run P w = .ok (.value v) w := by
  unfold execOp
  simp only [ho, List.map_toArray, List.map_nil, Sem.run_bind, h, Result.andThen_ok]
  rfl
theorem wpList_load_range {P : Program} {w : World} {ops : Array Oper} {rest : List Oper} {o : Oper} {a : Act} {Q : Exit → Act → World → Prop} (ty : TypeId) (x : Operand) (hg : o.guard = none) (ho : o.op = .load ty x) (b off : Nat) (hx : a.eval x = .pointer (some ⟨b, off, none⟩)) (cs : List Value) (d : TypeDesc) (hc : w.rangeAt b off cs)
    (hu : P.underlying ty = some d) (hd : d.isRow = true) (hi : (P.info? ty).map (·.size) = some cs.length)
    (h : wpList P ops Q rest (a.put o.dst (.agg cs.toArray)) w) : wpList P ops Q (o :: rest) a w := by
  refine wpList_plain hg fun _ hK' => ?_
  unfold Oper.wp execOp
  simp only [ho, hx, Instr.loadAt, Instr.sureAddr, Sem.run_bind, Sem.run_pure, Result.andThen_ok, run_loadVar_mid w b off ty cs d hc hu hd hi]
  exact hK' _ _ h

end Go.Proofs.YtcggloceabjjdaaGreat

/- Walks of the space's functions, part 1: First, super; no condition. -/
namespace Go.Proofs.YtcggloceabjjdaaGreat
open Go.RowKit Go.MapKept

/-- The number of the first block; 0: no space can be. -/
def firstN (n : Int) : Int := if n < 1024 ∨ 8192 < n then 0 else 621 + (n + 511) / 512 + 128

theorem first_any (n : Int) (w : World) (hn : -9223372036854775808 ≤ n ∧ n ≤ 9223372036854775807) :
    Calls Tryz.prog 27 #[.int .i64 n] w fun e w' => e = .returned (.int .i64 (firstN n)) ∧ w = w' := by
  by_cases h : n < 1024 ∨ 8192 < n
  · have e1 : firstN n = 0 := by unfold firstN; rw [if_pos h]
    rw [e1]
    by_cases h1 : n < 1024
    · have d1 : decide (n < 1024) = true := decide_eq_true h1
      go_enter Tryz.func27, Tryz.ntmps27
      go_wp2
      go_ret
      exact ⟨rfl, rfl⟩
    · have d1 : decide (n < 1024) = false := decide_eq_false h1
      have d2 : decide (8192 < n) = true := decide_eq_true (by omega)
      go_enter Tryz.func27, Tryz.ntmps27
      go_wp2
      go_ret
      exact ⟨rfl, rfl⟩
  · have e1 : firstN n = 621 + (n + 511) / 512 + 128 := by unfold firstN; rw [if_neg h]
    rw [e1]
    have d1 : decide (n < 1024) = false := decide_eq_false (by omega)
    have d2 : decide (8192 < n) = false := decide_eq_false (by omega)
    have q1 : (n + 512 - 1).tdiv 512 = (n + 512 - 1) / 512 := Int.tdiv_eq_ediv_of_nonneg (by omega)
    clear e1
    go_enter Tryz.func27, Tryz.ntmps27
    go_wp2
    go_ret
    refine ⟨?_, rfl⟩
    show Ending.returned (.int .i64 (621 + (n + 512 - 1) / 512 + 128)) = _
    rw [show n + 512 - 1 = n + 511 by omega]

theorem results_cell {fn : Func} {p : Tmp} {ty : TypeId} (h : fn.results = #[.cell p ty]) (tmps : Array Value) {P : Program} {w : World} {a : Addr} {v : Value} (hp : tmps.getD p undef = .pointer (some a)) (hv : (loadVar ty a).run P w = .ok v w) :
    (results fn tmps).run P w = .ok v w := by
  have hp' : tmps[p]?.getD undef = .pointer (some a) := by simpa using hp
  simp only [results, h]
  simp [hp', asAddr, hv]

def markS : List UInt8 := [101, 115, 116, 97, 102, 101, 116, 116, 101, 58, 115, 112, 97, 99, 101]
def superB (n : Nat) : Sec := markS ++ (UInt8.ofNat (n / 256) :: UInt8.ofNat n :: List.replicate 47 0)
theorem superB_length (n : Nat) : (superB n).length = 64 := by simp [superB, markS]
theorem z_asec (w : World) : (zeroValue 71).run Tryz.prog w = .ok (secV zeroSec) w := by kernel_rfl
theorem i_asec : (Tryz.prog.info? 71).map (·.size) = some 64 := by kernel_rfl
theorem u_asec : Tryz.prog.underlying 71 = some (.array 64 5) := by kernel_rfl

theorem copy_markS {w : World} {g : Nat} {l : List UInt8} {t : TypeId} {R : Assn} (h : Bears w (Assn.obj g (.cells (cellsV l).toArray t (0, 0)) * R)) (hl : l.length = 64) :
    ∃ w', (Builtin.copy_ #[34, 9] 3 #[.slice (some ⟨g, 0, none⟩) 64 64, .string ⟨#[101, 115, 116, 97, 102, 101, 116, 116, 101, 58, 115, 112, 97, 99, 101]⟩]).run Tryz.prog w = .ok (goInt 15) w' ∧
      Bears w' (Assn.obj g (.cells (cellsV (putAt l 0 markS)).toArray t (0, 0)) * R) := by
  have hz : ∀ w, (Go.sizeOf 5).run Tryz.prog w = .ok 1 w := fun w => by kernel_rfl
  refine ⟨_, run_copy_string (P := Tryz.prog) w 34 9 3 5 g 0 64 64 ⟨#[101, 115, 116, 97, 102, 101, 116, 116, 101, 58, 115, 112, 97, 99, 101]⟩ Tryz.underlying34 hz (by decide)
    (fun j hj => by rw [Nat.zero_add, cell_of_obj h.obj]; have : j < 15 := hj; simp [hl]; omega) (fun j hj => frozen_of_obj h.obj _), ?_⟩
  have h2 := h.setCells 0 (cellsV markS)
  rw [setList_cellsV (by rw [hl]; decide)] at h2
  exact h2

set_option maxRecDepth 100000 in
set_option maxHeartbeats 800000 in
theorem super_any {R : Assn} {w : World} (h : Bears w R) (n : Nat) (hn : n < 65536) :
    Calls Tryz.prog 39 #[.int .i64 n] w fun e w' => e = .returned (secV (superB n)) ∧ Bears w' R := by
  have hzl : zeroSec.length = 64 := rfl
  have hz : ∀ w, (zeroValue 71).run Tryz.prog w = .ok (secV zeroSec) w := z_asec
  have he : superB n = ((putAt zeroSec 0 markS).set 15 (UInt8.ofNat (n / 256))).set 16 (UInt8.ofNat n) := by
    unfold superB
    generalize UInt8.ofNat (n / 256) = x
    generalize UInt8.ofNat n = y
    rfl
  rw [he]
  generalize zeroSec = z at hz hzl
  have h1 := h.alloc (.cells (cellsV z).toArray 71)
  have h2 := h1.alloc (.cells (cellsV z).toArray 71)
  rw [show (w.alloc (.cells (cellsV z).toArray 71)).heap.size = w.heap.size + 1 from Array.size_push _] at h2
  obtain ⟨w3, hcp, h3⟩ := copy_markS h2 hzl
  have l1 : (putAt z 0 markS).length = 64 := by rw [putAt_length (by rw [hzl]; decide)]; exact hzl
  generalize putAt z 0 markS = z1 at l1 h3
  have hx : byteV (UInt8.ofNat (n / 256)) = .int .u8 ((n : Int) / 256) := by
    unfold byteV
    congr 1
    rw [UInt8.toNat_ofNat_of_lt' (by show n / 256 < 256; omega)]
    try omega
  have hy : byteV (UInt8.ofNat n) = .int .u8 ((n : Int) % 256) := by
    unfold byteV
    rw [UInt8.toNat_ofNat']
    rfl
  have q15 := h3.byteCell (j := 15) (by omega)
  have f15 := frozen_of_obj h3.obj 15
  have h4 := h3.setByte 15 (UInt8.ofNat (n / 256))
  rw [hx] at h4
  have q16 := h4.byteCell (j := 16) (by simp; omega)
  have f16 := frozen_of_obj h4.obj 16
  have h5 := h4.setByte 16 (UInt8.ofNat n)
  rw [hy] at h5
  have l2 : ((z1.set 15 (UInt8.ofNat (n / 256))).set 16 (UInt8.ofNat n)).length = 64 := by simp [l1]
  generalize (z1.set 15 (UInt8.ofNat (n / 256))).set 16 (UInt8.ofNat n) = L at h5 l2 ⊢
  have hr := rangeAt_of_obj h5.obj
  have hsz : (cellsV L).toArray.size = (cellsV z).toArray.size := by simp [l2, hzl]
  have hin : (Tryz.prog.info? 71).map (·.size) = some (cellsV z).toArray.size := by simpa [hzl] using i_asec
  have hon : ∀ v ∈ (cellsV L).toArray.toList, v.oneCell' = true := fun v hv => oneCell_cellsV _ v (by simpa using hv)
  have hcl : (Tryz.prog.info? 71).map (·.size) = some (cellsV L).length := by rw [length_cellsV, l2]; exact i_asec
  clear h h1 h2 h3 he hx hy h4
  generalize z1.getD 15 0 = o15 at q15
  generalize (z1.set 15 (UInt8.ofNat (n / 256))).getD 16 0 = o16 at q16
  go_enter Tryz.func39, Tryz.ntmps39
  go_wp2_with (first
    | (refine wpList_alloc_z rfl rfl (hz _) ?_)
    | (refine wpList_op rfl (exec_copy rfl rfl rfl hcp) ?_)
    | (refine wpList_load_range 71 _ rfl rfl (w.heap.size + 1) 0 rfl (cellsV L) _ hr u_asec rfl hcl ?_)
    | (refine wpList_store_obj h5.pull2 rfl rfl rfl rfl hsz hin hon ?_; intro w6 h6))
  have hr6 := rangeAt_of_obj h6.obj
  refine bodyPost_ret (results_cell rfl _ rfl (run_loadVar_mid w6 w.heap.size 0 71 (cellsV L) _ hr6 u_asec rfl hcl)) rfl ?_
  exact ⟨rfl, h6.right.right⟩

end Go.Proofs.YtcggloceabjjdaaGreat

/- Walks of the space's functions, part 2: bit, set; no condition. -/
namespace Go.Proofs.YtcggloceabjjdaaGreat
open Go.RowKit Go.MapKept

def mapsN (len : Nat) : Nat := (len + 511) / 512
def firstB (len : Nat) : Nat := 621 + mapsN len + 128
theorem firstN_eq {len : Nat} (h1 : 1024 ≤ len) (h2 : len ≤ 8192) : firstN (len : Int) = firstB len := by
  unfold firstN firstB mapsN
  rw [if_neg (by omega)]
  omega
abbrev spObj (s c x len : Nat) : Assn :=
  Assn.obj s (.cells #[.pointer (some ⟨c, 0, none⟩), .pointer (some ⟨x, 0, none⟩), .int .i64 (mapsN len), .int .i64 (firstB len), .int .i64 ((len - firstB len : Nat) : Int)] 80 (0, 0))
/-- A disk with a space on it, at rest but for what is at hand. -/
structure SpOk (len : Nat) (d : DiskM) (g : Nat) (F G : Nat → Sec) : Prop where
  log : LogOn d 1 620 g F
  size : d.len = len
  lo : 1024 ≤ len
  hi : len ≤ 8192
  f64 : ∀ i, (F i).length = 64
  g64 : ∀ i, (G i).length = 64
/-- A space: g groups were done, k sectors are pinned at the most, F is what was laid down, G what is at hand. -/
def spA (s p : Nat) (d : DiskM) (len g : Nat) (k : List Nat) (op : Bool) (F G : Nat → Sec) : Assn :=
  Assn.ex fun (z : Nat × Nat) => Assn.fact (SpOk len d g F G) * (spObj s z.1 z.2 len * (cvA z.1 p z.2 len 1 620 F G k op * (walObj z.2 p 1 620 (g : Int) * diskA p d)))
theorem Bears.sp {w : World} {s p len g : Nat} {k : List Nat} {d : DiskM} {op : Bool} {F G : Nat → Sec} {R : Assn} : Bears w (spA s p d len g k op F G * R) ↔
    ∃ c x, SpOk len d g F G ∧ Bears w (spObj s c x len * (cvA c p x len 1 620 F G k op * (diskA p d * (walObj x p 1 620 (g : Int) * R)))) := by
  unfold spA
  rw [Bears.ex]
  simp only [Assn.mul_assoc']
  constructor
  · rintro ⟨⟨c, x⟩, h⟩
    obtain ⟨h1, h⟩ := Bears.fact.1 h
    exact ⟨c, x, h1, h.c34⟩
  · rintro ⟨c, x, h1, h⟩
    exact ⟨⟨c, x⟩, Bears.fact.2 ⟨h1, h.c34⟩⟩
theorem sp_cells {w : World} {s c x len : Nat} {R : Assn} (h : Bears w (spObj s c x len * R)) :
    w.cell? ⟨s, 0, none⟩ = some (.pointer (some ⟨c, 0, none⟩)) ∧ w.cell? ⟨s, 1, none⟩ = some (.pointer (some ⟨x, 0, none⟩)) ∧ w.cell? ⟨s, 2, none⟩ = some (.int .i64 (mapsN len)) ∧
      w.cell? ⟨s, 3, none⟩ = some (.int .i64 (firstB len)) ∧ w.cell? ⟨s, 4, none⟩ = some (.int .i64 ((len - firstB len : Nat) : Int)) :=
  ⟨cell_of_obj h.obj 0, cell_of_obj h.obj 1, cell_of_obj h.obj 2, cell_of_obj h.obj 3, cell_of_obj h.obj 4⟩
theorem Bears.spOk {w : World} {s p len g : Nat} {k : List Nat} {d : DiskM} {op : Bool} {F G : Nat → Sec} {R : Assn} (h : Bears w (spA s p d len g k op F G * R)) : 1024 ≤ len ∧ len ≤ 8192 := by
  obtain ⟨_, _, hok, _⟩ := Bears.sp.1 h
  exact ⟨hok.lo, hok.hi⟩

theorem Bears.sp64 {w : World} {s p len g : Nat} {k : List Nat} {d : DiskM} {op : Bool} {F G : Nat → Sec} {R : Assn} (h : Bears w (spA s p d len g k op F G * R)) (i : Nat) : (G i).length = 64 := by
  obtain ⟨_, _, hok, _⟩ := Bears.sp.1 h
  exact hok.g64 i
theorem upd64 {G : Nat → Sec} (h : ∀ i, (G i).length = 64) (i : Nat) {b : Sec} (hb : b.length = 64) (j : Nat) : (updS G i b j).length = 64 := by
  unfold updS
  split
  · exact hb
  · exact h j
theorem SpOk.put {len g : Nat} {d : DiskM} {F G : Nat → Sec} (h : SpOk len d g F G) (i : Nat) {b : Sec} (hb : b.length = 64) : SpOk len d g F (updS G i b) :=
  ⟨h.log, h.size, h.lo, h.hi, h.f64, upd64 h.g64 i hb⟩

/-- A sector that is not the log's, read through the space's cache. -/
theorem sread_any {s c x p len g : Nat} {k : List Nat} {op : Bool} {F G : Nat → Sec} {d : DiskM} {R : Assn} {w : World} {i : Int} (hok : SpOk len d g F G) (h : Bears w (spObj s c x len * (cvA c p x len 1 620 F G k op * (diskA p d * (walObj x p 1 620 (g : Int) * R)))))
    (hi : 621 ≤ i) (hi2 : i < len) {r : Sec} (hr : G i.toNat = r) :
    Calls Tryz.prog 62 #[.pointer (some ⟨c, 0, none⟩), .int .i64 i] w fun e w' => ∃ ad cap, e = .returned (.tuple #[.slice ad 64 cap, .int .i64 0]) ∧
      Bears w' (rowA 5 1 (.slice ad 64 cap) 64 (cellsV r) * (spObj s c x len * (cvA c p x len 1 620 F G k op * (diskA p d * (walObj x p 1 620 (g : Int) * R))))) := by
  refine (vread_any (r := r) h.push3 hok.log hok.size (by omega) hi2 (by omega) hr).mono ?_
  rintro e w' ⟨ad, cap, rfl, h2⟩
  exact ⟨ad, cap, rfl, h2.cast (by ac_rfl)⟩

set_option maxRecDepth 100000 in
set_option maxHeartbeats 400000 in
theorem bit_any {s p len g : Nat} {k : List Nat} {d : DiskM} {op : Bool} {F G : Nat → Sec} {R : Assn} {w : World} (h : Bears w (spA s p d len g k op F G * R)) (n : Nat) (hn : n < len) {r : Sec} (hr : G (621 + n / 512) = r) :
    Calls Tryz.prog 93 #[.pointer (some ⟨s, 0, none⟩), .int .i64 n] w fun e w' => ∃ ad cap, e = .returned (.tuple #[.slice ad 64 cap, .int .i64 ((n / 512 : Nat) : Int), .int .i64 0]) ∧
      Bears w' (rowA 5 1 (.slice ad 64 cap) 64 (cellsV r) * (spA s p d len g k op F G * R)) := by
  obtain ⟨c, x, hok, h0⟩ := Bears.sp.1 h
  obtain ⟨c0, c1, c2, c3, c4⟩ := sp_cells h0
  have hlo := hok.lo
  have hhi := hok.hi
  have hf : 621 + n / 512 < len := by omega
  have hq : (n : Int).tdiv 512 = ((n / 512 : Nat) : Int) := by rw [Int.tdiv_eq_ediv_of_nonneg (by omega)]; omega
  obtain ⟨m, hm⟩ : ∃ m, n / 512 = m := ⟨_, rfl⟩
  rw [hm] at hq hf hr ⊢
  have hq2 : (n : Int) / 512 = (m : Int) := by omega
  have hsr := sread_any (i := 621 + (m : Int)) hok h0 (by omega) (by omega) (r := r) (by rw [show (621 + (m : Int)).toNat = 621 + m by omega]; exact hr)
  have Hok := Lib.hid hok
  clear hok hr hm h h0 c1 c2 c3 c4 hf
  go_enter Tryz.func93, Tryz.ntmps93
  go_wp2_with fail
  refine hsr.mono ?_
  rintro e w1 ⟨ad, cap, rfl, h1⟩
  go_wp2_with fail
  go_ret3
  exact ⟨ad, cap, rfl, Bears.pull2 (Bears.sp.2 ⟨c, x, Hok.out, h1.cast (by ac_rfl)⟩)⟩

end Go.Proofs.YtcggloceabjjdaaGreat

/- Walks of the space's functions, part 3: a byte of a row; bits; set; no condition. -/
namespace Go.Proofs.YtcggloceabjjdaaGreat
open Go.RowKit Go.MapKept

theorem andNot_bit : ∀ (cn : Fin 256) (b : Fin 8), bits BinOp.andNot IntKind.u8 ((cn.val : Nat) : Int) ((2 : Int) ^ b.val % 256) = ((cn.val - (if cn.val.testBit b.val then 2 ^ b.val else 0) : Nat) : Int) := by decide +kernel
theorem or_bit : ∀ (cn : Fin 256) (b : Fin 8), bits BinOp.or IntKind.u8 ((cn.val - (if cn.val.testBit b.val then 2 ^ b.val else 0) : Nat) : Int) ((2 : Int) ^ b.val % 256) = ((cn.val - (if cn.val.testBit b.val then 2 ^ b.val else 0) + 2 ^ b.val : Nat) : Int) := by decide +kernel
theorem bit_small : ∀ (cn : Fin 256) (b : Fin 8), cn.val - (if cn.val.testBit b.val then 2 ^ b.val else 0) + 2 ^ b.val < 256 := by decide +kernel

/-- A byte's bit, set or cleared. -/
def bitSet (c : UInt8) (j : Nat) (u : Bool) : UInt8 := UInt8.ofNat ((c.toNat - (if c.toNat.testBit j then 2 ^ j else 0)) + (if u then 2 ^ j else 0))
theorem bitSet_false {c : UInt8} {j : Nat} (hj : j < 8) : ((bitSet c j false).toNat : Int) = bits BinOp.andNot IntKind.u8 (c.toNat : Int) ((2 : Int) ^ j % 256) := by
  have h := andNot_bit ⟨c.toNat, c.toNat_lt⟩ ⟨j, hj⟩
  have h2 := bit_small ⟨c.toNat, c.toNat_lt⟩ ⟨j, hj⟩
  simp only at h h2
  rw [h]
  unfold bitSet
  have h3 := c.toNat_lt
  rw [UInt8.toNat_ofNat_of_lt' (by
    simp only [Bool.false_eq_true, if_false]
    show _ < 256
    generalize (if c.toNat.testBit j = true then 2 ^ j else 0) = q
    omega)]
  simp
theorem bitSet_true {c : UInt8} {j : Nat} (hj : j < 8) : ((bitSet c j true).toNat : Int) = bits BinOp.or IntKind.u8 (bits BinOp.andNot IntKind.u8 (c.toNat : Int) ((2 : Int) ^ j % 256)) ((2 : Int) ^ j % 256) := by
  have h := andNot_bit ⟨c.toNat, c.toNat_lt⟩ ⟨j, hj⟩
  have h1 := or_bit ⟨c.toNat, c.toNat_lt⟩ ⟨j, hj⟩
  have h2 := bit_small ⟨c.toNat, c.toNat_lt⟩ ⟨j, hj⟩
  simp only at h h1 h2
  rw [h, h1]
  unfold bitSet
  rw [UInt8.toNat_ofNat_of_lt' (by simp only [if_true]; exact h2)]
  simp
def secSet (s : Sec) (k : Nat) (u : Bool) : Sec := s.set (k / 8) (bitSet (s.getD (k / 8) 0) (k % 8) u)
def bitOf (s : Sec) (k : Nat) : Bool := (s.getD (k / 8) 0).toNat.testBit (k % 8)

set_option maxRecDepth 100000 in
set_option maxHeartbeats 1000000 in
theorem set_any {s p len g : Nat} {k : List Nat} {d : DiskM} {F G : Nat → Sec} {R : Assn} {w : World} (h : Bears w (spA s p d len g k true F G * R)) (n : Nat) (hn : n < len) (u : Bool) {r : Sec} (hr : G (621 + n / 512) = r) :
    Calls Tryz.prog 68 #[.pointer (some ⟨s, 0, none⟩), .int .i64 n, .bool u] w fun e w' => e = .returned (.int .i64 0) ∧ Bears w' (spA s p d len g ((621 + n / 512) :: k) true F (updS G (621 + n / 512) (secSet r (n % 512) u)) * R) := by
  have hr64 : r.length = 64 := by rw [← hr]; exact h.sp64 _
  have hb := bit_any h n hn hr
  obtain ⟨m, hm⟩ : ∃ m, n / 512 = m := ⟨_, rfl⟩
  obtain ⟨j, hj⟩ : ∃ j, n % 512 = j := ⟨_, rfl⟩
  rw [hm] at hb
  rw [hm, hj]
  have hj512 : j < 512 := by omega
  have q1 : (n : Int).tmod 512 = (j : Int) := by rw [Int.tmod_eq_emod_of_nonneg (by omega)]; omega
  have q1' : (n : Int) % 512 = (j : Int) := by omega
  obtain ⟨a, ha⟩ : ∃ a, j / 8 = a := ⟨_, rfl⟩
  obtain ⟨b, hb8⟩ : ∃ b, j % 8 = b := ⟨_, rfl⟩
  have q2 : (j : Int).tdiv 8 = (a : Int) := by rw [Int.tdiv_eq_ediv_of_nonneg (by omega)]; omega
  have q2' : (j : Int) / 8 = (a : Int) := by omega
  have q3 : (j : Int).tmod 8 = (b : Int) := by rw [Int.tmod_eq_emod_of_nonneg (by omega)]; omega
  have q3' : (j : Int) % 8 = (b : Int) := by omega
  have ha64 : a < 64 := by omega
  have ha64i : (a : Int) < 64 := by omega
  have r1 : IntKind.i64.wrap (a : Int) = (a : Int) := IntWalk.i64_in _ (by omega)
  have r2 : IntKind.i64.wrap (b : Int) = (b : Int) := IntWalk.i64_in _ (by omega)
  have r3 : IntKind.i64.wrap (j : Int) = (j : Int) := IntWalk.i64_in _ (by omega)
  have hb7 : b < 8 := by omega
  have hm16 : m ≤ 16 := by have := h.spOk; omega
  have Hr := Lib.hid hr
  have H64 := Lib.hid hr64
  have Ha := Lib.hid ha
  have Hb := Lib.hid hb8
  have Hm := Lib.hid hm
  have Hj := Lib.hid hj
  clear hr hr64 ha hb8 hm hj h
  go_enter Tryz.func68, Tryz.ntmps68
  go_wp2_with fail
  refine hb.mono ?_
  rintro e w1 ⟨ad, cap, rfl, h1⟩
  obtain ⟨rg, rfl, _⟩ := h1.rowAt (k := 0) (by omega)
  obtain ⟨cb, hcb⟩ : ∃ cb, r.getD a 0 = cb := ⟨_, rfl⟩
  have hcell := h1.rowCell (i := a) ha64 (v := byteV cb) (by simp [cellsV, H64.out, ha64, ← hcb])
  have hfr := h1.rowFrozen a
  unfold byteV at hcell
  obtain ⟨cn, hcn⟩ : ∃ cn, cb.toNat = cn := ⟨_, rfl⟩
  rw [hcn] at hcell
  have hcn8 : cn < 256 := by rw [← hcn]; exact cb.toNat_lt
  have Hcn := Lib.hid hcn
  have Hcb := Lib.hid hcb
  clear hcn hcb hb
  go_wp2_with fail
  have hcell' : w1.drew.cell? ⟨rg, a, none⟩ = some (.int .u8 (cn : Int)) := hcell
  have hfr' : w1.drew.frozen? ⟨rg, a, none⟩ = false := hfr
  have hb0 : (b : Int) < 8 := by omega
  obtain ⟨x1, hx1⟩ : ∃ x1, bits BinOp.andNot IntKind.u8 (cn : Int) ((2 : Int) ^ b % 256) = x1 := ⟨_, rfl⟩
  have e1 : (((bitSet cb b false).toNat : Nat) : Int) = x1 := by rw [bitSet_false hb7, Hcn.out, hx1]
  have h2 := h1.rowSet ha64 (.int .u8 x1)
  have E1 := Lib.hid e1
  have Hx1 := Lib.hid hx1
  clear e1
  cases u with
  | false =>
    have h3 : Bears _ (spA s p d len g k true F G * (rowA 5 1 (.slice (some ⟨rg, 0, none⟩) 64 cap) 64 (cellsV (secSet r j false)) * R)) := h2.drew.pull2.cast (by
      unfold secSet
      rw [Ha.out, Hb.out, Hcb.out, ← E1.out]
      simp [cellsV, List.map_set, byteV])
    obtain ⟨c, x, hok, h4⟩ := Bears.sp.1 h3
    obtain ⟨k0, _, _, _, _⟩ := sp_cells h4
    have h5 := h4.push3
    have Hok := Lib.hid hok
    have hwr := vwrite_any (i := 621 + (m : Int)) (b := secSet r j false) (ad := some ⟨rg, 0, none⟩) (n := 64) (cap := cap) h5 hok.size (fun w' hw' => rowA_bytes (by simp [secSet, H64.out]) _ hw'.right.right) (by simp [secSet, H64.out]) (by omega) (by have := Hm.out; have := hok.lo; omega) (by omega)
    rw [show (621 + (m : Int)).toNat = 621 + m by omega] at hwr
    clear hok h4 h5
    refine wp_region_tail 9 (by kernel_rfl) (by kernel_rfl) ?_
    simp only [List.take_succ_cons, List.take_zero, List.drop_succ_cons, List.drop_zero]
    iterate 9 still_step
    refine wpStill_nil ?_
    go_wp2_with fail
    refine hwr.mono ?_
    rintro e w9 ⟨rfl, h9⟩
    go_wp2_with fail
    go_ret
    exact ⟨rfl, Bears.sp.2 ⟨c, x, Hok.out.put _ (by simp [secSet, H64.out]), (h9.cast (by ac_rfl) : Bears _ (rowA 5 1 _ 64 _ * (spObj s c x len * (cvA c p x len 1 620 F _ (_ :: k) true * (diskA p d * (walObj x p 1 620 (g : Int) * R)))))).right⟩⟩
  | true =>
    refine wp_region_tail 9 (by kernel_rfl) (by kernel_rfl) ?_
    simp only [List.take_succ_cons, List.take_zero, List.drop_succ_cons, List.drop_zero]
    iterate 9 still_step
    refine wpStill_nil ?_
    go_wp2_with fail
    have hcell2 := h2.rowCell (i := a) ha64 (v := .int .u8 x1) (by simp [cellsV, H64.out, ha64])
    have hfr2 := h2.rowFrozen a
    have hcell2' : (w1.setCell ⟨rg, a, none⟩ (.int .u8 x1)).drew.drew.cell? ⟨rg, a, none⟩ = some (.int .u8 x1) := hcell2
    have hfr2' : (w1.setCell ⟨rg, a, none⟩ (.int .u8 x1)).drew.drew.frozen? ⟨rg, a, none⟩ = false := hfr2
    obtain ⟨x2, hx2⟩ : ∃ x2, bits BinOp.or IntKind.u8 x1 ((2 : Int) ^ b % 256) = x2 := ⟨_, rfl⟩
    have e2 : (((bitSet cb b true).toNat : Nat) : Int) = x2 := by rw [bitSet_true hb7, Hcn.out, Hx1.out, hx2]
    have h2b := (h2.rowSet ha64 (.int .u8 x2)).drew.drew
    have E2 := Lib.hid e2
    clear e2
    have h3 : Bears _ (spA s p d len g k true F G * (rowA 5 1 (.slice (some ⟨rg, 0, none⟩) 64 cap) 64 (cellsV (secSet r j true)) * R)) := h2b.pull2.cast (by
      unfold secSet
      rw [Ha.out, Hb.out, Hcb.out, ← E2.out]
      simp [cellsV, List.map_set, byteV])
    obtain ⟨c, x, hok, h4⟩ := Bears.sp.1 h3
    obtain ⟨k0, _, _, _, _⟩ := sp_cells h4
    have h5 := h4.push3
    have Hok := Lib.hid hok
    have hwr := vwrite_any (i := 621 + (m : Int)) (b := secSet r j true) (ad := some ⟨rg, 0, none⟩) (n := 64) (cap := cap) h5 hok.size (fun w' hw' => rowA_bytes (by simp [secSet, H64.out]) _ hw'.right.right) (by simp [secSet, H64.out]) (by omega) (by have := Hm.out; have := hok.lo; omega) (by omega)
    rw [show (621 + (m : Int)).toNat = 621 + m by omega] at hwr
    clear hok h4 h5
    refine wp_region_tail 9 (by kernel_rfl) (by kernel_rfl) ?_
    simp only [List.take_succ_cons, List.take_zero, List.drop_succ_cons, List.drop_zero]
    iterate 9 still_step
    refine wpStill_nil ?_
    go_wp2_with fail
    refine hwr.mono ?_
    rintro e w9 ⟨rfl, h9⟩
    go_wp2_with fail
    go_ret
    exact ⟨rfl, Bears.sp.2 ⟨c, x, Hok.out.put _ (by simp [secSet, H64.out]), (h9.cast (by ac_rfl) : Bears _ (rowA 5 1 _ 64 _ * (spObj s c x len * (cvA c p x len 1 620 F _ (_ :: k) true * (diskA p d * (walObj x p 1 620 (g : Int) * R)))))).right⟩⟩

end Go.Proofs.YtcggloceabjjdaaGreat

/- Walks of the space's functions, part 4: check, busy, Begin, Commit, Abort, Groups; no condition. -/
namespace Go.Proofs.YtcggloceabjjdaaGreat
open Go.RowKit Go.MapKept

theorem shr_bit : ∀ (cn : Fin 256) (b : Fin 8), (bits BinOp.and IntKind.u8 (((cn.val : Nat) : Int) / (2 : Int) ^ b.val) 1 == 0) = !cn.val.testBit b.val := by decide +kernel

/-- What is wrong with a block. -/
def chkN (len : Nat) (G : Nat → Sec) (n : Int) : Int :=
  if n < firstB len ∨ (len : Int) ≤ n then 40 else if bitOf (G (621 + n.toNat / 512)) (n.toNat % 512) = true then 0 else 41

set_option maxRecDepth 100000 in
set_option maxHeartbeats 1000000 in
theorem check_any' {s p len g : Nat} {k : List Nat} {d : DiskM} {op : Bool} {F G : Nat → Sec} {R : Assn} {w : World} (h : Bears w (spA s p d len g k op F G * R)) (n : Int) :
    Calls Tryz.prog 61 #[.pointer (some ⟨s, 0, none⟩), .int .i64 n] w fun e w' => e = .returned (.int .i64 (chkN len G n)) ∧ Bears w' (spA s p d len g k op F G * R) := by
  obtain ⟨hlo, hhi⟩ := h.spOk
  have hfl : firstB len ≤ len := by unfold firstB mapsN; omega
  obtain ⟨c, x, hok, h0⟩ := Bears.sp.1 h
  have hwr : IntKind.i64.wrap ((firstB len : Int) + ((len - firstB len : Nat) : Int)) = (len : Int) := by rw [IntWalk.i64_in _ (by omega)]; omega
  have hgd := h.drew
  by_cases h1 : n < (firstB len : Int)
  · have e1 : chkN len G n = 40 := by unfold chkN; rw [if_pos (.inl h1)]
    rw [e1]
    have hd1 : decide (n < (firstB len : Int)) = true := decide_eq_true h1
    clear hok e1 hfl hlo hhi h1 hwr
    go_enter Tryz.func61, Tryz.ntmps61
    go_wp2_with fail
    refine wp_region_L (fun w' => ∃ Q, Bears w' (spObj s c x len * Q)) 19 [(true, 0), (true, 1), (true, 2), (true, 3), (true, 4), (true, 5), (true, 6), (true, 7), (true, 8), (true, 9), (true, 10), (true, 11), (true, 12), (true, 13), (true, 14), (true, 15), (true, 16), (true, 17), (true, 18)] [] (by kernel_rfl) (by kernel_rfl) ⟨_, h0.drew⟩ ?_
    simp only [pick, List.getElem?_cons_zero, List.getElem?_cons_succ]
    refine wpL_guarded (v := ?_) rfl (fun w' hS => ?_) ?_
    rotate_left
    · (obtain ⟨_, hS⟩ := hS; obtain ⟨_, _, _, c3, c4⟩ := sp_cells hS; go_simp; try with_reducible rfl)
    simp only [Act.put, List.setIfInBounds_toArray, List.set_cons_zero, List.set_cons_succ]
    refine wpL_guarded (v := ?_) rfl (fun w' hS => ?_) ?_
    rotate_left
    · (obtain ⟨_, hS⟩ := hS; obtain ⟨_, _, _, c3, c4⟩ := sp_cells hS; go_simp; try with_reducible rfl)
    simp only [Act.put, List.setIfInBounds_toArray, List.set_cons_zero, List.set_cons_succ]
    refine wpL_guarded (v := ?_) rfl (fun w' hS => ?_) ?_
    rotate_left
    · (obtain ⟨_, hS⟩ := hS; obtain ⟨_, _, _, c3, c4⟩ := sp_cells hS; go_simp; try with_reducible rfl)
    simp only [Act.put, List.setIfInBounds_toArray, List.set_cons_zero, List.set_cons_succ]
    refine wpL_guarded (v := ?_) rfl (fun w' hS => ?_) ?_
    rotate_left
    · (obtain ⟨_, hS⟩ := hS; obtain ⟨_, _, _, c3, c4⟩ := sp_cells hS; go_simp; try with_reducible rfl)
    simp only [Act.put, List.setIfInBounds_toArray, List.set_cons_zero, List.set_cons_succ]
    refine wpL_guarded (v := ?_) rfl (fun w' hS => ?_) ?_
    rotate_left
    · (obtain ⟨_, hS⟩ := hS; obtain ⟨_, _, _, c3, c4⟩ := sp_cells hS; go_simp; try with_reducible rfl)
    simp only [Act.put, List.setIfInBounds_toArray, List.set_cons_zero, List.set_cons_succ]
    refine wpL_guarded (v := ?_) rfl (fun w' hS => ?_) ?_
    rotate_left
    · (obtain ⟨_, hS⟩ := hS; obtain ⟨_, _, _, c3, c4⟩ := sp_cells hS; go_simp; try with_reducible rfl)
    simp only [Act.put, List.setIfInBounds_toArray, List.set_cons_zero, List.set_cons_succ]
    refine wpL_guarded (v := ?_) rfl (fun w' hS => ?_) ?_
    rotate_left
    · (obtain ⟨_, hS⟩ := hS; obtain ⟨_, _, _, c3, c4⟩ := sp_cells hS; go_simp; try with_reducible rfl)
    simp only [Act.put, List.setIfInBounds_toArray, List.set_cons_zero, List.set_cons_succ]
    refine wpL_skip rfl ?_
    simp only [Act.put, List.setIfInBounds_toArray, List.set_cons_zero, List.set_cons_succ]
    refine wpL_skip rfl ?_
    simp only [Act.put, List.setIfInBounds_toArray, List.set_cons_zero, List.set_cons_succ]
    refine wpL_skip rfl ?_
    simp only [Act.put, List.setIfInBounds_toArray, List.set_cons_zero, List.set_cons_succ]
    refine wpL_skip rfl ?_
    simp only [Act.put, List.setIfInBounds_toArray, List.set_cons_zero, List.set_cons_succ]
    refine wpL_skip rfl ?_
    simp only [Act.put, List.setIfInBounds_toArray, List.set_cons_zero, List.set_cons_succ]
    refine wpL_skip rfl ?_
    simp only [Act.put, List.setIfInBounds_toArray, List.set_cons_zero, List.set_cons_succ]
    refine wpL_skip rfl ?_
    simp only [Act.put, List.setIfInBounds_toArray, List.set_cons_zero, List.set_cons_succ]
    refine wpL_skip rfl ?_
    simp only [Act.put, List.setIfInBounds_toArray, List.set_cons_zero, List.set_cons_succ]
    refine wpL_skip rfl ?_
    simp only [Act.put, List.setIfInBounds_toArray, List.set_cons_zero, List.set_cons_succ]
    refine wpL_skip rfl ?_
    simp only [Act.put, List.setIfInBounds_toArray, List.set_cons_zero, List.set_cons_succ]
    refine wpL_skip rfl ?_
    simp only [Act.put, List.setIfInBounds_toArray, List.set_cons_zero, List.set_cons_succ]
    refine wpL_guarded (v := ?_) rfl (fun w' hS => ?_) ?_
    rotate_left
    · (go_simp; try with_reducible rfl)
    simp only [Act.put, List.setIfInBounds_toArray, List.set_cons_zero, List.set_cons_succ]
    refine wpL_nil ?_
    refine wpL_nil ?_
    go_wp2_with fail
    go_ret
    exact ⟨rfl, hgd⟩
  · have hd1 : decide (n < (firstB len : Int)) = false := decide_eq_false h1
    by_cases h2 : (len : Int) ≤ n
    · have e1 : chkN len G n = 40 := by unfold chkN; rw [if_pos (.inr h2)]
      rw [e1]
      have hd2 : decide (n ≥ (len : Int)) = true := decide_eq_true h2
      clear hok e1 hfl hlo hhi h1 h2
      go_enter Tryz.func61, Tryz.ntmps61
      go_wp2_with fail
      refine wp_region_L (fun w' => ∃ Q, Bears w' (spObj s c x len * Q)) 19 [(true, 0), (true, 1), (true, 2), (true, 3), (true, 4), (true, 5), (true, 6), (true, 7), (true, 8), (true, 9), (true, 10), (true, 11), (true, 12), (true, 13), (true, 14), (true, 15), (true, 16), (true, 17), (true, 18)] [] (by kernel_rfl) (by kernel_rfl) ⟨_, h0.drew⟩ ?_
      simp only [pick, List.getElem?_cons_zero, List.getElem?_cons_succ]
      refine wpL_guarded (v := ?_) rfl (fun w' hS => ?_) ?_
      rotate_left
      · (obtain ⟨_, hS⟩ := hS; obtain ⟨_, _, _, c3, c4⟩ := sp_cells hS; go_simp; try with_reducible rfl)
      simp only [Act.put, List.setIfInBounds_toArray, List.set_cons_zero, List.set_cons_succ]
      refine wpL_guarded (v := ?_) rfl (fun w' hS => ?_) ?_
      rotate_left
      · (obtain ⟨_, hS⟩ := hS; obtain ⟨_, _, _, c3, c4⟩ := sp_cells hS; go_simp; try with_reducible rfl)
      simp only [Act.put, List.setIfInBounds_toArray, List.set_cons_zero, List.set_cons_succ]
      refine wpL_guarded (v := ?_) rfl (fun w' hS => ?_) ?_
      rotate_left
      · (obtain ⟨_, hS⟩ := hS; obtain ⟨_, _, _, c3, c4⟩ := sp_cells hS; go_simp; try with_reducible rfl)
      simp only [Act.put, List.setIfInBounds_toArray, List.set_cons_zero, List.set_cons_succ]
      refine wpL_guarded (v := ?_) rfl (fun w' hS => ?_) ?_
      rotate_left
      · (obtain ⟨_, hS⟩ := hS; obtain ⟨_, _, _, c3, c4⟩ := sp_cells hS; go_simp; try with_reducible rfl)
      simp only [Act.put, List.setIfInBounds_toArray, List.set_cons_zero, List.set_cons_succ]
      refine wpL_guarded (v := ?_) rfl (fun w' hS => ?_) ?_
      rotate_left
      · (obtain ⟨_, hS⟩ := hS; obtain ⟨_, _, _, c3, c4⟩ := sp_cells hS; go_simp; try with_reducible rfl)
      simp only [Act.put, List.setIfInBounds_toArray, List.set_cons_zero, List.set_cons_succ]
      refine wpL_guarded (v := ?_) rfl (fun w' hS => ?_) ?_
      rotate_left
      · (obtain ⟨_, hS⟩ := hS; obtain ⟨_, _, _, c3, c4⟩ := sp_cells hS; go_simp; try with_reducible rfl)
      simp only [Act.put, List.setIfInBounds_toArray, List.set_cons_zero, List.set_cons_succ]
      refine wpL_guarded (v := ?_) rfl (fun w' hS => ?_) ?_
      rotate_left
      · (obtain ⟨_, hS⟩ := hS; obtain ⟨_, _, _, c3, c4⟩ := sp_cells hS; go_simp; try with_reducible rfl)
      simp only [Act.put, List.setIfInBounds_toArray, List.set_cons_zero, List.set_cons_succ]
      refine wpL_guarded (v := ?_) rfl (fun w' hS => ?_) ?_
      rotate_left
      · (obtain ⟨_, hS⟩ := hS; obtain ⟨_, _, _, c3, c4⟩ := sp_cells hS; go_simp; try with_reducible rfl)
      simp only [Act.put, List.setIfInBounds_toArray, List.set_cons_zero, List.set_cons_succ]
      refine wpL_guarded (v := ?_) rfl (fun w' hS => ?_) ?_
      rotate_left
      · (obtain ⟨_, hS⟩ := hS; obtain ⟨_, _, _, c3, c4⟩ := sp_cells hS; go_simp; try with_reducible rfl)
      simp only [Act.put, List.setIfInBounds_toArray, List.set_cons_zero, List.set_cons_succ]
      refine wpL_guarded (v := ?_) rfl (fun w' hS => ?_) ?_
      rotate_left
      · (obtain ⟨_, hS⟩ := hS; obtain ⟨_, _, _, c3, c4⟩ := sp_cells hS; go_simp; try with_reducible rfl)
      simp only [Act.put, List.setIfInBounds_toArray, List.set_cons_zero, List.set_cons_succ]
      refine wpL_guarded (v := ?_) rfl (fun w' hS => ?_) ?_
      rotate_left
      · (obtain ⟨_, hS⟩ := hS; obtain ⟨_, _, _, c3, c4⟩ := sp_cells hS; go_simp; try with_reducible rfl)
      simp only [Act.put, List.setIfInBounds_toArray, List.set_cons_zero, List.set_cons_succ]
      refine wpL_guarded (v := ?_) rfl (fun w' hS => ?_) ?_
      rotate_left
      · (obtain ⟨_, hS⟩ := hS; obtain ⟨_, _, _, c3, c4⟩ := sp_cells hS; go_simp; try with_reducible rfl)
      simp only [Act.put, List.setIfInBounds_toArray, List.set_cons_zero, List.set_cons_succ]
      refine wpL_guarded (v := ?_) rfl (fun w' hS => ?_) ?_
      rotate_left
      · (obtain ⟨_, hS⟩ := hS; obtain ⟨_, _, _, c3, c4⟩ := sp_cells hS; go_simp; try with_reducible rfl)
      simp only [Act.put, List.setIfInBounds_toArray, List.set_cons_zero, List.set_cons_succ]
      refine wpL_guarded (v := ?_) rfl (fun w' hS => ?_) ?_
      rotate_left
      · (obtain ⟨_, hS⟩ := hS; obtain ⟨_, _, _, c3, c4⟩ := sp_cells hS; go_simp; try with_reducible rfl)
      simp only [Act.put, List.setIfInBounds_toArray, List.set_cons_zero, List.set_cons_succ]
      refine wpL_guarded (v := ?_) rfl (fun w' hS => ?_) ?_
      rotate_left
      · (obtain ⟨_, hS⟩ := hS; obtain ⟨_, _, _, c3, c4⟩ := sp_cells hS; go_simp; try with_reducible rfl)
      simp only [Act.put, List.setIfInBounds_toArray, List.set_cons_zero, List.set_cons_succ]
      refine wpL_guarded (v := ?_) rfl (fun w' hS => ?_) ?_
      rotate_left
      · (obtain ⟨_, hS⟩ := hS; obtain ⟨_, _, _, c3, c4⟩ := sp_cells hS; go_simp; try with_reducible rfl)
      simp only [Act.put, List.setIfInBounds_toArray, List.set_cons_zero, List.set_cons_succ]
      refine wpL_guarded (v := ?_) rfl (fun w' hS => ?_) ?_
      rotate_left
      · (obtain ⟨_, hS⟩ := hS; obtain ⟨_, _, _, c3, c4⟩ := sp_cells hS; go_simp; try with_reducible rfl)
      simp only [Act.put, List.setIfInBounds_toArray, List.set_cons_zero, List.set_cons_succ]
      refine wpL_guarded (v := ?_) rfl (fun w' hS => ?_) ?_
      rotate_left
      · (obtain ⟨_, hS⟩ := hS; obtain ⟨_, _, _, c3, c4⟩ := sp_cells hS; go_simp; try with_reducible rfl)
      simp only [Act.put, List.setIfInBounds_toArray, List.set_cons_zero, List.set_cons_succ]
      refine wpL_guarded (v := ?_) rfl (fun w' hS => ?_) ?_
      rotate_left
      · (obtain ⟨_, hS⟩ := hS; obtain ⟨_, _, _, c3, c4⟩ := sp_cells hS; go_simp; try with_reducible rfl)
      simp only [Act.put, List.setIfInBounds_toArray, List.set_cons_zero, List.set_cons_succ]
      refine wpL_nil ?_
      refine wpL_nil ?_
      go_wp2_with fail
      go_ret
      exact ⟨rfl, hgd⟩
    · have hd2 : decide (n ≥ (len : Int)) = false := decide_eq_false h2
      obtain ⟨m, rfl⟩ : ∃ m : Nat, n = (m : Int) := ⟨n.toNat, by omega⟩
      have hml : m < len := by omega
      have hd1n : decide (m < firstB len) = false := decide_eq_false (by omega)
      have hd2n : decide (len ≤ m) = false := decide_eq_false (by omega)
      have hn1 : ¬ m < firstB len := by omega
      obtain ⟨r, hr⟩ : ∃ r, G (621 + m / 512) = r := ⟨_, rfl⟩
      have hr64 : r.length = 64 := by rw [← hr]; exact h.sp64 _
      have e1 : chkN len G (m : Int) = if bitOf r (m % 512) = true then 0 else 41 := by
        unfold chkN
        rw [if_neg (by omega), Int.toNat_natCast, hr]
      rw [e1]
      have hbit := bit_any hgd m hml hr
      obtain ⟨j, hj⟩ : ∃ j, m % 512 = j := ⟨_, rfl⟩
      rw [hj]
      have hj512 : j < 512 := by omega
      have q1 : (m : Int).tmod 512 = (j : Int) := by rw [Int.tmod_eq_emod_of_nonneg (by omega)]; omega
      have q1' : (m : Int) % 512 = (j : Int) := by omega
      obtain ⟨a, ha⟩ : ∃ a, j / 8 = a := ⟨_, rfl⟩
      obtain ⟨b, hb8⟩ : ∃ b, j % 8 = b := ⟨_, rfl⟩
      have q2 : (j : Int).tdiv 8 = (a : Int) := by rw [Int.tdiv_eq_ediv_of_nonneg (by omega)]; omega
      have q2' : (j : Int) / 8 = (a : Int) := by omega
      have q3 : (j : Int).tmod 8 = (b : Int) := by rw [Int.tmod_eq_emod_of_nonneg (by omega)]; omega
      have q3' : (j : Int) % 8 = (b : Int) := by omega
      have ha64 : a < 64 := by omega
      have ha64i : (a : Int) < 64 := by omega
      have hb7 : b < 8 := by omega
      have hb0 : (b : Int) < 8 := by omega
      have r1 : IntKind.i64.wrap (a : Int) = (a : Int) := IntWalk.i64_in _ (by omega)
      have r2 : IntKind.i64.wrap (b : Int) = (b : Int) := IntWalk.i64_in _ (by omega)
      have r3 : IntKind.i64.wrap (j : Int) = (j : Int) := IntWalk.i64_in _ (by omega)
      have hbo : bitOf r j = (r.getD a 0).toNat.testBit b := by unfold bitOf; rw [ha, hb8]
      rw [hbo]
      have hsh := shr_bit ⟨(r.getD a 0).toNat, (r.getD a 0).toNat_lt⟩ ⟨b, hb7⟩
      simp only at hsh
      have H64 := Lib.hid hr64
      clear hok e1 hfl hlo hhi h1 h2 hr hr64 hj ha hb8 hbo
      obtain ⟨bt, hbt⟩ : ∃ bt, (r.getD a 0).toNat.testBit b = bt := ⟨_, rfl⟩
      rw [hbt] at hsh ⊢
      obtain ⟨cb, hcb⟩ : ∃ cb, r.getD a 0 = cb := ⟨_, rfl⟩
      rw [hcb] at hsh
      obtain ⟨cn, hcn⟩ : ∃ cn, cb.toNat = cn := ⟨_, rfl⟩
      rw [hcn] at hsh
      have hcn8 : cn < 256 := by rw [← hcn]; exact cb.toNat_lt
      have Hcb := Lib.hid hcb
      have Hcn := Lib.hid hcn
      clear hcb hcn hbt
      go_enter Tryz.func61, Tryz.ntmps61
      go_wp2_with fail
      refine wp_region_L (fun w' => ∃ Q, Bears w' (spObj s c x len * Q)) 19 [(true, 0), (true, 1), (true, 2), (true, 3), (true, 4), (true, 5), (true, 6), (true, 7), (true, 8), (true, 9), (true, 10), (true, 11), (true, 12), (true, 13), (true, 14), (true, 15), (true, 16), (true, 17), (true, 18)] [] (by kernel_rfl) (by kernel_rfl) ⟨_, h0.drew⟩ ?_
      simp only [pick, List.getElem?_cons_zero, List.getElem?_cons_succ]
      refine wpL_guarded (v := ?_) rfl (fun w' hS => ?_) ?_
      rotate_left
      · (obtain ⟨_, hS⟩ := hS; obtain ⟨_, _, _, c3, c4⟩ := sp_cells hS; go_simp; try with_reducible rfl)
      simp only [Act.put, List.setIfInBounds_toArray, List.set_cons_zero, List.set_cons_succ]
      refine wpL_guarded (v := ?_) rfl (fun w' hS => ?_) ?_
      rotate_left
      · (obtain ⟨_, hS⟩ := hS; obtain ⟨_, _, _, c3, c4⟩ := sp_cells hS; go_simp; try with_reducible rfl)
      simp only [Act.put, List.setIfInBounds_toArray, List.set_cons_zero, List.set_cons_succ]
      refine wpL_guarded (v := ?_) rfl (fun w' hS => ?_) ?_
      rotate_left
      · (obtain ⟨_, hS⟩ := hS; obtain ⟨_, _, _, c3, c4⟩ := sp_cells hS; go_simp; try with_reducible rfl)
      simp only [Act.put, List.setIfInBounds_toArray, List.set_cons_zero, List.set_cons_succ]
      refine wpL_guarded (v := ?_) rfl (fun w' hS => ?_) ?_
      rotate_left
      · (obtain ⟨_, hS⟩ := hS; obtain ⟨_, _, _, c3, c4⟩ := sp_cells hS; go_simp; try with_reducible rfl)
      simp only [Act.put, List.setIfInBounds_toArray, List.set_cons_zero, List.set_cons_succ]
      refine wpL_guarded (v := ?_) rfl (fun w' hS => ?_) ?_
      rotate_left
      · (obtain ⟨_, hS⟩ := hS; obtain ⟨_, _, _, c3, c4⟩ := sp_cells hS; go_simp; try with_reducible rfl)
      simp only [Act.put, List.setIfInBounds_toArray, List.set_cons_zero, List.set_cons_succ]
      refine wpL_guarded (v := ?_) rfl (fun w' hS => ?_) ?_
      rotate_left
      · (obtain ⟨_, hS⟩ := hS; obtain ⟨_, _, _, c3, c4⟩ := sp_cells hS; go_simp; try with_reducible rfl)
      simp only [Act.put, List.setIfInBounds_toArray, List.set_cons_zero, List.set_cons_succ]
      refine wpL_guarded (v := ?_) rfl (fun w' hS => ?_) ?_
      rotate_left
      · (obtain ⟨_, hS⟩ := hS; obtain ⟨_, _, _, c3, c4⟩ := sp_cells hS; go_simp; try with_reducible rfl)
      simp only [Act.put, List.setIfInBounds_toArray, List.set_cons_zero, List.set_cons_succ]
      refine wpL_guarded (v := ?_) rfl (fun w' hS => ?_) ?_
      rotate_left
      · (obtain ⟨_, hS⟩ := hS; obtain ⟨_, _, _, c3, c4⟩ := sp_cells hS; go_simp; try with_reducible rfl)
      simp only [Act.put, List.setIfInBounds_toArray, List.set_cons_zero, List.set_cons_succ]
      refine wpL_guarded (v := ?_) rfl (fun w' hS => ?_) ?_
      rotate_left
      · (obtain ⟨_, hS⟩ := hS; obtain ⟨_, _, _, c3, c4⟩ := sp_cells hS; go_simp; try with_reducible rfl)
      simp only [Act.put, List.setIfInBounds_toArray, List.set_cons_zero, List.set_cons_succ]
      refine wpL_guarded (v := ?_) rfl (fun w' hS => ?_) ?_
      rotate_left
      · (obtain ⟨_, hS⟩ := hS; obtain ⟨_, _, _, c3, c4⟩ := sp_cells hS; go_simp; try with_reducible rfl)
      simp only [Act.put, List.setIfInBounds_toArray, List.set_cons_zero, List.set_cons_succ]
      refine wpL_guarded (v := ?_) rfl (fun w' hS => ?_) ?_
      rotate_left
      · (obtain ⟨_, hS⟩ := hS; obtain ⟨_, _, _, c3, c4⟩ := sp_cells hS; go_simp; try with_reducible rfl)
      simp only [Act.put, List.setIfInBounds_toArray, List.set_cons_zero, List.set_cons_succ]
      refine wpL_guarded (v := ?_) rfl (fun w' hS => ?_) ?_
      rotate_left
      · (obtain ⟨_, hS⟩ := hS; obtain ⟨_, _, _, c3, c4⟩ := sp_cells hS; go_simp; try with_reducible rfl)
      simp only [Act.put, List.setIfInBounds_toArray, List.set_cons_zero, List.set_cons_succ]
      refine wpL_guarded (v := ?_) rfl (fun w' hS => ?_) ?_
      rotate_left
      · (obtain ⟨_, hS⟩ := hS; obtain ⟨_, _, _, c3, c4⟩ := sp_cells hS; go_simp; try with_reducible rfl)
      simp only [Act.put, List.setIfInBounds_toArray, List.set_cons_zero, List.set_cons_succ]
      refine wpL_guarded (v := ?_) rfl (fun w' hS => ?_) ?_
      rotate_left
      · (obtain ⟨_, hS⟩ := hS; obtain ⟨_, _, _, c3, c4⟩ := sp_cells hS; go_simp; try with_reducible rfl)
      simp only [Act.put, List.setIfInBounds_toArray, List.set_cons_zero, List.set_cons_succ]
      refine wpL_guarded (v := ?_) rfl (fun w' hS => ?_) ?_
      rotate_left
      · (obtain ⟨_, hS⟩ := hS; obtain ⟨_, _, _, c3, c4⟩ := sp_cells hS; go_simp; try with_reducible rfl)
      simp only [Act.put, List.setIfInBounds_toArray, List.set_cons_zero, List.set_cons_succ]
      refine wpL_guarded (v := ?_) rfl (fun w' hS => ?_) ?_
      rotate_left
      · (obtain ⟨_, hS⟩ := hS; obtain ⟨_, _, _, c3, c4⟩ := sp_cells hS; go_simp; try with_reducible rfl)
      simp only [Act.put, List.setIfInBounds_toArray, List.set_cons_zero, List.set_cons_succ]
      refine wpL_guarded (v := ?_) rfl (fun w' hS => ?_) ?_
      rotate_left
      · (obtain ⟨_, hS⟩ := hS; obtain ⟨_, _, _, c3, c4⟩ := sp_cells hS; go_simp; try with_reducible rfl)
      simp only [Act.put, List.setIfInBounds_toArray, List.set_cons_zero, List.set_cons_succ]
      refine wpL_guarded (v := ?_) rfl (fun w' hS => ?_) ?_
      rotate_left
      · (obtain ⟨_, hS⟩ := hS; obtain ⟨_, _, _, c3, c4⟩ := sp_cells hS; go_simp; try with_reducible rfl)
      simp only [Act.put, List.setIfInBounds_toArray, List.set_cons_zero, List.set_cons_succ]
      refine wpL_guarded (v := ?_) rfl (fun w' hS => ?_) ?_
      rotate_left
      · (obtain ⟨_, hS⟩ := hS; obtain ⟨_, _, _, c3, c4⟩ := sp_cells hS; go_simp; try with_reducible rfl)
      simp only [Act.put, List.setIfInBounds_toArray, List.set_cons_zero, List.set_cons_succ]
      refine wpL_nil ?_
      refine wpL_nil ?_
      go_wp2_with fail
      refine hbit.mono ?_
      rintro e w1 ⟨ad, cap, rfl, h3⟩
      obtain ⟨rg, rfl, _⟩ := h3.rowAt (k := 0) (by omega)
      have hcell := h3.rowCell (i := a) ha64 (v := byteV cb) (by simp [cellsV, H64.out, ha64, ← Hcb.out])
      unfold byteV at hcell
      rw [Hcn.out] at hcell
      cases bt with
      | true =>
        have hsh2 : (bits BinOp.and IntKind.u8 ((cn : Int) / 2 ^ b) 1 == 0) = false := hsh
        go_wp2_with fail
        go_ret
        exact ⟨rfl, h3.right⟩
      | false =>
        have hsh2 : (bits BinOp.and IntKind.u8 ((cn : Int) / 2 ^ b) 1 == 0) = true := hsh
        go_wp2_with fail
        go_ret
        exact ⟨rfl, h3.right⟩

end Go.Proofs.YtcggloceabjjdaaGreat
