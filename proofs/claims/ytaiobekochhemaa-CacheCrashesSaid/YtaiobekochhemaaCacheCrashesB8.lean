/- Texts of this claim, put together: CacheV, RowB, Ops, COps, Bools, CLawC, Steps, CLawD, BoundsW; no condition. -/
import Derived.Test.YtaiobekochhemaaCacheCrashesB7
import Derived.Test.YtaiobekochhemaaChecked
import Derived.Deep.Slices
import Derived.Deep.Fields

/- The cache as a view of the sectors: what is sure, what is at hand; no condition. -/
namespace Go.Proofs.Ytaiobekochhemaa
open Go.RowKit Go.MapKept

theorem overL_pin {F : Nat → Sec} {ls : List LineM} (hn : (ls.map (·.at')).Nodup) {y : LineM} (hy : y ∈ ls) (hp : y.pin = true) {i : Nat} (hi : y.at' = (i : Int)) : overL F ls i = y.b := by
  have : findL (i : Int) ls = some y := by rw [← hi]; exact findL_of_mem hn hy
  unfold overL
  rw [this]
  simp [hp]
theorem overL_free {F : Nat → Sec} {ls : List LineM} {i : Nat} (h : ∀ y ∈ ls, y.at' = (i : Int) → y.pin = false) : overL F ls i = F i := by
  unfold overL
  cases hf : findL (i : Int) ls with
  | none => rfl
  | some y =>
    obtain ⟨hy, hyi⟩ := findL_mem hf
    simp [h y hy hyi]
/-- What the pinned lines are decides it. -/
theorem overL_congr {F : Nat → Sec} {ls ls' : List LineM} (hn : (ls.map (·.at')).Nodup) (hn' : (ls'.map (·.at')).Nodup) (h : ∀ y : LineM, y.pin = true → (y ∈ ls' ↔ y ∈ ls)) : overL F ls' = overL F ls := by
  funext i
  by_cases hx : ∃ y ∈ ls, y.pin = true ∧ y.at' = (i : Int)
  · obtain ⟨y, hy, hp, hi⟩ := hx
    rw [overL_pin hn hy hp hi, overL_pin hn' ((h y hp).2 hy) hp hi]
  · rw [overL_free (ls := ls) (fun y hy hi => by
      cases hp : y.pin with
      | false => rfl
      | true => exact absurd ⟨y, hy, hp, hi⟩ hx), overL_free (fun y hy hi => by
      cases hp : y.pin with
      | false => rfl
      | true => exact absurd ⟨y, (h y hp).1 hy, hp, hi⟩ hx)]
theorem dropFree_keeps : ∀ {ls r : List LineM}, dropFree ls = some r → ∀ y : LineM, y.pin = true → (y ∈ r ↔ y ∈ ls)
  | [], _, h => by simp [dropFree] at h
  | x :: l, r, h => by
    simp only [dropFree] at h
    split at h
    · rename_i hx
      simp only [Option.some.injEq] at h
      subst h
      intro y hp
      simp only [List.mem_cons]
      constructor
      · exact .inr
      · rintro (rfl | h)
        · rw [hp] at hx; cases hx
        · exact h
    · cases hd : dropFree l with
      | none => simp [hd] at h
      | some r' =>
        simp only [hd, Option.map_some, Option.some.injEq] at h
        subst h
        intro y hp
        have := dropFree_keeps hd y hp
        simp [this]
theorem trimL_keeps (most : Int) : ∀ (n : Nat) (ls : List LineM) (y : LineM), y.pin = true → (y ∈ trimL most n ls ↔ y ∈ ls)
  | 0, ls, y, _ => Iff.rfl
  | n + 1, ls, y, hp => by
    simp only [trimL]
    split
    · exact Iff.rfl
    · cases hd : dropFree ls with
      | none => exact Iff.rfl
      | some r => exact (trimL_keeps most n r y hp).trans (dropFree_keeps hd y hp)

theorem dropFree_filter : ∀ {ls r : List LineM}, dropFree ls = some r → r.filter (·.pin) = ls.filter (·.pin)
  | [], _, h => by simp [dropFree] at h
  | x :: l, r, h => by
    simp only [dropFree] at h
    split at h
    · rename_i hx
      simp only [Option.some.injEq] at h
      subst h
      simp [hx]
    · cases hd : dropFree l with
      | none => simp [hd] at h
      | some r' =>
        simp only [hd, Option.map_some, Option.some.injEq] at h
        subst h
        simp only [List.filter_cons]
        rw [dropFree_filter hd]
theorem trimL_filter (most : Int) : ∀ (n : Nat) (ls : List LineM), (trimL most n ls).filter (·.pin) = ls.filter (·.pin)
  | 0, ls => rfl
  | n + 1, ls => by
    simp only [trimL]
    split
    · rfl
    · cases hd : dropFree ls with
      | none => rfl
      | some r =>
        simp only
        rw [trimL_filter most n r, dropFree_filter hd]

/-- A cache over a log at rest: F is what was laid down, G what is at hand, k how many sectors are pinned at the most. -/
structure CV (len a s : Nat) (F G : Nat → Sec) (k : Nat) (op : Bool) (cm : CacheM) : Prop where
  nodup : (cm.lines.map (·.at')).Nodup
  out : ∀ y ∈ cm.lines, 0 ≤ y.at' ∧ y.at' < len ∧ ¬ ((a : Int) ≤ y.at' ∧ y.at' < a + s)
  free : ∀ y ∈ cm.lines, y.pin = false → y.b = F y.at'.toNat
  view : overL F cm.lines = G
  few : (cm.lines.filter (·.pin)).length ≤ k
  opn : cm.isOpen = op
  len : len ≤ 8192

theorem CV.length {len a s : Nat} {F G : Nat → Sec} {k : Nat} {op : Bool} {cm : CacheM} (h : CV len a s F G k op cm) : cm.lines.length ≤ 8192 := by
  have := nodup_bound len _ h.nodup (fun i hi => by
    obtain ⟨y, hy, rfl⟩ := List.mem_map.1 hi
    have := h.out y hy
    exact ⟨this.1, this.2.1⟩)
  have := h.len
  simp at *
  omega
theorem CV.new {len a s : Nat} {F : Nat → Sec} {m : Int} (hl : len ≤ 8192) : CV len a s F F 0 false (CacheM.new m) :=
  ⟨by simp [CacheM.new], by simp [CacheM.new], by simp [CacheM.new], by funext i; rfl, by simp [CacheM.new], rfl, hl⟩
theorem CV.used {len a s : Nat} {F G : Nat → Sec} {k : Nat} {op : Bool} {cm : CacheM} (h : CV len a s F G k op cm) {y : LineM} (ho : 0 ≤ y.at' ∧ y.at' < len ∧ ¬ ((a : Int) ≤ y.at' ∧ y.at' < a + s))
    (hy : y ∈ cm.lines ∨ (y.pin = false ∧ y.b = F y.at'.toNat ∧ findL y.at' cm.lines = none)) : CV len a s F G k op (cm.used y) := by
  have hn2 := useL_nodup (x := y) h.nodup
  have hsub : ∀ z ∈ trimL cm.most (useL y cm.lines).length (useL y cm.lines), z = y ∨ z ∈ cm.lines := fun z hz => mem_useL ((trimL_sub _ _ _).subset hz)
  have hk : ∀ z : LineM, z.pin = true → (z ∈ trimL cm.most (useL y cm.lines).length (useL y cm.lines) ↔ z ∈ cm.lines) := by
    intro z hp
    rw [trimL_keeps _ _ _ _ hp]
    constructor
    · intro hz
      rcases mem_useL hz with rfl | hz
      · rcases hy with hy | ⟨h1, _⟩
        · exact hy
        · rw [hp] at h1; cases h1
      · exact hz
    · intro hz
      by_cases e : z.at' = y.at'
      · have hfz := findL_of_mem h.nodup hz
        rcases hy with hy | ⟨_, _, h3⟩
        · have hfy := findL_of_mem h.nodup hy
          rw [e, hfy] at hfz
          simp only [Option.some.injEq] at hfz
          subst hfz
          unfold useL
          simp
        · rw [e, h3] at hfz; cases hfz
      · unfold useL
        rw [forgetL_filter h.nodup]
        refine List.mem_append_left _ (List.mem_filter.2 ⟨hz, ?_⟩)
        simpa using e
  have hn3 : ((trimL cm.most (useL y cm.lines).length (useL y cm.lines)).map (·.at')).Nodup := ((trimL_sub _ _ _).map _).nodup hn2
  refine ⟨hn3, fun z hz => ?_, fun z hz hp => ?_, ?_, ?_, h.opn, h.len⟩
  · rcases hsub z hz with rfl | hz
    · exact ho
    · exact h.out z hz
  · rcases hsub z hz with rfl | hz
    · rcases hy with hy | ⟨_, h2, _⟩
      · exact h.free _ hy hp
      · exact h2
    · exact h.free z hz hp
  · simp only [CacheM.used]
    rw [overL_congr h.nodup hn3 hk]
    exact h.view
  · simp only [CacheM.used]
    rw [trimL_filter]
    unfold useL
    rw [List.filter_append, List.length_append]
    have h1 := filter_forgetL' (z := y.at') h.nodup
    have h2 := h.few
    rcases hy with hy | ⟨hp, _, _⟩
    · have : pinOf y.at' cm.lines = y.pin := pinOf_some (findL_of_mem h.nodup hy)
      rw [this] at h1
      cases hp : y.pin <;> rw [hp] at h1 <;> simp [hp] at h1 ⊢ <;> omega
    · simp [hp]
      omega

def cvA (c p x len a s : Nat) (F G : Nat → Sec) (k : Nat) (op : Bool) : Assn := Assn.ex fun cm => Assn.fact (CV len a s F G k op cm) * cacheA c p x cm
theorem Bears.cv {w : World} {c p x len a s : Nat} {F G : Nat → Sec} {k : Nat} {op : Bool} {R : Assn} : Bears w (cvA c p x len a s F G k op * R) ↔ ∃ cm, CV len a s F G k op cm ∧ Bears w (cacheA c p x cm * R) := by
  unfold cvA
  rw [Bears.ex]
  simp only [Assn.mul_assoc']
  constructor
  · rintro ⟨cm, h⟩
    exact ⟨cm, Bears.fact.1 h⟩
  · rintro ⟨cm, h⟩
    exact ⟨cm, Bears.fact.2 h⟩

theorem vread_any {c p x len a s g k : Nat} {op : Bool} {F G : Nat → Sec} {d : DiskM} {R : Assn} {w : World} {i : Int} {r : Sec} (h : Bears w (cvA c p x len a s F G k op * (diskA p d * R))) (hL : LogOn d a s g F) (hlen : d.len = len)
    (hi0 : 0 ≤ i) (hi : i < len) (ho : ¬ ((a : Int) ≤ i ∧ i < a + s)) (hr : G i.toNat = r) :
    Calls Try.prog 24 #[.pointer (some ⟨c, 0, none⟩), .int .i64 i] w fun e w' => ∃ ad cap, e = .returned (.tuple #[.slice ad 64 cap, .int .i64 0]) ∧
      Bears w' (rowA 5 1 (.slice ad 64 cap) 64 (cellsV r) * (cvA c p x len a s F G k op * (diskA p d * R))) := by
  subst hr
  obtain ⟨cm, hV, h⟩ := Bears.cv.1 h
  have hl := hV.length
  cases hf : findL i cm.lines with
  | some y =>
    obtain ⟨hy, rfl⟩ := findL_mem hf
    have e1 : G y.at'.toNat = y.b := by
      rw [← hV.view]
      cases hp : y.pin with
      | true => exact overL_pin hV.nodup hy hp (by omega)
      | false =>
        rw [overL_free (fun z hz hzi => ?_)]
        · exact (hV.free y hy hp).symm
        · have := findL_of_mem hV.nodup hz
          rw [show z.at' = y.at' by omega, hf] at this
          simp only [Option.some.injEq] at this
          rw [← this, hp]
    rw [e1]
    refine (cread_held_to h hf rfl (by omega)).mono ?_
    rintro e w' ⟨ad, cap, rfl, h2⟩
    exact ⟨ad, cap, rfl, Bears.pull2 (Bears.cv.2 ⟨_, hV.used (hV.out y hy) (.inl hy), h2.pull2⟩)⟩
  | none =>
    have hn : d.now i.toNat = G i.toNat := by
      rw [hL.now (by omega), ← hV.view, overL_free (fun z hz hzi => ?_)]
      have := findL_of_mem hV.nodup hz
      rw [show z.at' = i by omega, hf] at this
      cases this
    have hF : d.now i.toNat = F i.toNat := hL.now (by omega)
    have hck : d.check i = 0 := by
      have := DiskM.on_check (i := i.toNat) hL.off (by omega)
      rwa [show ((i.toNat : Nat) : Int) = i by omega] at this
    refine (cread_disk_to h hf hck hn rfl (by omega)).mono ?_
    rintro e w' ⟨ad, cap, rfl, h2⟩
    have hV2 : CV len a s F G k op { cm with misses := wrap64 (cm.misses + 1) } := ⟨hV.nodup, hV.out, hV.free, hV.view, hV.few, hV.opn, hV.len⟩
    exact ⟨ad, cap, rfl, Bears.pull2 (Bears.cv.2 ⟨_, hV2.used (y := ⟨i, G i.toNat, false⟩) ⟨hi0, hi, ho⟩ (.inr ⟨rfl, by rw [← hn, hF], hf⟩), h2.pull2⟩)⟩

theorem overL_use {F : Nat → Sec} {ls : List LineM} (hn : (ls.map (·.at')).Nodup) {i : Nat} {b : Sec} : overL F (useL ⟨(i : Int), b, true⟩ ls) = updS (overL F ls) i b := by
  funext j
  unfold updS
  by_cases e : j = i
  · subst e
    rw [if_pos rfl]
    exact overL_pin (y := ⟨(j : Int), b, true⟩) (useL_nodup hn) (by simp [useL]) rfl rfl
  · rw [if_neg e]
    unfold overL
    rw [findL_useL hn, if_neg (by simp only; omega)]

theorem vwrite_any {c p x len a s k : Nat} {F G : Nat → Sec} {d : DiskM} {R : Assn} {w : World} {i : Int} {b : Sec} {ad : Option Addr} {n cap : Nat} (h : Bears w (cvA c p x len a s F G k true * (diskA p d * R))) (hlen : d.len = len)
    (hb : R.Tells (fun w => BytesIn w (.slice ad n cap) b)) (hb64 : b.length = 64) (hi0 : 0 ≤ i) (hi : i < len) (ho : ¬ ((a : Int) ≤ i ∧ i < a + s)) :
    Calls Try.prog 28 #[.pointer (some ⟨c, 0, none⟩), .int .i64 i, .slice ad n cap] w fun e w' => e = .returned (.int .i64 0) ∧ Bears w' (cvA c p x len a s F (updS G i.toNat b) (k + 1) true * (diskA p d * R)) := by
  obtain ⟨cm, hV, h⟩ := Bears.cv.1 h
  have hl := hV.length
  have hw : cm.write d.len i b = (0, { cm with lines := useL ⟨i, b, true⟩ cm.lines }) := by
    unfold CacheM.write
    rw [hV.opn, if_neg (by simp), if_neg (by rw [hlen]; omega), if_neg (by simpa using hb64)]
  refine (cwrite_to h hw hb (by omega)).mono ?_
  rintro e w' ⟨rfl, h2⟩
  refine ⟨rfl, Bears.cv.2 ⟨{ cm with lines := useL ⟨i, b, true⟩ cm.lines }, ⟨useL_nodup hV.nodup, fun z hz => ?_, fun z hz hp => ?_, ?_, ?_, hV.opn, hV.len⟩, h2⟩⟩
  · rcases mem_useL hz with rfl | hz
    · exact ⟨hi0, hi, ho⟩
    · exact hV.out z hz
  · rcases mem_useL hz with rfl | hz
    · cases hp
    · exact hV.free z hz hp
  · have := overL_use (F := F) (i := i.toNat) (b := b) hV.nodup
    rw [show ((i.toNat : Nat) : Int) = i by omega, hV.view] at this
    exact this
  · unfold useL
    rw [List.filter_append, List.length_append]
    have h1 := ((forgetL_sub i cm.lines).filter (·.pin)).length_le
    have h2 := hV.few
    simp
    omega

theorem vbegin_any {c p x len a s k : Nat} {F G : Nat → Sec} {R : Assn} {w : World} (h : Bears w (cvA c p x len a s F G k false * R)) :
    Calls Try.prog 29 #[.pointer (some ⟨c, 0, none⟩)] w fun e w' => e = .returned (.int .i64 0) ∧ Bears w' (cvA c p x len a s F G k true * R) := by
  obtain ⟨cm, hV, h⟩ := Bears.cv.1 h
  have hw : cm.begins = (0, { cm with isOpen := true }) := by unfold CacheM.begins; rw [hV.opn, if_neg (by simp)]
  refine (cbegin_to h hw).mono ?_
  rintro e w' ⟨rfl, h2⟩
  exact ⟨rfl, Bears.cv.2 ⟨{ cm with isOpen := true }, ⟨hV.nodup, hV.out, hV.free, hV.view, hV.few, rfl, hV.len⟩, h2⟩⟩
theorem vbegin_no {c p x len a s k : Nat} {F G : Nat → Sec} {R : Assn} {w : World} (h : Bears w (cvA c p x len a s F G k true * R)) :
    Calls Try.prog 29 #[.pointer (some ⟨c, 0, none⟩)] w fun e w' => e = .returned (.int .i64 30) ∧ Bears w' (cvA c p x len a s F G k true * R) := by
  obtain ⟨cm, hV, h⟩ := Bears.cv.1 h
  have hw : cm.begins = (30, cm) := by unfold CacheM.begins; rw [hV.opn, if_pos rfl]
  refine (cbegin_to h hw).mono ?_
  rintro e w' ⟨rfl, h2⟩
  exact ⟨rfl, Bears.cv.2 ⟨_, hV, h2⟩⟩

theorem vabort_any {c p x len a s k : Nat} {F G : Nat → Sec} {R : Assn} {w : World} (h : Bears w (cvA c p x len a s F G k true * R)) :
    Calls Try.prog 33 #[.pointer (some ⟨c, 0, none⟩)] w fun e w' => e = .returned (.int .i64 0) ∧ Bears w' (cvA c p x len a s F F 0 false * R) := by
  obtain ⟨cm, hV, h⟩ := Bears.cv.1 h
  have hw : cm.abort = (0, { cm with isOpen := false, lines := cm.lines.filter fun y => !y.pin }) := by unfold CacheM.abort; rw [hV.opn, if_neg (by simp)]
  refine (cabort_to h hw).mono ?_
  rintro e w' ⟨rfl, h2⟩
  have hp : ∀ y ∈ cm.lines.filter (fun y => !y.pin), y.pin = false := fun y hy => by have := (List.mem_filter.1 hy).2; simpa using this
  refine ⟨rfl, Bears.cv.2 ⟨{ cm with isOpen := false, lines := cm.lines.filter fun y => !y.pin }, ⟨(List.filter_sublist.map _).nodup hV.nodup, fun y hy => hV.out y (List.mem_filter.1 hy).1, fun y hy hf => hV.free y (List.mem_filter.1 hy).1 hf, ?_, ?_, rfl, hV.len⟩, h2⟩⟩
  · funext i
    exact overL_free (fun y hy _ => hp y hy)
  · have : (cm.lines.filter fun y => !y.pin).filter (·.pin) = [] := by
      rw [List.filter_eq_nil_iff]
      intro y hy
      simp [hp y hy]
    simp only [this]
    exact Nat.le_refl _
theorem vabort_no {c p x len a s k : Nat} {F G : Nat → Sec} {R : Assn} {w : World} (h : Bears w (cvA c p x len a s F G k false * R)) :
    Calls Try.prog 33 #[.pointer (some ⟨c, 0, none⟩)] w fun e w' => e = .returned (.int .i64 30) ∧ Bears w' (cvA c p x len a s F G k false * R) := by
  obtain ⟨cm, hV, h⟩ := Bears.cv.1 h
  have hw : cm.abort = (30, cm) := by unfold CacheM.abort; rw [hV.opn, if_pos rfl]
  refine (cabort_to h hw).mono ?_
  rintro e w' ⟨rfl, h2⟩
  exact ⟨rfl, Bears.cv.2 ⟨_, hV, h2⟩⟩

theorem CV.commits {len a s : Nat} {F G : Nat → Sec} {k : Nat} {op : Bool} {cm : CacheM} (h : CV len a s F G k op cm) : CV len a s G G 0 false cm.commits := by
  have hn : ((unpinL cm.lines).map (·.at')).Nodup := by rw [unpinL_at]; exact h.nodup
  have hsub : ∀ z ∈ trimL cm.most (unpinL cm.lines).length (unpinL cm.lines), ∃ y ∈ cm.lines, z = { y with pin := false } := fun z hz => by
    obtain ⟨y, hy, rfl⟩ := List.mem_map.1 ((trimL_sub _ _ _).subset hz)
    exact ⟨y, hy, rfl⟩
  refine ⟨((trimL_sub _ _ _).map _).nodup hn, fun z hz => ?_, fun z hz _ => ?_, ?_, ?_, rfl, h.len⟩
  · obtain ⟨y, hy, rfl⟩ := hsub z hz
    exact h.out y hy
  · obtain ⟨y, hy, rfl⟩ := hsub z hz
    simp only
    rw [← h.view]
    have ho := h.out y hy
    cases hp : y.pin with
    | true => exact (overL_pin h.nodup hy hp (by omega)).symm
    | false =>
      rw [overL_free (fun v hv hvi => ?_)]
      · exact h.free y hy hp
      · have h1 := findL_of_mem h.nodup hv
        rw [show v.at' = y.at' by omega, findL_of_mem h.nodup hy] at h1
        simp only [Option.some.injEq] at h1
        rw [← h1, hp]
  · funext i
    refine overL_free (fun z hz _ => ?_)
    obtain ⟨y, hy, rfl⟩ := hsub z hz
    rfl
  · have : (trimL cm.most (unpinL cm.lines).length (unpinL cm.lines)).filter (·.pin) = [] := by
      rw [List.filter_eq_nil_iff]
      intro z hz
      obtain ⟨y, hy, rfl⟩ := hsub z hz
      simp
    simp only [CacheM.commits, this]
    exact Nat.le_refl _
theorem CV.pinsOk {len a s : Nat} {F G : Nat → Sec} {k : Nat} {op : Bool} {cm : CacheM} (h : CV len a s F G k op cm) (hk : k ≤ roomN s) : PinsOk len a s cm.lines :=
  ⟨fun y hy _ => by have := h.out y hy; exact ⟨this.2.2, this.1, this.2.1⟩, Nat.le_trans h.few hk⟩

theorem vcommit_any {c p x len a s g k : Nat} {F G : Nat → Sec} {d : DiskM} {R : Assn} {w : World} (h : Bears w (cvA c p x len a s F G k true * (walObj x p a s (g : Int) * (diskA p d * R)))) (hL : LogOn d a s g F) (hlen : d.len = len) (hf : d.fuse = -1) (hk : k ≤ roomN s)
    (hg : g < 4611686018427387904) :
    Calls Try.prog 31 #[.pointer (some ⟨c, 0, none⟩)] w fun e w' => ∃ d', e = .returned (.int .i64 0) ∧ LogOn d' a s (g + 1) G ∧ d'.fuse = -1 ∧ d'.len = len ∧
      Bears w' (cvA c p x len a s G G 0 false * (walObj x p a s ((g + 1 : Nat) : Int) * (diskA p d' * R))) := by
  obtain ⟨cm, hV, h⟩ := Bears.cv.1 h
  have hl := hV.length
  refine (ccommit_log h hV.opn hL hf hg (by omega)).mono ?_
  rintro e w' (⟨rfl, _, l, d', _, hL2, hfu, hlen2, _, h2⟩ | ⟨_, hno, _⟩)
  · rw [hV.view] at hL2
    exact ⟨d', rfl, hL2, hfu, hlen2.trans hlen, Bears.cv.2 ⟨_, hV.commits, h2⟩⟩
  · exact absurd (by rw [hlen]; exact hV.pinsOk hk) hno
theorem vcommit_no {c p x len a s k : Nat} {F G : Nat → Sec} {R : Assn} {w : World} (h : Bears w (cvA c p x len a s F G k false * R)) :
    Calls Try.prog 31 #[.pointer (some ⟨c, 0, none⟩)] w fun e w' => e = .returned (.int .i64 30) ∧ Bears w' (cvA c p x len a s F G k false * R) := by
  obtain ⟨cm, hV, h⟩ := Bears.cv.1 h
  refine (ccommit_closed h hV.opn).mono ?_
  rintro e w' ⟨rfl, rfl⟩
  exact ⟨rfl, Bears.cv.2 ⟨_, hV, h⟩⟩

/-- A commit under a fuse: the disk goes on, or falls; behind a boot all is there, or none. -/
theorem commit_waits {d d' : DiskM} {a s : Nat} {g g' r : Int} {l : List PutM} (h : wCommit d a s g l = (r, g', d')) : d'.waits.length ≤ d.waits.length + 3 * l.length + 10 := by
  cases hm : wMay d.len a s l with
  | false =>
    rw [wCommit_no hm] at h
    simp only [Prod.mk.injEq] at h
    rw [← h.2.2]
    omega
  | true =>
    have hl : listsN l.length ≤ l.length + 1 := by unfold listsN; omega
    obtain ⟨r1, d1, hb⟩ : ∃ r d1, wBytes d a s l l.length = (r, d1) := ⟨_, _, rfl⟩
    have s1 := wBytes_waits d a s l l.length
    rw [hb] at s1
    simp only at s1
    by_cases hr1 : r1 = 0
    · subst hr1
      obtain ⟨r2, d2, hs⟩ : ∃ r d2, wLists d1 a l (listsN l.length) = (r, d2) := ⟨_, _, rfl⟩
      have s2 := wLists_waits d1 a l (listsN l.length)
      rw [hs] at s2
      simp only at s2
      by_cases hr2 : r2 = 0
      · subst hr2
        obtain ⟨r3, d3, ho⟩ : ∃ r d3, wBoth d2 a s (wrap64 (g + 1)) l.length = (r, d3) := ⟨_, _, rfl⟩
        rw [wCommit_both hm hb hs ho] at h
        have s3 := wBoth_waits d2 a s (wrap64 (g + 1)) l.length
        rw [ho] at s3
        simp only at s3
        split at h
        · simp only [Prod.mk.injEq] at h
          rw [← h.2.2]
          omega
        · have s4 : (wFinish d3 a s (wrap64 (g + 1)) l.length).2.waits.length ≤ d3.waits.length + l.length + 1 := by
            have h1 := wLoop_waits d3 a s l.length
            unfold wFinish
            split
            · omega
            · have h2 := wBoth_waits (wLoop d3 a s l.length).2 a s (wrap64 (g + 1)) 0
              omega
          simp only [Prod.mk.injEq] at h
          rw [← h.2.2]
          omega
      · rw [wCommit_lists hm hb hs hr2 (Nat.le_refl _)] at h
        simp only [Prod.mk.injEq] at h
        rw [← h.2.2]
        omega
    · rw [wCommit_bytes hm hb hr1 (Nat.le_refl _)] at h
      simp only [Prod.mk.injEq] at h
      rw [← h.2.2]
      omega

theorem vcommit_cut {c p x len a s g k : Nat} {F G : Nat → Sec} {d : DiskM} {R : Assn} {w : World} (h : Bears w (cvA c p x len a s F G k true * (walObj x p a s (g : Int) * (diskA p d * R)))) (hL : LogOn d a s g F) (hlen : d.len = len) (hk : k ≤ roomN s)
    (hg : g < 4611686018427387904) :
    Calls Try.prog 31 #[.pointer (some ⟨c, 0, none⟩)] w fun e w' => ∃ r d', e = .returned (.int .i64 r) ∧ Goes d r d' ∧ (r = 0 → LogOn d' a s (g + 1) G) ∧ Boots d' (fun f => At len a s f g F ∨ At len a s f (g + 1) G) ∧ d'.waits.length < 1000000 ∧
      Bears w' (diskA p d' * R) := by
  obtain ⟨cm, hV, h⟩ := Bears.cv.1 h
  obtain ⟨_, _, _, _, _, _, hwf, _⟩ := Bears.cache.1 h
  have hl := hV.length
  refine (ccommit_open h hV.opn (by have := hL.place; have := hL.len; omega) (by have := hL.place; have := hL.len; omega) (hL.few _ (by decide)) (by omega)).mono ?_
  rintro e w' ⟨l, r, g', d', hP, hc, rfl, h2⟩
  have hok := hV.pinsOk hk
  have hm : wMay d.len a s l = true := by rw [hlen]; exact hP.may hV.nodup hwf.bytes hok
  obtain ⟨r2, g2, d2, hc2, h3, h4, h5⟩ := hL.commit (by omega) hm
  rw [hc] at hc2
  obtain ⟨rfl, rfl, rfl⟩ : r = r2 ∧ g' = g2 ∧ d' = d2 := by simpa using hc2
  have hap := hP.apply hV.nodup (fun y hy hp => (hok.out y hy hp).2.1) F
  rw [hV.view] at hap
  rw [hap] at h4 h5
  rw [hlen] at h5
  have hw := commit_waits hc
  rw [hL.quiet] at hw
  have h6 := hP.length
  have h7 := hV.few
  have h8 := room_le s
  have h9 := hL.place
  have h10 := hL.len
  exact ⟨r, d', rfl, h3, fun hr => (h4 hr).2, h5, by simp at hw; omega, h2.right.right⟩

theorem vpinned_any {c p x len a s : Nat} {F G : Nat → Sec} {op : Bool} {R : Assn} {w : World} (h : Bears w (cvA c p x len a s F G 0 op * R)) :
    Calls Try.prog 37 #[.pointer (some ⟨c, 0, none⟩)] w fun e w' => e = .returned (.int .i64 0) ∧ Bears w' (cvA c p x len a s F G 0 op * R) := by
  obtain ⟨cm, hV, h⟩ := Bears.cv.1 h
  refine (cpinned_to (n := 0) h (Nat.le_zero.1 hV.few)).mono ?_
  rintro e w' ⟨rfl, h2⟩
  exact ⟨rfl, Bears.cv.2 ⟨_, hV, h2⟩⟩

end Go.Proofs.Ytaiobekochhemaa

/- From the readings of a row to what a walk is told of its slices; no condition. -/
namespace Go.Proofs.Ytaiobekochhemaa
open Go.RowKit

theorem old_tells {W : World} {p : World → Prop} (h : ∀ w, (∀ b, b < W.heap.size → w.heap[b]? = W.heap[b]?) → p w) : (Assn.old W.heap.size W).Tells p := by
  rintro w ⟨F, rfl, h0, _, _, _, h4⟩
  exact h w h4

/-- The form in which a slice of integers comes in. -/
abbrev RowIn (k : IntKind) (w : World) (a : Option Addr) (len cap : Nat) (zs : List Int) : Prop :=
  (a = none ∧ len = 0 ∧ cap = 0 ∧ zs = []) ∨
  ∃ x, a = some x ∧ len ≤ cap ∧ cap ≤ maxLen ∧ zs.length = cap ∧ (∀ i, i < zs.length → w.cell? (x.add i) = some (.int k (zs.getD i 0))) ∧ ∀ n ∈ zs, (Lit.int k n).wf = true

theorem addr_of_cell {w : World} {x : Addr} {v : Value} (h : w.cell? x = some v) : x = ⟨x.block, x.off, none⟩ := by
  unfold World.cell? at h
  split at h
  · cases hs : x.spot with
    | none => cases x; simp_all
    | some s => simp [hs] at h
  · cases h

theorem row_range {k : IntKind} {W : World} {a : Option Addr} {len cap : Nat} {zs : List Int} (h : RowIn k W a len cap zs) (hl : 0 < len) :
    ∃ b o, a = some ⟨b, o, none⟩ ∧ b < W.heap.size ∧ W.rangeAt b o ((zs.take len).map (Value.int k)) := by
  rcases h with ⟨_, h0, _⟩ | ⟨x, rfl, hlc, _, hz, hc, _⟩
  · omega
  · have h0 := hc 0 (by omega)
    have e0 : x.add 0 = x := by simp [Addr.add]
    rw [e0] at h0
    have ex := addr_of_cell h0
    refine ⟨x.block, x.off, by rw [← ex], World.block_lt_of_cell? W x h0, fun j v hv => ?_⟩
    rw [List.getElem?_map, List.getElem?_take] at hv
    split at hv
    · rename_i hj
      have hj' : j < zs.length := by omega
      have := hc j hj'
      rw [ex, Addr.add_mid] at this
      rw [this]
      rw [List.getElem?_eq_getElem hj'] at hv
      simp only [Option.map_some, Option.some.injEq] at hv
      rw [← hv, List.getD_eq_getElem?_getD, List.getElem?_eq_getElem hj']
      rfl
    · cases hv

theorem range_old {W w : World} {b o : Nat} {cs : List Value} (h : W.rangeAt b o cs) (hb : b < W.heap.size) (hw : ∀ b, b < W.heap.size → w.heap[b]? = W.heap[b]?) : w.rangeAt b o cs :=
  rangeAt_block h (hw b hb)

theorem row_bytes {W : World} {a : Option Addr} {len cap : Nat} {zs : List Int} (h : RowIn .u8 W a len cap zs) :
    ∃ l : List UInt8, l.length = len ∧ (Assn.old W.heap.size W).Tells (fun w => BytesIn w (.slice a len cap) l) ∧ len ≤ 9223372036854775807 := by
  have hlen : (zs.take len).length = len ∧ len ≤ 9223372036854775807 := by
    rcases h with ⟨_, rfl, _, rfl⟩ | ⟨x, _, hlc, hm, hz, _, _⟩
    · simp
    · unfold maxLen at hm
      simp; omega
  have hwf : ∀ n ∈ zs.take len, 0 ≤ n ∧ n ≤ 255 := by
    intro n hn
    rcases h with ⟨_, _, _, rfl⟩ | ⟨x, _, _, _, _, _, hw⟩
    · simp at hn
    · have := hw n (List.mem_of_mem_take hn)
      simp [Lit.wf, IntKind.min, IntKind.max, IntKind.signed, IntKind.bits] at this
      omega
  refine ⟨(zs.take len).map (fun n => UInt8.ofNat n.toNat), by simpa using hlen.1, old_tells (fun w hw => ?_), hlen.2⟩
  have hl2 : ((zs.take len).map (fun n => UInt8.ofNat n.toNat)).length = len := by simpa using hlen.1
  refine ⟨a, cap, by rw [hl2], fun hne => ?_⟩
  have hpos : 0 < len := by rw [← hl2]; exact List.length_pos_iff.2 hne
  obtain ⟨b, o, ha, hb, hr⟩ := row_range h hpos
  refine ⟨b, o, ha, ?_⟩
  have e : cellsV ((zs.take len).map (fun n => UInt8.ofNat n.toNat)) = (zs.take len).map (Value.int .u8) := by
    unfold cellsV
    rw [List.map_map]
    refine List.map_congr_left (fun n hn => ?_)
    have := hwf n hn
    simp only [Function.comp_apply, byteV]
    congr 1
    rw [UInt8.toNat_ofNat_of_lt' (by show n.toNat < 256; omega)]
    omega
  rw [e]
  exact range_old hr hb hw

theorem row_ints {W : World} {a : Option Addr} {len cap : Nat} {zs : List Int} (h : RowIn .i64 W a len cap zs) :
    ∃ l : List Int, l.length = len ∧ (Assn.old W.heap.size W).Tells (fun w => IntsIn w (.slice a len cap) l) ∧ len ≤ 9223372036854775807 ∧ ∀ x ∈ l, -9223372036854775808 ≤ x ∧ x ≤ 9223372036854775807 := by
  have hlen : (zs.take len).length = len ∧ len ≤ 9223372036854775807 := by
    rcases h with ⟨_, rfl, _, rfl⟩ | ⟨x, _, hlc, hm, hz, _, _⟩
    · simp
    · unfold maxLen at hm
      simp; omega
  refine ⟨zs.take len, hlen.1, old_tells (fun w hw => ?_), hlen.2, fun n hn => ?_⟩
  · refine ⟨a, cap, by rw [hlen.1], fun hne => ?_⟩
    have hpos : 0 < len := by rw [← hlen.1]; exact List.length_pos_iff.2 hne
    obtain ⟨b, o, ha, hb, hr⟩ := row_range h hpos
    exact ⟨b, o, ha, range_old hr hb hw⟩
  · rcases h with ⟨_, _, _, rfl⟩ | ⟨x, _, _, _, _, _, hw⟩
    · simp at hn
    · have := hw n (List.mem_of_mem_take hn)
      simp [Lit.wf, IntKind.min, IntKind.max, IntKind.signed, IntKind.bits] at this
      omega

theorem old_below {W w' : World} (h : Bears w' (Assn.old W.heap.size W)) : Below W.heap.size W w' := by
  obtain ⟨F, rfl, h0, h1, h2, h3, h4⟩ := h
  exact ⟨h1, h2, h3, h0, h4⟩

end Go.Proofs.Ytaiobekochhemaa

/- A slice of calls (structs of five cells) that came in: its cells; no condition. -/
namespace Go.Proofs.Ytaiobekochhemaa
open Go.RowKit Go.ChangeShapes Go.WideShapes Go.Deep

section
variable {H : Type} {enc : TypeId × Value → H} {P : Program} {W : World} {spare : Nat → Bool} {held : Bool}

/-- The cells of a slice of structs whose fields are of one cell each, row by row. -/
theorem trod_rows {t e : TypeId} {fs : Array Field} (ht : P.underlying t = some (.slice e)) (he : P.underlying e = some (.struct fs)) (hone : oneCellFields P fs = true) (hC : P.cellsOf e = fs.size) (hpos : 0 < fs.size)
    {a : Option Addr} {len cap fuel : Nat} {x : DataW H × List MemPlace} (h : DataW.trod enc P W 0 spare held fuel t [.slice a len cap] = some x) :
    len ≤ maxLen ∧ ∃ rows : Nat → List Value, (0 < len → ∃ b o, a = some ⟨b, o, none⟩ ∧ b < W.heap.size ∧ ∀ i j, i < len → j < fs.size → W.cell? ⟨b, o + i * fs.size + j, none⟩ = (rows i)[j]?) ∧
      ∀ i, i < len → (rows i).length = fs.size ∧ ∀ (j : Nat) (f : Field), fs[j]? = some f → ∃ v n y, (rows i)[j]? = some v ∧ DataW.trod enc P W 0 spare held n f.type [v] = some y := by
  rcases open_slice ht h with ⟨hcs, _⟩ | ⟨a', len', cap', m, n, D, Pl, hcs, hb, hl, hm, hmm, hx, hi⟩
  · simp only [List.cons.injEq, Value.slice.injEq, and_true] at hcs
    obtain ⟨_, rfl, _⟩ := hcs
    exact ⟨by omega, fun _ => [], fun h => absurd h (by omega), fun i h => absurd h (by omega)⟩
  · simp only [List.cons.injEq, Value.slice.injEq, and_true] at hcs
    obtain ⟨rfl, rfl, rfl⟩ := hcs
    have hlm : len ≤ m := by rw [hmm]; split <;> omega
    obtain ⟨rows, hr⟩ := choose_lt hi
    have hrow : ∀ i, i < len → (rows i).length = fs.size ∧ ∀ j, j < fs.size → W.cell? (a'.add (i * fs.size + j)) = (rows i)[j]? := by
      intro i hi
      obtain ⟨h1, _⟩ := hr i (by omega)
      rw [hC] at h1
      obtain ⟨_, h2, h3⟩ := World.cells?_some h1
      exact ⟨h2, fun j hj => by rw [← add_add]; exact h3 j hj⟩
    refine ⟨by omega, rows, fun h0 => ?_, fun i hi => ⟨(hrow i hi).1, fun j f hj => ?_⟩⟩
    · obtain ⟨h1, h2⟩ := hrow 0 h0
      have h3 := h2 0 hpos
      rw [List.getElem?_eq_getElem (by omega)] at h3
      have e0 : a'.add (0 * fs.size + 0) = a' := by simp [Addr.add]
      rw [e0] at h3
      have ex := addr_of_cell h3
      refine ⟨a'.block, a'.off, by rw [← ex], World.block_lt_of_cell? W a' h3, fun i j hi hj => ?_⟩
      have h4 := (hrow i hi).2 j hj
      rw [ex, Addr.add_mid] at h4
      rw [← h4, Nat.add_assoc]
    · obtain ⟨hcl, h2⟩ := hrow i hi
      obtain ⟨_, h1⟩ := hr i (by omega)
      obtain ⟨ys, n', hn', hy, hlen, hyl, hf⟩ := DataW.trod_struct he h1
      obtain ⟨ho, hk⟩ := hone_of hone j f hj
      have hjl : j < fs.size := (Array.getElem?_eq_some_iff.1 hj).1
      have h4 := hf j f hj
      rw [ho, hk] at h4
      have h5 : ((rows i).drop j).take 1 = [(rows i)[j]'(by omega)] := by
        rw [List.drop_eq_getElem_cons (by omega)]
        rfl
      rw [h5, List.getElem?_eq_getElem (by omega)] at h4
      exact ⟨_, _, _, List.getElem?_eq_getElem (by omega), h4⟩

theorem trod_i64 {t : TypeId} {v : Value} {n : Nat} {y : DataW H × List MemPlace} (ht : P.underlying t = some (.int .i64)) (h : DataW.trod enc P W 0 spare held n t [v] = some y) :
    ∃ z, v = .int .i64 z ∧ -9223372036854775808 ≤ z ∧ z ≤ 9223372036854775807 := by
  obtain ⟨z, h1, _, h2⟩ := DataW.trod_int ht h
  simp only [List.cons.injEq, and_true] at h1
  simp [Lit.wf, IntKind.min, IntKind.max, IntKind.signed, IntKind.bits] at h2
  exact ⟨z, h1, by omega, by omega⟩
theorem trod_u8 {t : TypeId} {v : Value} {n : Nat} {y : DataW H × List MemPlace} (ht : P.underlying t = some (.int .u8)) (h : DataW.trod enc P W 0 spare held n t [v] = some y) : ∃ c, v = byteV c := by
  obtain ⟨z, h1, _, h2⟩ := DataW.trod_int ht h
  simp only [List.cons.injEq, and_true] at h1
  simp [Lit.wf, IntKind.min, IntKind.max, IntKind.signed, IntKind.bits] at h2
  refine ⟨UInt8.ofNat z.toNat, ?_⟩
  rw [h1]
  unfold byteV
  congr 1
  rw [UInt8.toNat_ofNat_of_lt' (by show z.toNat < 256; omega)]
  omega
theorem trod_row {t e : TypeId} {k : IntKind} {v : Value} {n : Nat} {y : DataW H × List MemPlace} (ht : P.underlying t = some (.slice e)) (he : P.underlying e = some (.int k)) (hc : P.cellsOf e = 1)
    (h : DataW.trod enc P W 0 (fun _ => true) held n t [v] = some y) : ∃ a len cap zs, v = .slice a len cap ∧ RowIn k W a len cap zs := by
  rcases open_ints ht he hc h with ⟨hcs, _⟩ | ⟨x, l, c, zs, hcs, _, hl, hm, hz, _, hcell, hwz⟩
  · simp only [List.cons.injEq, and_true] at hcs
    exact ⟨none, 0, 0, [], hcs, .inl ⟨rfl, rfl, rfl, rfl⟩⟩
  · simp only [List.cons.injEq, and_true] at hcs
    exact ⟨_, _, _, zs, hcs, .inr ⟨_, rfl, hl, hm, by simpa using hz, hcell, hwz⟩⟩
end

/-- A call of the disk's laws. -/
structure OpM where
  kind : Int
  at' : Int
  n : Int
  byte : UInt8
  kad : Option Addr
  kcap : Nat
  keep : List Int
instance : Inhabited OpM := ⟨⟨0, 0, 0, 0, none, 0, []⟩⟩
def OpM.row (o : OpM) : List Value := [.int .i64 o.kind, .int .i64 o.at', .int .i64 o.n, byteV o.byte, .slice o.kad o.keep.length o.kcap]
structure OpM.Fine (o : OpM) : Prop where
  kind : -9223372036854775808 ≤ o.kind ∧ o.kind ≤ 9223372036854775807
  at' : -9223372036854775808 ≤ o.at' ∧ o.at' ≤ 9223372036854775807
  n : -9223372036854775808 ≤ o.n ∧ o.n ≤ 9223372036854775807
  keeps : o.keep.length ≤ 9223372036854775807
  keep : ∀ x ∈ o.keep, -9223372036854775808 ≤ x ∧ x ≤ 9223372036854775807

def OpsIn (w : World) (v : Value) (ops : List OpM) : Prop :=
  ∃ ad cap, v = .slice ad ops.length cap ∧ (ops ≠ [] → ∃ b o, ad = some ⟨b, o, none⟩ ∧ ∀ i j u, i < ops.length → (ops.getD i default).row[j]? = some u → w.cell? ⟨b, o + i * 5 + j, none⟩ = some u) ∧
    ∀ k, k < ops.length → IntsIn w (.slice (ops.getD k default).kad (ops.getD k default).keep.length (ops.getD k default).kcap) (ops.getD k default).keep

theorem OpsIn.cells {w : World} {ad : Option Addr} {n cap : Nat} {ops : List OpM} (h : OpsIn w (.slice ad n cap) ops) {k : Nat} (hk : k < ops.length) :
    ∃ b o, ad = some ⟨b, o, none⟩ ∧ w.cell? ⟨b, o + k * 5, none⟩ = some (.int .i64 (ops.getD k default).kind) ∧ w.cell? ⟨b, o + k * 5 + 1, none⟩ = some (.int .i64 (ops.getD k default).at') ∧
      w.cell? ⟨b, o + k * 5 + 2, none⟩ = some (.int .i64 (ops.getD k default).n) ∧ w.cell? ⟨b, o + k * 5 + 3, none⟩ = some (byteV (ops.getD k default).byte) ∧
      w.cell? ⟨b, o + k * 5 + 4, none⟩ = some (.slice (ops.getD k default).kad (ops.getD k default).keep.length (ops.getD k default).kcap) := by
  obtain ⟨ad', cap', hv, hr, _⟩ := h
  simp only [Value.slice.injEq] at hv
  obtain ⟨rfl, _, _⟩ := hv
  obtain ⟨b, o, e, hc⟩ := hr (by intro e; simp [e] at hk)
  exact ⟨b, o, e, hc k 0 _ hk rfl, hc k 1 _ hk rfl, hc k 2 _ hk rfl, hc k 3 _ hk rfl, hc k 4 _ hk rfl⟩
theorem OpsIn.keep {w : World} {v : Value} {ops : List OpM} (h : OpsIn w v ops) {k : Nat} (hk : k < ops.length) :
    IntsIn w (.slice (ops.getD k default).kad (ops.getD k default).keep.length (ops.getD k default).kcap) (ops.getD k default).keep := by
  obtain ⟨ad', cap', hv, hr, h⟩ := h
  exact h k hk

end Go.Proofs.Ytaiobekochhemaa

/- A slice of the cache's calls (structs of four cells) that came in; no condition. -/
namespace Go.Proofs.Ytaiobekochhemaa
open Go.RowKit Go.ChangeShapes Go.WideShapes Go.Deep

structure COpM where
  kind : Int
  at' : Int
  n : Int
  byte : UInt8
instance : Inhabited COpM := ⟨⟨0, 0, 0, 0⟩⟩
def COpM.row (o : COpM) : List Value := [.int .i64 o.kind, .int .i64 o.at', .int .i64 o.n, byteV o.byte]
structure COpM.Fine (o : COpM) : Prop where
  kind : -9223372036854775808 ≤ o.kind ∧ o.kind ≤ 9223372036854775807
  at' : -9223372036854775808 ≤ o.at' ∧ o.at' ≤ 9223372036854775807
  n : -9223372036854775808 ≤ o.n ∧ o.n ≤ 9223372036854775807

def COpsIn (w : World) (v : Value) (ops : List COpM) : Prop :=
  ∃ ad cap, v = .slice ad ops.length cap ∧ (ops ≠ [] → ∃ b o, ad = some ⟨b, o, none⟩ ∧ ∀ i j u, i < ops.length → (ops.getD i default).row[j]? = some u → w.cell? ⟨b, o + i * 4 + j, none⟩ = some u)

theorem COpsIn.range {w : World} {ad : Option Addr} {n cap : Nat} {ops : List COpM} (h : COpsIn w (.slice ad n cap) ops) {k : Nat} (hk : k < ops.length) :
    ∃ b o, ad = some ⟨b, o, none⟩ ∧ w.rangeAt b (o + k * 4) (ops.getD k default).row := by
  obtain ⟨ad', cap', hv, hr⟩ := h
  simp only [Value.slice.injEq] at hv
  obtain ⟨rfl, _, _⟩ := hv
  obtain ⟨b, o, e, hc⟩ := hr (by intro e; simp [e] at hk)
  exact ⟨b, o, e, fun j u hu => hc k j u hk hu⟩

theorem COpsIn.cells {w : World} {ad : Option Addr} {n cap : Nat} {ops : List COpM} (h : COpsIn w (.slice ad n cap) ops) {k : Nat} (hk : k < ops.length) :
    ∃ b o, ad = some ⟨b, o, none⟩ ∧ w.cell? ⟨b, o + k * 4, none⟩ = some (.int .i64 (ops.getD k default).kind) ∧ w.cell? ⟨b, o + k * 4 + 1, none⟩ = some (.int .i64 (ops.getD k default).at') ∧
      w.cell? ⟨b, o + k * 4 + 2, none⟩ = some (.int .i64 (ops.getD k default).n) ∧ w.cell? ⟨b, o + k * 4 + 3, none⟩ = some (byteV (ops.getD k default).byte) := by
  obtain ⟨b, o, e, hr⟩ := h.range hk
  exact ⟨b, o, e, hr 0 _ rfl, hr 1 _ rfl, hr 2 _ rfl, hr 3 _ rfl⟩

theorem row_cops {H : Type} {enc : TypeId × Value → H} {W : World} {held : Bool} {a : Option Addr} {len cap fuel : Nat} {x : DataW H × List MemPlace}
    (h : DataW.trod enc Try.prog W 0 (fun _ => true) held fuel 34 [.slice a len cap] = some x) :
    ∃ ops : List COpM, ops.length = len ∧ (Assn.old W.heap.size W).Tells (fun w => COpsIn w (.slice a len cap) ops) ∧ len ≤ 9223372036854775807 ∧ ∀ k, k < ops.length → (ops.getD k default).Fine := by
  obtain ⟨hm, rows, hcell, hrow⟩ := trod_rows (P := Try.prog) (e := 42) Try.underlying34 Try.underlying42 (by kernel_rfl) (by kernel_rfl) (by decide) h
  have hop : ∀ i, i < len → ∃ o : COpM, rows i = o.row ∧ o.Fine := by
    intro i hi
    obtain ⟨hl, hf⟩ := hrow i hi
    obtain ⟨v0, n0, y0, g0, h0⟩ := hf 0 _ rfl
    obtain ⟨v1, n1, y1, g1, h1⟩ := hf 1 _ rfl
    obtain ⟨v2, n2, y2, g2, h2⟩ := hf 2 _ rfl
    obtain ⟨v3, n3, y3, g3, h3⟩ := hf 3 _ rfl
    obtain ⟨z0, rfl, b0⟩ := trod_i64 (by kernel_rfl) h0
    obtain ⟨z1, rfl, b1⟩ := trod_i64 (by kernel_rfl) h1
    obtain ⟨z2, rfl, b2⟩ := trod_i64 (by kernel_rfl) h2
    obtain ⟨c, rfl⟩ := trod_u8 (by kernel_rfl) h3
    refine ⟨⟨z0, z1, z2, c⟩, ?_, ⟨b0, b1, b2⟩⟩
    match hq : rows i, hl with
    | [u0, u1, u2, u3], _ =>
      rw [hq] at g0 g1 g2 g3
      simp only [List.getElem?_cons_zero, List.getElem?_cons_succ, Option.some.injEq] at g0 g1 g2 g3
      subst g0; subst g1; subst g2; subst g3
      rfl
  obtain ⟨f, hf⟩ := choose_lt hop
  have hget : ∀ i, i < len → ((List.range len).map f).getD i default = f i := by
    intro i hi
    simp [hi]
  refine ⟨(List.range len).map f, by simp, ?_, by unfold maxLen at hm; omega, fun k hk => ?_⟩
  · intro w hw
    refine ⟨a, cap, by simp, fun hne => ?_⟩
    have hpos : 0 < len := by
      rcases Nat.eq_zero_or_pos len with e | e
      · subst e; simp at hne
      · exact e
    obtain ⟨b, o, ha, hb, hc⟩ := hcell hpos
    refine ⟨b, o, ha, fun i j u hi hu => ?_⟩
    simp only [List.length_map, List.length_range] at hi
    rw [hget i hi] at hu
    have hj : j < 4 := by
      have := (List.getElem?_eq_some_iff.1 hu).1
      simpa [COpM.row] using this
    have h1 := hc i j hi hj
    rw [(hf i hi).1, hu] at h1
    have h2 : w.rangeAt b (o + i * 4 + j) [u] := old_tells (p := fun w => w.rangeAt b (o + i * 4 + j) [u]) (fun w hw => range_old (fun j' v' hv' => by
      cases j' with
      | zero => simp only [List.getElem?_cons_zero, Option.some.injEq] at hv'; subst hv'; exact h1
      | succ n => simp at hv') hb hw) w hw
    exact h2 0 u rfl
  · simp only [List.length_map, List.length_range] at hk
    rw [hget k hk]
    exact (hf k hk).2

end Go.Proofs.Ytaiobekochhemaa

/- Arrays of bools; a value that is built of nothing; no condition. -/
namespace Go.Proofs.Ytaiobekochhemaa
open Go.RowKit Go.MapKept

def boolsV (l : List Bool) : List Value := l.map Value.bool
theorem Bears.boolCell {w : World} {b : Nat} {l : List Bool} {t : TypeId} {R : Assn} (h : Bears w (Assn.obj b (.cells (boolsV l).toArray t (0, 0)) * R)) {j : Nat} (hj : j < l.length) : w.cell? ⟨b, j, none⟩ = some (.bool (l.getD j false)) := by
  rw [cell_of_obj h.obj]
  simp [boolsV, hj]
theorem Bears.setBool {w : World} {b : Nat} {l : List Bool} {t : TypeId} {R : Assn} (h : Bears w (Assn.obj b (.cells (boolsV l).toArray t (0, 0)) * R)) (j : Nat) (c : Bool) :
    Bears (w.setCell ⟨b, j, none⟩ (.bool c)) (Assn.obj b (.cells (boolsV (l.set j c)).toArray t (0, 0)) * R) :=
  (h.setCell (i := j) (.bool c)).cast (by simp [boolsV, List.map_set])
theorem oneCell_bools (l : List Bool) : ∀ v ∈ boolsV l, v.oneCell' = true := by
  intro v hv
  obtain ⟨u, _, rfl⟩ := List.mem_map.1 hv
  rfl
theorem exec_build0 {P : Program} {ev : Operand → Value} {o : Oper} {t : TypeId} {v : Value} {w : World} (ho : o.op = .build t #[]) (h : (Instr.build t #[]).run P w = .ok v w) : (execOp ev o).run P w = .ok (.value v) w := by
  unfold execOp
  simp only [ho, List.map_toArray, List.map_nil, Sem.run_bind, h, Result.andThen_ok]
  rfl
theorem wpList_load_range {P : Program} {w : World} {ops : Array Oper} {rest : List Oper} {o : Oper} {a : Act} {Q : Exit → Act → World → Prop} (ty : TypeId) (x : Operand) (hg : o.guard = none) (ho : o.op = .load ty x) (b off : Nat) (hx : a.eval x = .pointer (some ⟨b, off, none⟩)) (cs : List Value) (d : TypeDesc) (hc : w.rangeAt b off cs)
    (hu : P.underlying ty = some d) (hd : d.isRow = true) (hi : (P.info? ty).map (·.size) = some cs.length)
    (h : wpList P ops Q rest (a.put o.dst (.agg cs.toArray)) w) : wpList P ops Q (o :: rest) a w := by
  refine wpList_plain hg fun _ hK' => ?_
  unfold Oper.wp execOp
  simp only [ho, hx, Instr.loadAt, Instr.sureAddr, Sem.run_bind, Sem.run_pure, Result.andThen_ok, run_loadVar_mid w b off ty cs d hc hu hd hi]
  exact hK' _ _ h

end Go.Proofs.Ytaiobekochhemaa

/- The statements of the cache: the document's examples; no condition. -/
namespace Go.Proofs.Ytaiobekochhemaa
open Go.RowKit Go.MapKept

set_option maxRecDepth 100000 in
set_option maxHeartbeats 4000000 in
theorem shown3_any {R : Assn} {w : World} (h : Bears w R) :
    Calls Try.prog 20 #[] w fun e w' => e = .returned (.bool true) ∧ Bears w' R := by
  have f64 := fullB_length 1
  obtain ⟨f1, hf1⟩ : ∃ f1, fullB 1 = f1 := ⟨_, rfl⟩
  have Hf1 := Lib.hid hf1
  rw [hf1] at f64
  have F64 := Lib.hid f64
  clear hf1 f64
  obtain ⟨z, hz⟩ : ∃ z, zeroSec = z := ⟨_, rfl⟩
  go_enter Try.func20, Try.ntmps20
  go_wp2_with fail
  refine (ground3_any h 2 (by decide)).mono ?_
  rintro e w1 ⟨p, c, x, d, rfl, L, hl, hfu, _, _, h1⟩
  rw [hz] at L
  have k : ∀ i : Nat, 40 ≤ i → i < 100 → d.check (i : Int) = 0 := fun i _ h2 => DiskM.on_check L.off (by rw [hl]; exact h2)
  have n : ∀ i : Nat, 40 ≤ i → d.now i = z := fun i h1 => L.now (by omega)
  have K50 := Lib.hid (k 50 (by decide) (by decide))
  have K51 := Lib.hid (k 51 (by decide) (by decide))
  have K52 := Lib.hid (k 52 (by decide) (by decide))
  have N50 := Lib.hid (n 50 (by decide))
  have N51 := Lib.hid (n 51 (by decide))
  have N52 := Lib.hid (n 52 (by decide))
  have L' := Lib.hid L
  have hz' := Lib.hid hz
  have Hl := Lib.hid hl
  have Hfu := Lib.hid hfu
  clear k n L hz hl hfu
  have h1' := h1.pull3
  have h2 : Bears w1 (cacheA c p x ⟨2, 0, false, []⟩ * (diskA p d * (walObj x p 0 40 0 * R))) := h1.c23
  go_wp2_with fail
  refine (cread_disk_to (s := z) (cm' := ⟨2, 1, false, [⟨50, z, false⟩]⟩) h2 (by kernel_rfl) K50.out N50.out (by kernel_rfl) (by simp)).mono ?_
  rintro e w2 ⟨_, _, rfl, h3⟩
  have h4 := h3.right
  go_wp2_with fail
  refine (cread_disk_to (s := z) (cm' := ⟨2, 2, false, [⟨50, z, false⟩, ⟨51, z, false⟩]⟩) h4 (by kernel_rfl) K51.out N51.out (by kernel_rfl) (by simp)).mono ?_
  rintro e w3 ⟨_, _, rfl, h5⟩
  have h6 := h5.right
  go_wp2_with fail
  refine (cread_held_to (y := ⟨50, z, false⟩) (cm' := ⟨2, 2, false, [⟨51, z, false⟩, ⟨50, z, false⟩]⟩) h6 (by kernel_rfl) (by kernel_rfl) (by simp)).mono ?_
  rintro e w4 ⟨_, _, rfl, h7⟩
  have h8 := h7.right
  go_wp2_with fail
  refine (cread_disk_to (s := z) (cm' := ⟨2, 3, false, [⟨50, z, false⟩, ⟨52, z, false⟩]⟩) h8 (by kernel_rfl) K52.out N52.out (by kernel_rfl) (by simp)).mono ?_
  rintro e w5 ⟨_, _, rfl, h9⟩
  have h10 := h9.right
  clear h h1 h1' h2 h3 h4 h5 h6 h7 h8 h9
  go_wp2_with fail
  refine (cheld_to (n := 2) (l := [50, 52]) h10 rfl rfl (by simp)).mono ?_
  rintro e w6 ⟨va, vc, rfl, h11⟩
  have h12 := h11.alloc (.cells #[.int .i64 50, .int .i64 52] 3)
  go_wp2_with fail
  refine (ints_any (a := [50, 52]) (b := [50, 52]) (na := 2) (nb := 2) h12 ((rowA_ints rfl).right) (IntsIn.tells (l := [50, 52]) _ _ rfl) (by decide) (by decide)).mono ?_
  rintro e w7 ⟨rfl, h13⟩
  have h14 := h13.right.right
  go_wp2_with fail
  refine (cmisses_to (n := 3) h14 rfl).mono ?_
  rintro e w8 ⟨rfl, h15⟩
  clear h10 h11 h12 h13 h14
  go_wp2_with fail
  refine (full_any h15 1).mono ?_
  rintro e w20 ⟨g20, rfl, q20⟩
  rw [Hf1.out] at q20
  have e20 := Lib.hid (show CacheM.write ⟨2, 3, false, [⟨50, z, false⟩, ⟨52, z, false⟩]⟩ d.len 60 f1 = (30, ⟨2, 3, false, [⟨50, z, false⟩, ⟨52, z, false⟩]⟩) by simp [CacheM.write])
  go_wp2_with fail
  refine (cwrite_to (n := 64) q20.push3 e20.out (BytesIn.tells _ _ F64.out.symm) (by simp)).mono ?_
  rintro e v20 ⟨rfl, r20⟩
  have h20 := r20.pull3.right
  clear q20 r20
  go_wp2_with fail
  refine (cbegin_to (r := 0) (cm' := ⟨2, 3, true, [⟨50, z, false⟩, ⟨52, z, false⟩]⟩) h20 rfl).mono ?_
  rintro e w21 ⟨rfl, h21⟩
  go_wp2_with fail
  refine (cbegin_to (r := 30) (cm' := ⟨2, 3, true, [⟨50, z, false⟩, ⟨52, z, false⟩]⟩) h21 rfl).mono ?_
  rintro e w22 ⟨rfl, h22⟩
  go_wp2_with fail
  refine (full_any h22 1).mono ?_
  rintro e w23 ⟨g23, rfl, q23⟩
  rw [Hf1.out] at q23
  have e23 := Lib.hid (show CacheM.write ⟨2, 3, true, [⟨50, z, false⟩, ⟨52, z, false⟩]⟩ d.len 60 f1 = (0, ⟨2, 3, true, [⟨50, z, false⟩, ⟨52, z, false⟩, ⟨60, f1, true⟩]⟩) by simp [CacheM.write, Hl.out, F64.out, useL, forgetL])
  go_wp2_with fail
  refine (cwrite_to (n := 64) q23.push3 e23.out (BytesIn.tells _ _ F64.out.symm) (by simp)).mono ?_
  rintro e v23 ⟨rfl, r23⟩
  have h23 := r23.pull3.right
  clear q23 r23
  go_wp2_with fail
  refine (full_any h23 1).mono ?_
  rintro e w24 ⟨g24, rfl, q24⟩
  rw [Hf1.out] at q24
  have e24 := Lib.hid (show CacheM.write ⟨2, 3, true, [⟨50, z, false⟩, ⟨52, z, false⟩, ⟨60, f1, true⟩]⟩ d.len 61 f1 = (0, ⟨2, 3, true, [⟨50, z, false⟩, ⟨52, z, false⟩, ⟨60, f1, true⟩, ⟨61, f1, true⟩]⟩) by simp [CacheM.write, Hl.out, F64.out, useL, forgetL])
  go_wp2_with fail
  refine (cwrite_to (n := 64) q24.push3 e24.out (BytesIn.tells _ _ F64.out.symm) (by simp)).mono ?_
  rintro e v24 ⟨rfl, r24⟩
  have h24 := r24.pull3.right
  clear q24 r24
  go_wp2_with fail
  refine (full_any h24 1).mono ?_
  rintro e w25 ⟨g25, rfl, q25⟩
  rw [Hf1.out] at q25
  have e25 := Lib.hid (show CacheM.write ⟨2, 3, true, [⟨50, z, false⟩, ⟨52, z, false⟩, ⟨60, f1, true⟩, ⟨61, f1, true⟩]⟩ d.len 62 f1 = (0, ⟨2, 3, true, [⟨50, z, false⟩, ⟨52, z, false⟩, ⟨60, f1, true⟩, ⟨61, f1, true⟩, ⟨62, f1, true⟩]⟩) by simp [CacheM.write, Hl.out, F64.out, useL, forgetL])
  go_wp2_with fail
  refine (cwrite_to (n := 64) q25.push3 e25.out (BytesIn.tells _ _ F64.out.symm) (by simp)).mono ?_
  rintro e v25 ⟨rfl, r25⟩
  have h25 := r25.pull3.right
  clear q25 r25
  clear h15 h20 h21 h22 h23 h24
  go_wp2_with fail
  refine (cheld_to (n := 5) (l := [50, 52, 60, 61, 62]) h25 rfl rfl (by simp)).mono ?_
  rintro e w26 ⟨va2, vc2, rfl, h26⟩
  have h27 := h26.alloc (.cells #[.int .i64 50, .int .i64 52, .int .i64 60, .int .i64 61, .int .i64 62] 3)
  go_wp2_with fail
  refine (ints_any (a := [50, 52, 60, 61, 62]) (b := [50, 52, 60, 61, 62]) (na := 5) (nb := 5) h27 ((rowA_ints rfl).right) (IntsIn.tells (l := [50, 52, 60, 61, 62]) _ _ rfl) (by decide) (by decide)).mono ?_
  rintro e w28 ⟨rfl, h28⟩
  have h29 := h28.right.right
  go_wp2_with fail
  refine (cpinned_to (n := 3) h29 rfl).mono ?_
  rintro e w30 ⟨rfl, h30⟩
  have hpins : PinsOk d.len 0 40 [⟨50, z, false⟩, ⟨52, z, false⟩, ⟨60, f1, true⟩, ⟨61, f1, true⟩, ⟨62, f1, true⟩] := by
    refine ⟨fun y hy hp => ?_, by simp; decide⟩
    rw [Hl.out]
    simp only [List.mem_cons, List.not_mem_nil, or_false] at hy
    rcases hy with rfl | rfl | rfl | rfl | rfl <;> first | (simp at hp; done) | (simp only; omega)
  have HP := Lib.hid hpins
  clear hpins h25 h26 h27 h28 h29
  go_wp2_with fail
  refine (ccommit_log (g := 0) (F := fun _ => z) h30.c23 rfl L'.out Hfu.out (by decide) (by simp)).mono ?_
  rintro e w31 (⟨rfl, _, l, d2, _, L2, hfu2, hl2, _, h31⟩ | ⟨_, hno, _⟩)
  case inr => exact absurd HP.out hno
  have hn60 : d2.now 60 = f1 := by rw [L2.now (by omega)]; rfl
  have k60 : d2.check 60 = 0 := DiskM.on_check (i := 60) L2.off (by rw [hl2, Hl.out]; decide)
  have h32 : Bears w31 (cacheA c p x ⟨2, 3, false, [⟨61, f1, false⟩, ⟨62, f1, false⟩]⟩ * (diskA p d2 * (walObj x p 0 40 1 * R))) := h31.c23
  have N60 := Lib.hid hn60
  have K60 := Lib.hid k60
  clear hn60 k60 L2 hfu2 hl2 h31 h30
  go_wp2_with fail
  refine (cheld_to (n := 2) (l := [61, 62]) h32 rfl rfl (by simp)).mono ?_
  rintro e w33 ⟨va3, vc3, rfl, h33⟩
  have h34 := h33.alloc (.cells #[.int .i64 61, .int .i64 62] 3)
  go_wp2_with fail
  refine (ints_any (a := [61, 62]) (b := [61, 62]) (na := 2) (nb := 2) h34 ((rowA_ints rfl).right) (IntsIn.tells (l := [61, 62]) _ _ rfl) (by decide) (by decide)).mono ?_
  rintro e w35 ⟨rfl, h35⟩
  have h36 := h35.right.right
  go_wp2_with fail
  refine (cread_disk_to (s := f1) (cm' := ⟨2, 4, false, [⟨62, f1, false⟩, ⟨60, f1, false⟩]⟩) h36 (by kernel_rfl) K60.out N60.out (by kernel_rfl) (by simp)).mono ?_
  rintro e w37 ⟨ad7, cp7, rfl, h37⟩
  clear h32 h33 h34 h35 h36
  go_wp2_with fail
  have hN : Bears w37 (cacheA c p x ⟨2, 4, false, [⟨62, f1, false⟩, ⟨60, f1, false⟩]⟩ * (diskA p d2 * (walObj x p 0 40 1 * R))) := h37.right
  refine wp_region_L (fun w' => Bears w' (rowA 5 1 (.slice ad7 64 cp7) 64 (cellsV f1) * (cacheA c p x ⟨2, 4, false, [⟨62, f1, false⟩, ⟨60, f1, false⟩]⟩ * (diskA p d2 * (walObj x p 0 40 1 * R))))) 42
    [(true, 0), (true, 1), (true, 2), (true, 3), (true, 4), (true, 5), (true, 6), (true, 7), (true, 8), (true, 9), (true, 10), (true, 11), (true, 12), (true, 13), (true, 14), (true, 15), (true, 16), (true, 17), (true, 18), (true, 19), (true, 20), (true, 21), (true, 22), (true, 23), (true, 24), (true, 25), (true, 26), (true, 27), (true, 28), (true, 29), (true, 30), (true, 31), (true, 32), (true, 33), (true, 34), (true, 35), (true, 36), (true, 37), (false, 38), (false, 39), (true, 40), (true, 41)] [(true, 42)] (by kernel_rfl) (by kernel_rfl) h37.drew ?_
  simp only [pick, List.getElem?_cons_zero, List.getElem?_cons_succ]
  refine wpL_guarded (v := ?_) rfl (fun w' hS => ?_) ?_
  rotate_left
  · (go_simp; try with_reducible rfl)
  simp only [Act.put, List.setIfInBounds_toArray, List.set_cons_zero, List.set_cons_succ]
  refine wpL_guarded (v := ?_) rfl (fun w' hS => ?_) ?_
  rotate_left
  · (go_simp; try with_reducible rfl)
  simp only [Act.put, List.setIfInBounds_toArray, List.set_cons_zero, List.set_cons_succ]
  refine wpL_guarded (v := ?_) rfl (fun w' hS => ?_) ?_
  rotate_left
  · (go_simp; try with_reducible rfl)
  simp only [Act.put, List.setIfInBounds_toArray, List.set_cons_zero, List.set_cons_succ]
  refine wpL_guarded (v := ?_) rfl (fun w' hS => ?_) ?_
  rotate_left
  · (go_simp; try with_reducible rfl)
  simp only [Act.put, List.setIfInBounds_toArray, List.set_cons_zero, List.set_cons_succ]
  refine wpL_guarded (v := ?_) rfl (fun w' hS => ?_) ?_
  rotate_left
  · (go_simp; try with_reducible rfl)
  simp only [Act.put, List.setIfInBounds_toArray, List.set_cons_zero, List.set_cons_succ]
  refine wpL_guarded (v := ?_) rfl (fun w' hS => ?_) ?_
  rotate_left
  · (go_simp; try with_reducible rfl)
  simp only [Act.put, List.setIfInBounds_toArray, List.set_cons_zero, List.set_cons_succ]
  refine wpL_guarded (v := ?_) rfl (fun w' hS => ?_) ?_
  rotate_left
  · (go_simp; try with_reducible rfl)
  simp only [Act.put, List.setIfInBounds_toArray, List.set_cons_zero, List.set_cons_succ]
  refine wpL_guarded (v := ?_) rfl (fun w' hS => ?_) ?_
  rotate_left
  · (go_simp; try with_reducible rfl)
  simp only [Act.put, List.setIfInBounds_toArray, List.set_cons_zero, List.set_cons_succ]
  refine wpL_guarded (v := ?_) rfl (fun w' hS => ?_) ?_
  rotate_left
  · (go_simp; try with_reducible rfl)
  simp only [Act.put, List.setIfInBounds_toArray, List.set_cons_zero, List.set_cons_succ]
  refine wpL_guarded (v := ?_) rfl (fun w' hS => ?_) ?_
  rotate_left
  · (go_simp; try with_reducible rfl)
  simp only [Act.put, List.setIfInBounds_toArray, List.set_cons_zero, List.set_cons_succ]
  refine wpL_guarded (v := ?_) rfl (fun w' hS => ?_) ?_
  rotate_left
  · (go_simp; try with_reducible rfl)
  simp only [Act.put, List.setIfInBounds_toArray, List.set_cons_zero, List.set_cons_succ]
  refine wpL_guarded (v := ?_) rfl (fun w' hS => ?_) ?_
  rotate_left
  · (go_simp; try with_reducible rfl)
  simp only [Act.put, List.setIfInBounds_toArray, List.set_cons_zero, List.set_cons_succ]
  refine wpL_guarded (v := ?_) rfl (fun w' hS => ?_) ?_
  rotate_left
  · (go_simp; try with_reducible rfl)
  simp only [Act.put, List.setIfInBounds_toArray, List.set_cons_zero, List.set_cons_succ]
  refine wpL_guarded (v := ?_) rfl (fun w' hS => ?_) ?_
  rotate_left
  · (go_simp; try with_reducible rfl)
  simp only [Act.put, List.setIfInBounds_toArray, List.set_cons_zero, List.set_cons_succ]
  refine wpL_guarded (v := ?_) rfl (fun w' hS => ?_) ?_
  rotate_left
  · (go_simp; try with_reducible rfl)
  simp only [Act.put, List.setIfInBounds_toArray, List.set_cons_zero, List.set_cons_succ]
  refine wpL_guarded (v := ?_) rfl (fun w' hS => ?_) ?_
  rotate_left
  · (go_simp; try with_reducible rfl)
  simp only [Act.put, List.setIfInBounds_toArray, List.set_cons_zero, List.set_cons_succ]
  refine wpL_guarded (v := ?_) rfl (fun w' hS => ?_) ?_
  rotate_left
  · (go_simp; try with_reducible rfl)
  simp only [Act.put, List.setIfInBounds_toArray, List.set_cons_zero, List.set_cons_succ]
  refine wpL_guarded (v := ?_) rfl (fun w' hS => ?_) ?_
  rotate_left
  · (go_simp; try with_reducible rfl)
  simp only [Act.put, List.setIfInBounds_toArray, List.set_cons_zero, List.set_cons_succ]
  refine wpL_guarded (v := ?_) rfl (fun w' hS => ?_) ?_
  rotate_left
  · (go_simp; try with_reducible rfl)
  simp only [Act.put, List.setIfInBounds_toArray, List.set_cons_zero, List.set_cons_succ]
  refine wpL_guarded (v := ?_) rfl (fun w' hS => ?_) ?_
  rotate_left
  · (go_simp; try with_reducible rfl)
  simp only [Act.put, List.setIfInBounds_toArray, List.set_cons_zero, List.set_cons_succ]
  refine wpL_guarded (v := ?_) rfl (fun w' hS => ?_) ?_
  rotate_left
  · (go_simp; try with_reducible rfl)
  simp only [Act.put, List.setIfInBounds_toArray, List.set_cons_zero, List.set_cons_succ]
  refine wpL_guarded (v := ?_) rfl (fun w' hS => ?_) ?_
  rotate_left
  · (go_simp; try with_reducible rfl)
  simp only [Act.put, List.setIfInBounds_toArray, List.set_cons_zero, List.set_cons_succ]
  refine wpL_guarded (v := ?_) rfl (fun w' hS => ?_) ?_
  rotate_left
  · (go_simp; try with_reducible rfl)
  simp only [Act.put, List.setIfInBounds_toArray, List.set_cons_zero, List.set_cons_succ]
  refine wpL_guarded (v := ?_) rfl (fun w' hS => ?_) ?_
  rotate_left
  · (go_simp; try with_reducible rfl)
  simp only [Act.put, List.setIfInBounds_toArray, List.set_cons_zero, List.set_cons_succ]
  refine wpL_guarded (v := ?_) rfl (fun w' hS => ?_) ?_
  rotate_left
  · (go_simp; try with_reducible rfl)
  simp only [Act.put, List.setIfInBounds_toArray, List.set_cons_zero, List.set_cons_succ]
  refine wpL_guarded (v := ?_) rfl (fun w' hS => ?_) ?_
  rotate_left
  · (go_simp; try with_reducible rfl)
  simp only [Act.put, List.setIfInBounds_toArray, List.set_cons_zero, List.set_cons_succ]
  refine wpL_guarded (v := ?_) rfl (fun w' hS => ?_) ?_
  rotate_left
  · (go_simp; try with_reducible rfl)
  simp only [Act.put, List.setIfInBounds_toArray, List.set_cons_zero, List.set_cons_succ]
  refine wpL_guarded (v := ?_) rfl (fun w' hS => ?_) ?_
  rotate_left
  · (go_simp; try with_reducible rfl)
  simp only [Act.put, List.setIfInBounds_toArray, List.set_cons_zero, List.set_cons_succ]
  refine wpL_guarded (v := ?_) rfl (fun w' hS => ?_) ?_
  rotate_left
  · (go_simp; try with_reducible rfl)
  simp only [Act.put, List.setIfInBounds_toArray, List.set_cons_zero, List.set_cons_succ]
  refine wpL_guarded (v := ?_) rfl (fun w' hS => ?_) ?_
  rotate_left
  · (go_simp; try with_reducible rfl)
  simp only [Act.put, List.setIfInBounds_toArray, List.set_cons_zero, List.set_cons_succ]
  refine wpL_guarded (v := ?_) rfl (fun w' hS => ?_) ?_
  rotate_left
  · (go_simp; try with_reducible rfl)
  simp only [Act.put, List.setIfInBounds_toArray, List.set_cons_zero, List.set_cons_succ]
  refine wpL_guarded (v := ?_) rfl (fun w' hS => ?_) ?_
  rotate_left
  · (go_simp; try with_reducible rfl)
  simp only [Act.put, List.setIfInBounds_toArray, List.set_cons_zero, List.set_cons_succ]
  refine wpL_guarded (v := ?_) rfl (fun w' hS => ?_) ?_
  rotate_left
  · (go_simp; try with_reducible rfl)
  simp only [Act.put, List.setIfInBounds_toArray, List.set_cons_zero, List.set_cons_succ]
  refine wpL_guarded (v := ?_) rfl (fun w' hS => ?_) ?_
  rotate_left
  · (go_simp; try with_reducible rfl)
  simp only [Act.put, List.setIfInBounds_toArray, List.set_cons_zero, List.set_cons_succ]
  refine wpL_guarded (v := ?_) rfl (fun w' hS => ?_) ?_
  rotate_left
  · (go_simp; try with_reducible rfl)
  simp only [Act.put, List.setIfInBounds_toArray, List.set_cons_zero, List.set_cons_succ]
  refine wpL_guarded (v := ?_) rfl (fun w' hS => ?_) ?_
  rotate_left
  · (go_simp; try with_reducible rfl)
  simp only [Act.put, List.setIfInBounds_toArray, List.set_cons_zero, List.set_cons_succ]
  refine wpL_guarded (v := ?_) rfl (fun w' hS => ?_) ?_
  rotate_left
  · (go_simp; try with_reducible rfl)
  simp only [Act.put, List.setIfInBounds_toArray, List.set_cons_zero, List.set_cons_succ]
  refine wpL_guarded rfl (fun w' hS => exec_convert rfl rfl (run_convert_in (rowA_bytes F64.out.symm _ hS))) ?_
  refine wpL_effG rfl ?_
  go_simp
  refine (full_any h37.drew 1).mono ?_
  rintro e w38 ⟨g8, rfl, h38⟩
  rw [Hf1.out] at h38
  refine ⟨h38.right, ?_⟩
  refine wpL_effG rfl (wp_of_run (exec_convert rfl rfl (run_convert_in (BytesIn.tells _ _ F64.out.symm _ h38))) ⟨h38.right, ?_⟩)
  simp only [Act.put, List.setIfInBounds_toArray, List.set_cons_zero, List.set_cons_succ]
  refine wpL_guarded (v := ?_) rfl (fun w' hS => ?_) ?_
  rotate_left
  · (go_simp; try with_reducible rfl)
  simp only [Act.put, List.setIfInBounds_toArray, List.set_cons_zero, List.set_cons_succ]
  refine wpL_guarded (v := ?_) rfl (fun w' hS => ?_) ?_
  rotate_left
  · (go_simp; try with_reducible rfl)
  simp only [Act.put, List.setIfInBounds_toArray, List.set_cons_zero, List.set_cons_succ]
  refine wpL_nil ?_
  refine wpL_yield (v := ?_) rfl (fun w' hS => ?_) ?_
  rotate_left
  · (go_simp; try with_reducible rfl)
  simp only [Act.put, List.setIfInBounds_toArray, List.set_cons_zero]
  refine wpL_nil ?_
  go_wp2
  go_ret
  exact ⟨rfl, h38.right.right.right.right.right⟩

end Go.Proofs.Ytaiobekochhemaa

/- How many steps a log's acts do; plain; no condition. -/
namespace Go.Proofs.Ytaiobekochhemaa
open Go.RowKit Go.MapKept

/-- From d to d' at the most n steps were done, and none is lost. -/
def Stepped (d d' : DiskM) (n : Nat) : Prop := 0 ≤ d.steps → d.steps + n < 9223372036854775808 → d.steps ≤ d'.steps ∧ d'.steps ≤ d.steps + n
theorem Stepped.refl (d : DiskM) (n : Nat) : Stepped d d n := fun _ _ => ⟨Int.le_refl _, by omega⟩
theorem Stepped.trans {a b c : DiskM} {m n : Nat} (h : Stepped a b m) (k : Stepped b c n) : Stepped a c (m + n) := fun h0 h1 => by
  obtain ⟨h2, h3⟩ := h h0 (by omega)
  obtain ⟨h4, h5⟩ := k (by omega) (by omega)
  exact ⟨by omega, by omega⟩
theorem Stepped.mono {a b : DiskM} {m n : Nat} (h : Stepped a b m) (hn : m ≤ n) : Stepped a b n := fun h0 h1 => by
  obtain ⟨h2, h3⟩ := h h0 (by omega)
  exact ⟨h2, by omega⟩
theorem Stepped.same {a b c : DiskM} {n : Nat} (h : Stepped a b n) (e : c.steps = b.steps) : Stepped a c n := fun h0 h1 => by rw [e]; exact h h0 h1

theorem step_stepped (d : DiskM) : Stepped d d.step.2 1 := by
  intro h0 h1
  unfold DiskM.step
  split
  · exact ⟨Int.le_refl _, by simp only; omega⟩
  · simp only
    unfold wrap64
    omega
theorem write_stepped (d : DiskM) (i : Int) (b : Sec) : Stepped d (d.write i b).2 1 := by
  unfold DiskM.write
  split
  · exact Stepped.refl d 1
  · split
    · exact Stepped.refl d 1
    · split
      · exact step_stepped d
      · exact (step_stepped d).same rfl
theorem barrier_stepped (d : DiskM) : Stepped d d.barrier.2 1 := by
  unfold DiskM.barrier
  split
  · exact Stepped.refl d 1
  · split
    · exact step_stepped d
    · exact (step_stepped d).same rfl
theorem barrier_more {d : DiskM} (h0 : 0 ≤ d.steps) (h1 : d.steps + 1 < 9223372036854775808) (h : d.barrier.1 = 0) : d.steps < d.barrier.2.steps := by
  unfold DiskM.barrier at h ⊢
  split at h
  · cases h
  · rename_i ho
    rw [if_neg ho]
    split at h
    · rename_i hs
      exact absurd h hs
    · rename_i hs
      rw [if_neg hs]
      simp only
      unfold DiskM.step at hs ⊢
      split at hs
      · exact absurd (by simp) hs
      · rename_i hf
        rw [if_neg hf]
        simp only
        unfold wrap64
        omega
theorem both_stepped (d : DiskM) (a s : Nat) (g h : Int) : Stepped d (wBoth d a s g h).2 3 := by
  unfold wBoth
  split
  · exact (barrier_stepped d).mono (by decide)
  · split
    · exact ((barrier_stepped d).trans (write_stepped _ _ _)).mono (by decide)
    · exact ((barrier_stepped d).trans (write_stepped _ _ _)).trans (barrier_stepped _)
theorem both_more {d : DiskM} {a s : Nat} {g h : Int} (h0 : 0 ≤ d.steps) (h1 : d.steps + 3 < 9223372036854775808) (hr : (wBoth d a s g h).1 = 0) : d.steps < (wBoth d a s g h).2.steps := by
  unfold wBoth at hr ⊢
  split at hr
  · rename_i hb; exact absurd hr hb
  · rename_i hb
    rw [if_neg hb]
    have h2 := barrier_more h0 (by omega) (by simpa using hb)
    have h3 := (barrier_stepped d h0 (by omega)).2
    split at hr
    · rename_i hw; exact absurd hr hw
    · rename_i hw
      rw [if_neg hw]
      have h4 := (write_stepped d.barrier.2 a (headB s g h)) (by omega) (by omega)
      have h5 := (barrier_stepped (d.barrier.2.write a (headB s g h)).2) (by omega) (by omega)
      omega
theorem bytes_stepped (d : DiskM) (a s : Nat) (l : List PutM) : ∀ k, Stepped d (wBytes d a s l k).2 k
  | 0 => Stepped.refl d 0
  | k + 1 => by
    simp only [wBytes]
    split
    · exact (bytes_stepped d a s l k).mono (by omega)
    · exact (bytes_stepped d a s l k).trans (write_stepped _ _ _)
theorem lists_stepped (d : DiskM) (a : Nat) (l : List PutM) : ∀ k, Stepped d (wLists d a l k).2 k
  | 0 => Stepped.refl d 0
  | k + 1 => by
    simp only [wLists]
    split
    · exact (lists_stepped d a l k).mono (by omega)
    · exact (lists_stepped d a l k).trans (write_stepped _ _ _)
theorem round_stepped (d : DiskM) (a s i : Nat) : Stepped d (wRound d a s i).2 1 := by
  unfold wRound
  split
  · exact Stepped.refl d 1
  · split
    · exact Stepped.refl d 1
    · exact write_stepped _ _ _
theorem loop_stepped (d : DiskM) (a s : Nat) : ∀ k, Stepped d (wLoop d a s k).2 k
  | 0 => Stepped.refl d 0
  | k + 1 => by
    simp only [wLoop]
    split
    · exact (loop_stepped d a s k).mono (by omega)
    · exact (loop_stepped d a s k).trans (round_stepped _ _ _ _)
theorem finish_stepped (d : DiskM) (a s : Nat) (g : Int) (n : Nat) : Stepped d (wFinish d a s g n).2 (n + 3) := by
  unfold wFinish
  split
  · exact (loop_stepped d a s n).mono (by omega)
  · exact (loop_stepped d a s n).trans (both_stepped _ _ _ _ _)

/-- A commit that is answered with OK has done a step, and few. -/
theorem commit_steps {d d' : DiskM} {a s : Nat} {g g' : Int} {l : List PutM} (h : wCommit d a s g l = (0, g', d')) (h0 : 0 ≤ d.steps) (h1 : d.steps + (3 * l.length + 10 : Nat) < 9223372036854775808) :
    d.steps < d'.steps ∧ d'.steps ≤ d.steps + (3 * l.length + 10 : Nat) := by
  cases hm : wMay d.len a s l with
  | false => rw [wCommit_no hm] at h; cases h
  | true =>
    have hl : listsN l.length ≤ l.length + 1 := by unfold listsN; omega
    obtain ⟨r1, d1, hb⟩ : ∃ r d1, wBytes d a s l l.length = (r, d1) := ⟨_, _, rfl⟩
    by_cases hr1 : r1 = 0
    · subst hr1
      obtain ⟨r2, d2, hs⟩ : ∃ r d2, wLists d1 a l (listsN l.length) = (r, d2) := ⟨_, _, rfl⟩
      by_cases hr2 : r2 = 0
      · subst hr2
        obtain ⟨r3, d3, ho⟩ : ∃ r d3, wBoth d2 a s (wrap64 (g + 1)) l.length = (r, d3) := ⟨_, _, rfl⟩
        rw [wCommit_both hm hb hs ho] at h
        have s1 := bytes_stepped d a s l l.length h0 (by omega)
        rw [hb] at s1
        simp only at s1
        have s2 := lists_stepped d1 a l (listsN l.length) (by omega) (by omega)
        rw [hs] at s2
        simp only at s2
        have s3 := both_stepped d2 a s (wrap64 (g + 1)) l.length (by omega) (by omega)
        rw [ho] at s3
        simp only at s3
        by_cases hr3 : r3 = 0
        · subst hr3
          have s4 := both_more (d := d2) (a := a) (s := s) (g := wrap64 (g + 1)) (h := l.length) (by omega) (by omega) (by rw [ho])
          rw [ho] at s4
          simp only at s4
          have s5 := finish_stepped d3 a s (wrap64 (g + 1)) l.length (by omega) (by omega)
          split at h
          · simp only [Prod.mk.injEq] at h
            obtain ⟨_, _, rfl⟩ := h
            omega
          · simp only [Prod.mk.injEq] at h
            obtain ⟨_, _, rfl⟩ := h
            omega
        · rw [if_pos (.inl hr3)] at h
          simp only [Prod.mk.injEq] at h
          exact absurd h.1 hr3
      · rw [wCommit_lists hm hb hs hr2 (Nat.le_refl _)] at h
        simp only [Prod.mk.injEq] at h
        exact absurd h.1 hr2
    · rw [wCommit_bytes hm hb hr1 (Nat.le_refl _)] at h
      simp only [Prod.mk.injEq] at h
      exact absurd h.1 hr1

end Go.Proofs.Ytaiobekochhemaa

/- The statements of the cache: calls that keep its bounds; no condition. -/
namespace Go.Proofs.Ytaiobekochhemaa
open Go.RowKit Go.MapKept

def freeN (ls : List LineM) : Nat := (ls.filter fun y => !y.pin).length
theorem freeN_sub {a b : List LineM} (h : a.Sublist b) : freeN a ≤ freeN b := (h.filter _).length_le
theorem freeN_le (ls : List LineM) : freeN ls ≤ ls.length := List.length_filter_le _ _
theorem dropFree_none : ∀ {ls : List LineM}, dropFree ls = none → freeN ls = 0
  | [], _ => rfl
  | y :: r, h => by
    simp only [dropFree] at h
    split at h
    · cases h
    · rename_i hp
      have : dropFree r = none := by simpa using h
      have ih := dropFree_none this
      unfold freeN at ih ⊢
      simp only [List.filter_cons]
      simp only [Bool.not_eq_false] at hp
      simp [hp, ih]
theorem trimL_free {most : Int} : ∀ (n : Nat) {ls : List LineM}, ls.length = n → 0 ≤ most → (freeN (trimL most n ls) : Int) ≤ most
  | 0, ls, h, hm => by
    obtain rfl : ls = [] := List.eq_nil_of_length_eq_zero h
    simpa [trimL, freeN] using hm
  | n + 1, ls, h, hm => by
    simp only [trimL]
    split
    · rename_i h1
      have := freeN_le ls
      omega
    · cases hd : dropFree ls with
      | none =>
        simp only
        rw [dropFree_none hd]
        omega
      | some r =>
        simp only
        exact trimL_free n (by have := (dropFree_sub hd).2; omega) hm

/-- What a cache's bounds say. -/
structure Bounds (cm : CacheM) (d : DiskM) (n g : Nat) (F : Nat → Sec) (k : Nat) : Prop where
  log : LogOn d 0 40 g F
  few : g ≤ k
  fuse : d.fuse = -1
  len : d.len = 100
  most : cm.most = n
  nodup : (cm.lines.map (·.at')).Nodup
  range : ∀ y ∈ cm.lines, 0 ≤ y.at' ∧ y.at' < 100
  free : freeN cm.lines ≤ n
  steps : 0 ≤ d.steps ∧ d.steps ≤ 1000 + 150 * (k : Int)
theorem Bounds.length {cm : CacheM} {d : DiskM} {n g : Nat} {F : Nat → Sec} {k : Nat} (h : Bounds cm d n g F k) : cm.lines.length ≤ 100 := by
  have := nodup_bound 100 _ h.nodup (fun i hi => by
    obtain ⟨y, hy, rfl⟩ := List.mem_map.1 hi
    exact h.range y hy)
  simpa using this
theorem Bounds.new {d : DiskM} {n : Nat} {m : Int} {F : Nat → Sec} (hm : m = n) (h : LogOn d 0 40 0 F) (h2 : d.fuse = -1) (h3 : d.len = 100) (h4 : 0 ≤ d.steps ∧ d.steps ≤ 1000) : Bounds (CacheM.new m) d n 0 F 0 :=
  ⟨h, Nat.le_refl _, h2, h3, hm, by simp [CacheM.new], by simp [CacheM.new], by simp [CacheM.new, freeN], by simpa using h4⟩

def boundA (c p x n k : Nat) (d : DiskM) : Assn := Assn.ex fun (z : CacheM × Nat × (Nat → Sec)) => Assn.fact (Bounds z.1 d n z.2.1 z.2.2 k) * (cacheA c p x z.1 * (walObj x p 0 40 (z.2.1 : Int) * diskA p d))
theorem Bears.bound {w : World} {c p x n k : Nat} {d : DiskM} {R : Assn} : Bears w (boundA c p x n k d * R) ↔ ∃ cm g F, Bounds cm d n g F k ∧ Bears w (cacheA c p x cm * (diskA p d * (walObj x p 0 40 (g : Int) * R))) := by
  unfold boundA
  rw [Bears.ex]
  simp only [Assn.mul_assoc']
  constructor
  · rintro ⟨⟨cm, g, F⟩, h⟩
    obtain ⟨h1, h⟩ := Bears.fact.1 h
    exact ⟨cm, g, F, h1, h.c23⟩
  · rintro ⟨cm, g, F, h1, h⟩
    exact ⟨⟨cm, g, F⟩, Bears.fact.2 ⟨h1, h.c23⟩⟩

theorem Bounds.more {cm : CacheM} {d : DiskM} {n g : Nat} {F : Nat → Sec} {k : Nat} (h : Bounds cm d n g F k) : Bounds cm d n g F (k + 1) := ⟨h.log, by have := h.few; omega, h.fuse, h.len, h.most, h.nodup, h.range, h.free, by have := h.steps; omega⟩
theorem Bears.more {w : World} {c p x n k : Nat} {d : DiskM} {R : Assn} (h : Bears w (boundA c p x n k d * R)) : Bears w (boundA c p x n (k + 1) d * R) := by
  obtain ⟨cm, g, F, hB, h⟩ := Bears.bound.1 h
  exact Bears.bound.2 ⟨cm, g, F, hB.more, h⟩

theorem freeN_use {y : LineM} {ls : List LineM} (hy : y.pin = true) : freeN (useL y ls) ≤ freeN ls := by
  unfold freeN useL
  rw [List.filter_append]
  have := ((forgetL_sub y.at' ls).filter fun z => !z.pin).length_le
  simp [hy]
  exact this
theorem Bounds.used {cm : CacheM} {d : DiskM} {n g : Nat} {F : Nat → Sec} {k : Nat} (h : Bounds cm d n g F k) {y : LineM} (hy : 0 ≤ y.at' ∧ y.at' < 100) : Bounds (cm.used y) d n g F k := by
  refine ⟨h.log, h.few, h.fuse, h.len, h.most, ((trimL_sub _ _ _).map _).nodup (useL_nodup h.nodup), fun z hz => ?_, ?_, ?_⟩
  · rcases mem_useL ((trimL_sub _ _ _).subset hz) with rfl | hz
    · exact hy
    · exact h.range z hz
  · have := trimL_free (most := cm.most) _ (ls := useL y cm.lines) rfl (by rw [h.most]; omega)
    rw [h.most] at this
    simp only [CacheM.used]
    rw [h.most]
    omega
  · exact h.steps
theorem bread_any {c p x n k : Nat} {d : DiskM} {R : Assn} {w : World} (h : Bears w (boundA c p x n k d * R)) (i : Int) :
    Calls Try.prog 24 #[.pointer (some ⟨c, 0, none⟩), .int .i64 i] w fun e w' => (∃ v e', e = .returned (.tuple #[v, .int .i64 e'])) ∧ Bears w' (boundA c p x n k d * R) := by
  obtain ⟨cm, g, F, hB, h⟩ := Bears.bound.1 h
  have hl := hB.length
  cases hf : findL i cm.lines with
  | some y =>
    refine (cread_held_to h hf rfl (by omega)).mono ?_
    rintro e w' ⟨ad, cap, rfl, h2⟩
    exact ⟨⟨_, _, rfl⟩, Bears.bound.2 ⟨_, g, F, hB.used (hB.range y (findL_mem hf).1), h2.right⟩⟩
  | none =>
    by_cases hck : d.check i = 0
    · refine (cread_disk_to h hf hck rfl rfl (by omega)).mono ?_
      rintro e w' ⟨ad, cap, rfl, h2⟩
      have hi := (check_range hck).2
      rw [hB.len] at hi
      have hB' : Bounds ({ cm with misses := wrap64 (cm.misses + 1) } : CacheM) d n g F k := ⟨hB.log, hB.few, hB.fuse, hB.len, hB.most, hB.nodup, hB.range, hB.free, hB.steps⟩
      exact ⟨⟨_, _, rfl⟩, Bears.bound.2 ⟨_, g, F, hB'.used (y := ⟨i, _, false⟩) (by simp only; omega), h2.right⟩⟩
    · refine (cread_no_to h hf rfl hck).mono ?_
      rintro e w' ⟨rfl, h2⟩
      exact ⟨⟨_, _, rfl⟩, Bears.bound.2 ⟨cm, g, F, hB, h2⟩⟩

theorem bwrite_any {c p x n k : Nat} {d : DiskM} {R : Assn} {w : World} {i : Int} {b : Sec} {ad : Option Addr} {m cap : Nat} (h : Bears w (boundA c p x n k d * R)) (hb : R.Tells (fun w => BytesIn w (.slice ad m cap) b)) :
    Calls Try.prog 28 #[.pointer (some ⟨c, 0, none⟩), .int .i64 i, .slice ad m cap] w fun e w' => (∃ v, e = .returned v) ∧ Bears w' (boundA c p x n k d * R) := by
  obtain ⟨cm, g, F, hB, h⟩ := Bears.bound.1 h
  have hl := hB.length
  refine (cwrite_any h hb.right (by omega)).mono ?_
  rintro e w' ⟨rfl, h2⟩
  refine ⟨⟨_, rfl⟩, Bears.bound.2 ⟨_, g, F, ?_, h2⟩⟩
  unfold CacheM.write
  split
  · exact hB
  · split
    · exact hB
    · split
      · exact hB
      · rename_i hi _
        rw [hB.len] at hi
        refine ⟨hB.log, hB.few, hB.fuse, hB.len, hB.most, useL_nodup hB.nodup, fun z hz => ?_, Nat.le_trans (freeN_use rfl) hB.free, hB.steps⟩
        rcases mem_useL hz with rfl | hz
        · simp only; omega
        · exact hB.range z hz

theorem bbegin_any {c p x n k : Nat} {d : DiskM} {R : Assn} {w : World} (h : Bears w (boundA c p x n k d * R)) :
    Calls Try.prog 29 #[.pointer (some ⟨c, 0, none⟩)] w fun e w' => (∃ v, e = .returned v) ∧ Bears w' (boundA c p x n k d * R) := by
  obtain ⟨cm, g, F, hB, h⟩ := Bears.bound.1 h
  refine (cbegin_any h).mono ?_
  rintro e w' ⟨rfl, h2⟩
  refine ⟨⟨_, rfl⟩, Bears.bound.2 ⟨_, g, F, ?_, h2⟩⟩
  unfold CacheM.begins
  split
  · exact hB
  · exact ⟨hB.log, hB.few, hB.fuse, hB.len, hB.most, hB.nodup, hB.range, hB.free, hB.steps⟩

theorem babort_any {c p x n k : Nat} {d : DiskM} {R : Assn} {w : World} (h : Bears w (boundA c p x n k d * R)) :
    Calls Try.prog 33 #[.pointer (some ⟨c, 0, none⟩)] w fun e w' => (∃ v, e = .returned v) ∧ Bears w' (boundA c p x n k d * R) := by
  obtain ⟨cm, g, F, hB, h⟩ := Bears.bound.1 h
  refine (cabort_any h).mono ?_
  rintro e w' ⟨rfl, h2⟩
  refine ⟨⟨_, rfl⟩, Bears.bound.2 ⟨_, g, F, ?_, h2⟩⟩
  unfold CacheM.abort
  split
  · exact hB
  · exact ⟨hB.log, hB.few, hB.fuse, hB.len, hB.most, (List.filter_sublist.map _).nodup hB.nodup, fun y hy => hB.range y (List.mem_filter.1 hy).1, Nat.le_trans (freeN_sub List.filter_sublist) hB.free, hB.steps⟩

theorem bcommit_any {c p x n k : Nat} {d : DiskM} {R : Assn} {w : World} (h : Bears w (boundA c p x n k d * R)) (hk : k < 1000000) :
    Calls Try.prog 31 #[.pointer (some ⟨c, 0, none⟩)] w fun e w' =>
      (∃ d', e = .returned (.int .i64 0) ∧ d.steps < d'.steps ∧ Bears w' (boundA c p x n (k + 1) d' * R)) ∨ (∃ v, e = .returned (.int .i64 v) ∧ v ≠ 0 ∧ Bears w' (boundA c p x n (k + 1) d * R)) := by
  obtain ⟨cm, g, F, hB, h⟩ := Bears.bound.1 h
  have hl := hB.length
  cases ho : cm.isOpen with
  | false =>
    refine (ccommit_closed h ho).mono ?_
    rintro e w' ⟨rfl, rfl⟩
    exact .inr ⟨30, rfl, by decide, Bears.bound.2 ⟨cm, g, F, hB.more, h⟩⟩
  | true =>
    refine (ccommit_log h.c23 ho hB.log hB.fuse (by have := hB.few; omega) (by omega)).mono ?_
    rintro e w' (⟨rfl, hok, l, d', hc, hL, hfu, hlen, hll, h2⟩ | ⟨rfl, _, h2⟩)
    · have hfew : l.length ≤ 37 := by rw [hll]; exact hok.few
      have hst := hB.steps
      have hs := commit_steps hc hst.1 (by omega)
      refine .inl ⟨d', rfl, hs.1, Bears.bound.2 ⟨cm.commits, g + 1, _, ⟨hL, by have := hB.few; omega, hfu, by rw [hlen, hB.len], hB.most, ?_, fun y hy => ?_, ?_, by omega⟩, h2.c23⟩⟩
      · exact ((trimL_sub _ _ _).map _).nodup (by rw [unpinL_at]; exact hB.nodup)
      · obtain ⟨z, hz, rfl⟩ := List.mem_map.1 ((trimL_sub _ _ _).subset hy)
        exact hB.range z hz
      · have := trimL_free (most := cm.most) _ (ls := unpinL cm.lines) rfl (by rw [hB.most]; omega)
        rw [hB.most] at this
        simp only [CacheM.commits]
        rw [hB.most]
        omega
    · exact .inr ⟨20, rfl, by decide, Bears.bound.2 ⟨cm, g, F, hB.more, h2.c23⟩⟩
theorem bsteps_any {c p x n k : Nat} {d : DiskM} {R : Assn} {w : World} (h : Bears w (boundA c p x n k d * R)) {z : Int} (hz : d.steps = z) :
    Calls Try.prog 40 #[.pointer (some ⟨p, 0, none⟩)] w fun e w' => e = .returned (.int .i64 z) ∧ Bears w' (boundA c p x n k d * R) := by
  subst hz
  obtain ⟨cm, g, F, hB, h2⟩ := Bears.bound.1 h
  exact (steps_any h2.pull2).mono fun e w' h3 => ⟨h3.1, h3.2 ▸ h⟩

end Go.Proofs.Ytaiobekochhemaa

/- The law CacheBounds, walked; no condition. -/
namespace Go.Proofs.Ytaiobekochhemaa
open Go.RowKit Go.MapKept

theorem kind_lt (c : Int) (m : Nat) (hm : 0 < m) : ∃ s : Nat, s < m ∧ (if c < 0 then (-(c + 1)) % (m : Int) else c % (m : Int)) = (s : Int) := by
  by_cases h : c < 0
  · rw [if_pos h]
    have h1 := Int.emod_nonneg (-(c + 1)) (show (m : Int) ≠ 0 by omega)
    have h2 := Int.emod_lt_of_pos (-(c + 1)) (show (0 : Int) < m by omega)
    exact ⟨((-(c + 1)) % (m : Int)).toNat, by omega, by omega⟩
  · rw [if_neg h]
    have h1 := Int.emod_nonneg c (show (m : Int) ≠ 0 by omega)
    have h2 := Int.emod_lt_of_pos c (show (0 : Int) < m by omega)
    exact ⟨(c % (m : Int)).toNat, by omega, by omega⟩

theorem pins_free (ls : List LineM) : (ls.filter (·.pin)).length + freeN ls = ls.length := by
  unfold freeN
  induction ls with
  | nil => rfl
  | cons y r ih => cases h : y.pin <;> simp [h] <;> omega

theorem u_op : Try.prog.underlying 42 = Try.prog.underlying 42 := rfl

theorem full_num {R : Assn} {w : World} (h : Bears w R) (c : UInt8) {x : Int} (hx : (c.toNat : Int) = x) :
    Calls Try.prog 26 #[.int .u8 x] w fun e w' => ∃ g, e = .returned (.slice (some ⟨g, 0, none⟩) 64 64) ∧ Bears w' (Assn.obj g (.cells (cellsV (fullB c)).toArray 5 (0, 0)) * R) := by
  subst hx
  exact full_any h c
theorem cop_cells {w : World} {b : Nat} {v0 v1 v2 v3 : Value} {t : TypeId} {R : Assn} (h : Bears w (Assn.obj b (.cells #[v0, v1, v2, v3] t (0, 0)) * R)) :
    w.cell? ⟨b, 0, none⟩ = some v0 ∧ w.cell? ⟨b, 1, none⟩ = some v1 ∧ w.cell? ⟨b, 2, none⟩ = some v2 ∧ w.cell? ⟨b, 3, none⟩ = some v3 :=
  ⟨cell_of_obj h.obj 0, cell_of_obj h.obj 1, cell_of_obj h.obj 2, cell_of_obj h.obj 3⟩

set_option maxRecDepth 100000 in
set_option maxHeartbeats 4000000 in
theorem bounds_any {R : Assn} {w : World} (h : Bears w R) (most : Int) (hm : -9223372036854775808 ≤ most ∧ most ≤ 9223372036854775807) {l : List COpM} {a0 : Option Addr} {c0 : Nat}
    (t0 : R.Tells (fun w => COpsIn w (.slice a0 l.length c0) l)) (b0 : l.length ≤ 9223372036854775807) (hl : ∀ k, k < l.length → (l.getD k default).Fine) :
    Calls Try.prog 5 #[.int .i64 most, .slice a0 l.length c0] w fun e w' => e = .returned (.bool true) ∧ Bears w' R := by
  obtain ⟨s, hs, hks⟩ := kind_lt most 60 (by omega)
  rw [show ((60 : Nat) : Int) = 60 from rfl] at hks
  have Hks := Lib.hid hks
  clear hks
  go_enter Try.func5, Try.ntmps5
  go_wp2_with fail
  refine (shown3_any h).mono ?_
  rintro e w1 ⟨rfl, h1⟩
  go_wp2_with fail
  refine (kind_any most 60 w1 hm (by omega)).mono ?_
  rintro e w1' ⟨rfl, rfl⟩
  rw [Hks.out]
  go_wp2_with fail
  refine (ground3_any h1 _ (by omega)).mono ?_
  rintro e w2 ⟨p, c, x, d, rfl, L, hdl, hfu, hs0, hs1, h2⟩
  obtain ⟨n, hn⟩ : ∃ n, s + 1 = n := ⟨_, rfl⟩
  have hn1 : 1 ≤ n := by omega
  have hn2 : n ≤ 60 := by omega
  have h3 : Bears w2 (boundA c p x n 0 d * R) := Bears.bound.2 ⟨_, 0, _, Bounds.new (by omega) L hfu hdl ⟨hs0, hs1⟩, h2.c23⟩
  clear h h1 h2 L hdl hfu hs0 hs1
  go_wp2_with fail
  go_loopw [9] (fun i wr => ∃ k : Nat, k ≤ l.length ∧ k ≤ 250 ∧ i = .int .i64 k ∧ ∃ d, Bears wr (boundA c p x n k d * R)) (fun i _ => 250 - (intOf i).toNat)
  case atStart => exact ⟨0, by omega, by omega, rfl, d, h3⟩
  case round =>
    clear h3
    obtain ⟨k, hk, hkN, rfl, d, h5⟩ := hrel
    by_cases hlt : k < l.length ∧ k < 250
    · obtain ⟨hlt, hltN⟩ := hlt
      obtain ⟨b, o, rfl, cl0, cl1, cl2, cl3⟩ := (t0 _ h5.right).cells hlt
      have hop := hl k hlt
      generalize hc : l.getD k default = op at cl0 cl1 cl2 cl3 hop
      obtain ⟨kd, at', on, ob⟩ := op
      have Hop := Lib.hid hop
      clear hop hc
      unfold byteV at cl3
      simp only at cl0 cl1 cl2 cl3
      generalize hobn : (ob.toNat : Int) = obn at cl3
      have Hobn := Lib.hid hobn
      clear hobn
      have h6 := h5.alloc (.cells #[.int .i64 kd, .int .i64 at', .int .i64 on, .int .u8 obn] 42)
      obtain ⟨kk, hkk, hkks⟩ := kind_lt kd 9 (by omega)
      rw [show ((9 : Nat) : Int) = 9 from rfl] at hkks
      have Hkk := Lib.hid hkks
      clear hkks
      go_upto_block 2 with (fail)
      refine (kind_any kd 9 _ Hop.out.kind (by omega)).mono ?_
      rintro e w' ⟨rfl, rfl⟩
      rw [Hkk.out]
      go_upto_block 2 with (fail)
      generalize wr.alloc (.cells #[.int .i64 kd, .int .i64 at', .int .i64 on, .int .u8 obn] 42) = w6 at h6
      generalize wr.heap.size = lb at h6
      have o1 := cell_of_obj h6.obj 1
      have o3 := cell_of_obj h6.obj 3
      simp only [List.getElem?_toArray, List.getElem?_cons_zero, List.getElem?_cons_succ] at o1 o3
      have h7 := h6.pull2
      clear h5 cl0 cl1 cl2 cl3
      go_cut [] (fun wr' => ∃ d, Bears wr' (boundA c p x n (k + 1) d * R))
      case first =>
        match kk, hkk with
        | 0, _ | 1, _ | 2, _ =>
          go_wp2_with fail
          refine (bread_any h7 at').mono ?_
          rintro e w8 ⟨⟨v, e8, rfl⟩, h8⟩
          go_wp2_with fail
          go_meet
          case rel => exact ⟨d, h8.pull2.right.more⟩
        | 3, _ | 4, _ =>
          go_wp2_with fail
          refine wp_region_L (fun w' => ∃ Q, Bears w' (Assn.obj lb (.cells #[.int .i64 kd, .int .i64 at', .int .i64 on, .int .u8 obn] 42 (0, 0)) * Q)) 7
            [(true, 0), (true, 1), (true, 2), (true, 3), (true, 4), (false, 5), (false, 6)] [] (by kernel_rfl) (by kernel_rfl) ⟨_, h6.drew⟩ ?_
          simp only [pick, List.getElem?_cons_zero, List.getElem?_cons_succ]
          refine wpL_yield (v := ?_) rfl (fun w' hS => ?_) ?_
          rotate_left
          · (obtain ⟨_, hS⟩ := hS; obtain ⟨o0, o1, o2, o3⟩ := cop_cells hS; go_simp; try with_reducible rfl)
          simp only [Act.put, List.setIfInBounds_toArray, List.set_cons_zero, List.set_cons_succ]
          refine wpL_yield (v := ?_) rfl (fun w' hS => ?_) ?_
          rotate_left
          · (obtain ⟨_, hS⟩ := hS; obtain ⟨o0, o1, o2, o3⟩ := cop_cells hS; go_simp; try with_reducible rfl)
          simp only [Act.put, List.setIfInBounds_toArray, List.set_cons_zero, List.set_cons_succ]
          refine wpL_yield (v := ?_) rfl (fun w' hS => ?_) ?_
          rotate_left
          · (obtain ⟨_, hS⟩ := hS; obtain ⟨o0, o1, o2, o3⟩ := cop_cells hS; go_simp; try with_reducible rfl)
          simp only [Act.put, List.setIfInBounds_toArray, List.set_cons_zero, List.set_cons_succ]
          refine wpL_yield (v := ?_) rfl (fun w' hS => ?_) ?_
          rotate_left
          · (obtain ⟨_, hS⟩ := hS; obtain ⟨o0, o1, o2, o3⟩ := cop_cells hS; go_simp; try with_reducible rfl)
          simp only [Act.put, List.setIfInBounds_toArray, List.set_cons_zero, List.set_cons_succ]
          refine wpL_yield (v := ?_) rfl (fun w' hS => ?_) ?_
          rotate_left
          · (obtain ⟨_, hS⟩ := hS; obtain ⟨o0, o1, o2, o3⟩ := cop_cells hS; go_simp; try with_reducible rfl)
          simp only [Act.put, List.setIfInBounds_toArray, List.set_cons_zero, List.set_cons_succ]
          refine wpL_eff rfl ?_
          go_simp
          refine (full_num h6.drew ob Hobn.out).mono ?_
          rintro e w8 ⟨g, rfl, h8⟩
          refine ⟨⟨_, h8.pull2⟩, ?_⟩
          refine wpL_eff rfl ?_
          go_simp
          refine (bwrite_any (i := at') h8.pull3 (BytesIn.tells (l := fullB ob) _ _ (fullB_length ob).symm)).mono ?_
          rintro e w9 ⟨⟨v, rfl⟩, h9⟩
          refine ⟨⟨_, h9.pull3⟩, ?_⟩
          refine wpL_nil ?_
          refine wpL_nil ?_
          go_wp2_with fail
          go_meet
          case rel => exact ⟨d, (h9.pull3.right.pull2.right).more⟩
        | 5, _ =>
          go_wp2_with fail
          refine (bbegin_any h7).mono ?_
          rintro e w8 ⟨⟨v, rfl⟩, h8⟩
          go_wp2_with fail
          go_meet
          case rel => exact ⟨d, h8.pull2.right.more⟩
        | 6, _ =>
          go_wp2_with fail
          refine (bcommit_any h7 (by omega)).mono ?_
          rintro e w8 (⟨d', rfl, _, h8⟩ | ⟨v, rfl, _, h8⟩)
          all_goals
            go_wp2_with fail
            go_meet
            case rel => exact ⟨_, h8.pull2.right⟩
        | 7, _ =>
          go_wp2_with fail
          refine (babort_any h7).mono ?_
          rintro e w8 ⟨⟨v, rfl⟩, h8⟩
          go_wp2_with fail
          go_meet
          case rel => exact ⟨d, h8.pull2.right.more⟩
        | 8, _ =>
          go_wp2_with fail
          go_meet
          case rel => exact ⟨d, h7.pull2.right.more⟩
        | n + 9, h => exact absurd h (by omega)
      case rest =>
        obtain ⟨d, hcut⟩ := hcut
        obtain ⟨cm, g, F, hB, h9⟩ := Bears.bound.1 hcut
        have hll := hB.length
        have hnl := pins_free cm.lines
        have hfr := hB.free
        obtain ⟨L, hL⟩ : ∃ L, cm.lines.length = L := ⟨_, rfl⟩
        obtain ⟨P, hP⟩ : ∃ P, (cm.lines.filter (·.pin)).length = P := ⟨_, rfl⟩
        rw [hL] at hll hnl
        rw [hP] at hnl
        have HB := Lib.hid hB
        have HL := Lib.hid hL
        have HP := Lib.hid hP
        clear hB hL hP h6 h7 hcut o1 o3
        have hy0 : ∀ w, (Instr.build 59 #[]).run Try.prog w = .ok (.agg (boolsV (List.replicate 100 false)).toArray) w := fun _ => by kernel_rfl
        have hy1 : ∀ w, (zeroValue 59).run Try.prog w = .ok (.agg (boolsV (List.replicate 100 false)).toArray) w := fun _ => by kernel_rfl
        have hi2 : (Try.prog.info? 59).map (·.size) = some (Value.agg (boolsV (List.replicate 100 false)).toArray).cells.size := by kernel_rfl
        have hone : ∀ v ∈ (boolsV (List.replicate 100 false)).toArray.toList, v.oneCell' = true := fun v hv => oneCell_bools _ v (by simpa using hv)
        have hys : (List.replicate 100 false).length = 100 := by simp
        have hyf : ∀ j, (List.replicate 100 false).getD j false = false := by intro j; rw [List.getD_eq_getElem?_getD, List.getElem?_replicate]; split <;> rfl
        generalize List.replicate 100 false = ys at hy0 hy1 hi2 hone hys hyf
        go_wp2_with fail
        refine (cheld_to (l := cm.lines.map (·.at')) h9 HL.out rfl (by omega)).mono ?_
        rintro e w10 ⟨ha, hc, rfl, h10⟩
        go_wp2_with (first
          | (refine wpList_op rfl (exec_build0 rfl (hy0 _)) ?_)
          | (refine wpList_alloc_z rfl rfl (hy1 _) ?_)
          | (refine wpList_store_obj (h10.alloc _) rfl rfl rfl rfl rfl hi2 hone ?_; intro w11 h11))
        generalize w10.heap.size = sb at h11
        obtain ⟨zs, hzs⟩ : ∃ zs, cm.lines.map (·.at') = zs := ⟨_, rfl⟩
        have hzn : zs.Nodup := by rw [← hzs]; exact HB.out.nodup
        have hzr : ∀ z ∈ zs, 0 ≤ z ∧ z < 100 := by
          intro z hz
          rw [← hzs] at hz
          obtain ⟨y, hy, rfl⟩ := List.mem_map.1 hz
          exact HB.out.range y hy
        have hzl : zs.length = L := by rw [← hzs, List.length_map, HL.out]
        rw [hzs] at h11
        have Hzn := Lib.hid hzn
        have Hzr := Lib.hid hzr
        have Hzl := Lib.hid hzl
        clear hzs hzn hzr hzl h9 h10 hy0 hy1 hi2 hone
        go_loopw [13] (fun i wr' => ∃ j : Nat, j ≤ L ∧ i = .int .i64 j ∧ ∃ seen : List Bool, seen.length = 100 ∧ (∀ m : Nat, seen.getD m false = true → (m : Int) ∈ zs.take j) ∧
          Bears wr' (Assn.obj sb (.cells (boolsV seen).toArray 59 (0, 0)) * (rowA 3 1 (.slice ha L hc) L (intsV zs) * (cacheA c p x cm * (diskA p d * (walObj x p 0 40 (g : Int) * R)))))) (fun i _ => L - (intOf i).toNat)
        case atStart => exact ⟨0, by omega, rfl, ys, hys, fun m hm => (by rw [hyf] at hm; cases hm), h11⟩
        case round =>
          obtain ⟨j, hj, rfl, seen, hsl, hsn, h12⟩ := hrel
          have Hsn := Lib.hid hsn
          have Hsl := Lib.hid hsl
          clear hsn hsl h11
          by_cases hlj : j < L
          · obtain ⟨rg, rfl, q0⟩ := h12.pull2.rowObjN Hzl.out.symm hlj
            have hmem : zs.getD j 0 ∈ zs := by rw [List.getD_eq_getElem?_getD, List.getElem?_eq_getElem (by rw [Hzl.out]; exact hlj)]; simp
            obtain ⟨z0, z1⟩ := Hzr.out _ hmem
            obtain ⟨zn, hzn⟩ : ∃ zn : Nat, zs.getD j 0 = (zn : Int) := ⟨(zs.getD j 0).toNat, by omega⟩
            have hz100 : zn < 100 := by omega
            have hsucc : zs.take (j + 1) = zs.take j ++ [(zn : Int)] := by
              rw [← hzn, List.take_succ_eq_append_getElem (by rw [Hzl.out]; exact hlj)]
              simp [Hzl.out, hlj]
            have hfresh : (zn : Int) ∉ zs.take j := by
              have h1 : (zs.take (j + 1)).Nodup := Hzn.out.sublist (List.take_sublist _ _)
              rw [hsucc, List.nodup_append] at h1
              intro hm
              exact h1.2.2 _ hm _ (by simp) rfl
            have hsz : seen.getD zn false = false := by
              cases hs : seen.getD zn false with
              | false => rfl
              | true => exact absurd (Hsn.out zn hs) hfresh
            have q1 := h12.boolCell (j := zn) (by rw [Hsl.out]; exact hz100)
            have f1 := frozen_of_obj h12.obj zn
            rw [hzn] at q0
            rw [hsz] at q1
            have h13 := h12.setBool zn true
            have Hsucc := Lib.hid hsucc
            clear hsz hfresh hsucc hmem z0 z1 hzn
            go_wp2_with fail
            go_roundw
            case rel =>
              refine ⟨j + 1, hlj, by go_num, seen.set zn true, by simp [Hsl.out], fun m hm => ?_, h13⟩
              rw [Hsucc.out]
              by_cases e : m = zn
              · subst e; simp
              · rw [List.getD_eq_getElem?_getD, List.getElem?_set_ne (Ne.symm e), ← List.getD_eq_getElem?_getD] at hm
                exact List.mem_append_left _ (Hsn.out m hm)
            case measure => simp [intOf]; omega
          · obtain rfl : j = L := by omega
            have h14 := h12.right.right
            clear h12 Hsn Hsl
            go_wp2_with fail
            refine (cpinned_to h14 HP.out).mono ?_
            rintro e w15 ⟨rfl, h15⟩
            have p1 : decide ((j : Int) < (P : Int)) = false := decide_eq_false (by omega)
            go_wp2_with fail
            all_goals
              go_roundw
              case rel => exact ⟨k + 1, hlt, hltN, by go_num, d, Bears.bound.2 ⟨cm, g, F, HB.out, h15⟩⟩
              case measure => simp [intOf]; omega
    · go_wp2_with fail
      all_goals
        go_ret
        exact ⟨rfl, h5.right⟩

end Go.Proofs.Ytaiobekochhemaa
