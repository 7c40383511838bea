/- WalCrashes: what holds of the plain model; no condition. -/
import Derived.Test.YtadefdmoijkclaaWWith
namespace Go.Proofs.Ytadefdmoijkclaa
open Go.RowKit Go.MapKept

theorem wFinish_waits' (d : DiskM) (a s : Nat) (g : Int) (n : Nat) : (wFinish d a s g n).2.waits.length ≤ d.waits.length + n + 1 := by
  have h1 := wLoop_waits d a s n
  unfold wFinish
  split
  · omega
  · have h2 := wBoth_waits (wLoop d a s n).2 a s g 0
    omega
theorem wOpen_waits (d : DiskM) (a s : Int) : (wOpen d a s).2.waits.length ≤ d.waits.length + roomN s.toNat + 1 := by
  unfold wOpen
  split
  · simp only; omega
  · split
    · simp only; omega
    · split
      · simp only; omega
      · rename_i h
        split
        · have h2 := wFinish_waits' d a.toNat s.toNat (groupsIn (d.now a.toNat)) (handIn (d.now a.toNat)).toNat
          have h3 : ¬ (roomN s.toNat : Int) < handIn (d.now a.toNat) := fun h' => h (.inr (.inl h'))
          omega
        · simp only; omega
theorem wFormat_waits (d : DiskM) (a s : Int) : (wFormat d a s).2.waits.length ≤ d.waits.length + 1 := by
  unfold wFormat
  split
  · simp
  · exact wBoth_waits _ _ _ _ _
theorem wCommit_waits (d : DiskM) (a s : Nat) (g : Int) (l : List PutM) : (wCommit d a s g l).2.2.waits.length ≤ d.waits.length + 3 * l.length + 3 := by
  have h1 := wBytes_waits d a s l l.length
  have h2 := wLists_waits (wBytes d a s l l.length).2 a l (listsN l.length)
  have h3 := wBoth_waits (wLists (wBytes d a s l l.length).2 a l (listsN l.length)).2 a s (wrap64 (g + 1)) l.length
  have h4 := wFinish_waits' (wBoth (wLists (wBytes d a s l l.length).2 a l (listsN l.length)).2 a s (wrap64 (g + 1)) l.length).2 a s (wrap64 (g + 1)) l.length
  have h5 : listsN l.length ≤ l.length := by unfold listsN; omega
  unfold wCommit
  split
  · simp only; omega
  · split
    · simp only; omega
    · split
      · simp only; omega
      · simp only
        split
        · simp only; omega
        · simp only; omega

/-- What may be there behind a boot: groups done, and the other sectors. -/
def Alt (n : Nat) (F : Nat → Sec) (sm fresh : Bool) (l : List PutM) (g : Nat) (G : Nat → Sec) : Prop :=
  (g = n ∧ G = F) ∨ (sm = true ∧ g = n + 1 ∧ G = applyPuts F l) ∨ (fresh = true ∧ g = 0 ∧ G = F)
/-- The power is off. -/
structure CrOff (d : DiskM) (a n : Nat) (F : Nat → Sec) (sm fresh : Bool) (l : List PutM) : Prop where
  len : d.len = 100
  few : d.waits.length ≤ 1000
  boots : Boots d fun f => ∃ g G, Alt n F sm fresh l g G ∧ At 100 a 40 f g G
structure CrOn (d : DiskM) (a n : Nat) (F : Nat → Sec) : Prop where
  len : d.len = 100
  log : LogOn d a 40 n F
theorem CrOn.off {d : DiskM} {a n : Nat} {F : Nat → Sec} (h : CrOn d a n F) (l : List PutM) : CrOff d a n F false false l :=
  ⟨h.len, by rw [h.log.quiet]; simp, Boots.quiet h.log.quiet ⟨n, F, .inl ⟨rfl, rfl⟩, .inl h.log.rest⟩⟩
theorem CrOn.few {d : DiskM} {a n : Nat} {F : Nat → Sec} (h : CrOn d a n F) : d.waits = [] := h.log.quiet

theorem room40 : roomN 40 = 37 := by decide

/-- A boot, a fuse, an opening, a boot, an opening. -/
theorem CrOff.boots2 {d : DiskM} {a n : Nat} {F : Nat → Sec} {sm fresh : Bool} {l : List PutM} (h : CrOff d a n F sm fresh l) (ha : a + 40 ≤ 100) (hn : n < 1000) (ks : List Int) (N : Int) :
    ∃ g G r d3 d5, Alt n F sm fresh l g G ∧ wOpen ((d.boot ks).setFuse N) a 40 = (r, d3) ∧ ((d.boot ks).setFuse N).waits = [] ∧ d3.waits.length ≤ 1000 ∧ wOpen (d3.boot ks) a 40 = (0, d5) ∧ groupsIn ((d3.boot ks).now a) = g ∧ CrOn d5 a g G := by
  obtain ⟨g, G, hA, hAt⟩ := h.boots.boot ks
  have hg : g < 9223372036854775808 := by
    rcases hA with ⟨rfl, _⟩ | ⟨_, rfl, _⟩ | ⟨_, rfl, _⟩ <;> omega
  have e1 : ((d.boot ks).setFuse N).off = false := by unfold DiskM.setFuse; rw [show (d.boot ks).off = false from rfl]; rfl
  have e2 : ((d.boot ks).setFuse N).waits = [] := by unfold DiskM.setFuse; split <;> rfl
  have e3 : ((d.boot ks).setFuse N).sure = (d.boot ks).sure := by unfold DiskM.setFuse; split <;> rfl
  have e4 : ((d.boot ks).setFuse N).len = 100 := by rw [setFuse_len]; exact h.len
  generalize (d.boot ks).setFuse N = d2 at e1 e2 e3 e4
  obtain ⟨_, r, d3, h1, h2, h3, h4⟩ := wOpen_goes (a := a) (s := 40) (g := g) (F := G) e1 (by decide) (by rw [e4]; exact ha) (by rw [e4]; decide) hg e2 (by rw [e3, e4]; exact hAt)
  have hAt3 := h4.boot ks
  have hw3 := wOpen_waits d2 a 40
  rw [show wOpen d2 (a : Int) 40 = (r, d3) from h1, e2, show ((40 : Int)).toNat = 40 from rfl, room40] at hw3
  simp only [List.length_nil] at hw3
  have l3 : (d3.boot ks).len = 100 := h2.len.trans e4
  obtain ⟨k0, r5, d5, k1, k2, k3, k4⟩ := wOpen_goes (d := d3.boot ks) (a := a) (s := 40) (g := g) (F := G) rfl (by decide) (by rw [l3]; exact ha) (by rw [l3]; decide) hg rfl (by rw [l3]; rw [e4] at hAt3; exact hAt3)
  obtain rfl := k2.yes rfl
  obtain ⟨k5, k6⟩ := k3 rfl
  have l5 : d5.len = 100 := k2.len.trans l3
  exact ⟨g, G, r, d3, d5, hA, h1, e2, by omega, k1, k0, l5, ⟨k2.on, k5, by decide, by rw [l5]; exact ha, by rw [l5]; decide, k6⟩⟩

/-- A group, on a disk that is on. -/
theorem CrOn.commit {d : DiskM} {a n : Nat} {F : Nat → Sec} {l : List PutM} (h : CrOn d a n F) (hn : n < 1000) (hm : wMay 100 a 40 l = true) :
    ∃ r g' d', wCommit d a 40 n l = (r, g', d') ∧ ((r = 0 ∧ g' = ((n + 1 : Nat) : Int) ∧ CrOn d' a (n + 1) (applyPuts F l)) ∨ (r = 2 ∧ d'.off = true ∧ CrOff d' a n F true false l)) := by
  obtain ⟨r, g', d', h1, h2, h3, h4⟩ := h.log.commit (g := n) (by omega) (by rw [h.len]; exact hm)
  have hw := wCommit_waits d a 40 n l
  have hl : l.length ≤ 37 := by have := (GroupOk.of hm).room; rw [room40] at this; exact this
  rw [h1, h.log.quiet] at hw
  simp only [List.length_nil] at hw
  have hlen : d'.len = 100 := h2.len.trans h.len
  refine ⟨r, g', d', h1, ?_⟩
  by_cases hr : r = 0
  · subst hr
    obtain ⟨e1, e2⟩ := h3 rfl
    exact .inl ⟨rfl, e1, hlen, e2⟩
  · obtain ⟨e1, e2⟩ := h2.two hr
    refine .inr ⟨e1, e2, hlen, by omega, h4.mono (fun f hf => ?_)⟩
    rw [h.len] at hf
    rcases hf with hf | hf
    · exact ⟨n, F, .inl ⟨rfl, rfl⟩, hf⟩
    · exact ⟨n + 1, _, .inr (.inl ⟨rfl, rfl, rfl⟩), hf⟩
/-- A log made anew. -/
theorem CrOn.format {d : DiskM} {a n : Nat} {F : Nat → Sec} (h : CrOn d a n F) (ha : a + 40 ≤ 100) (l : List PutM) :
    ∃ r d', wFormat d a 40 = (r, d') ∧ ((r = 0 ∧ CrOn d' a 0 F) ∨ (r = 2 ∧ d'.off = true ∧ CrOff d' a n F false true l)) := by
  obtain ⟨r, d', h1, h2, h3, h4⟩ := wFormat_goes (d := d) (a := a) (s := 40) (F := F) (p := fun f => ∃ g G, Alt n F false true l g G ∧ At 100 a 40 f g G) h.log.off (by decide) (by rw [h.len]; exact ha)
    (Boots.quiet h.log.quiet ⟨n, F, .inl ⟨rfl, rfl⟩, .inl h.log.rest⟩) (fun i hi => h.log.now hi) (fun f hf => ⟨0, F, .inr (.inr ⟨rfl, rfl, rfl⟩), .inl hf⟩)
  have hw := wFormat_waits d a 40
  rw [show wFormat d (a : Int) 40 = (r, d') from h1, h.log.quiet] at hw
  simp only [List.length_nil] at hw
  have hlen : d'.len = 100 := h2.len.trans h.len
  refine ⟨r, d', h1, ?_⟩
  by_cases hr : r = 0
  · subst hr
    obtain ⟨e1, e2⟩ := h3 rfl
    exact .inl ⟨rfl, hlen, h2.on, e1, by decide, by rw [hlen]; exact ha, by rw [hlen]; decide, e2⟩
  · obtain ⟨e1, e2⟩ := h2.two hr
    exact .inr ⟨e1, e2, hlen, by omega, h4⟩
theorem CrOn.fuse {d : DiskM} {a n : Nat} {F : Nat → Sec} (h : CrOn d a n F) (N : Int) : CrOn (d.setFuse N) a n F := ⟨by rw [setFuse_len]; exact h.len, h.log.fused N⟩

end Go.Proofs.Ytadefdmoijkclaa
