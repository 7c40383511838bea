/- Texts of this claim, put together: WalP, WLawA, WLawB, PutRow, CacheW12, CacheW13, CLawA, CLawB, CacheT, Few; no condition. -/
import Derived.Test.YtcggloceabjjdaaGreatMa9240ab85c

set_option linter.unusedSimpArgs false
set_option linter.unusedVariables false

/- The log on a disk whose power may go off: what the plain model does; no condition. -/
namespace Go.Proofs.YtcggloceabjjdaaGreat
open Go.RowKit Go.MapKept

/-! ### Steps under a fuse -/
/-- From d to d', answered with r: done, or the power went off. -/
structure Goes (d : DiskM) (r : Int) (d' : DiskM) : Prop where
  len : d'.len = d.len
  ends : (r = 0 ∧ d'.off = false) ∨ (r = 2 ∧ d'.off = true ∧ d.fuse ≠ -1)
  plain : d.fuse = -1 → d'.fuse = -1
theorem Goes.refl {d : DiskM} (h : d.off = false) : Goes d 0 d := ⟨rfl, .inl ⟨rfl, h⟩, id⟩
theorem Goes.trans {a b c : DiskM} {r : Int} (h : Goes a 0 b) (k : Goes b r c) : Goes a r c := by
  refine ⟨k.len.trans h.len, ?_, fun e => k.plain (h.plain e)⟩
  rcases k.ends with e | ⟨e1, e2, e3⟩
  · exact .inl e
  · exact .inr ⟨e1, e2, fun e => e3 (h.plain e)⟩
theorem Goes.on {a b : DiskM} (h : Goes a 0 b) : b.off = false := by
  rcases h.ends with ⟨_, e⟩ | ⟨e, _⟩
  · exact e
  · exact absurd e (by decide)
theorem Goes.yes {a b : DiskM} {r : Int} (h : Goes a r b) (e : a.fuse = -1) : r = 0 := by
  rcases h.ends with ⟨e, _⟩ | ⟨_, _, e3⟩
  · exact e
  · exact absurd e e3
theorem Goes.two {a b : DiskM} {r : Int} (h : Goes a r b) (e : r ≠ 0) : r = 2 ∧ b.off = true := by
  rcases h.ends with ⟨e1, _⟩ | ⟨e1, e2, _⟩
  · exact absurd e1 e
  · exact ⟨e1, e2⟩

theorem DiskM.step_goes {d : DiskM} (h : d.off = false) : ∃ r d', d.step = (r, d') ∧ Goes d r d' ∧ d'.sure = d.sure ∧ d'.waits = d.waits := by
  unfold DiskM.step
  split
  · rename_i h0
    exact ⟨2, _, rfl, ⟨rfl, .inr ⟨rfl, rfl, by omega⟩, fun h1 => by omega⟩, rfl, rfl⟩
  · exact ⟨0, _, rfl, ⟨rfl, .inl ⟨rfl, h⟩, fun h1 => by simp [h1]⟩, rfl, rfl⟩
theorem DiskM.on_check {d : DiskM} (h : d.off = false) {i : Nat} (hi : i < d.len) : d.check (i : Int) = 0 := by
  unfold DiskM.check
  rw [h, if_neg (by simp), if_neg (by omega)]
theorem DiskM.write_goes {d : DiskM} (h : d.off = false) {i : Nat} (hi : i < d.len) {s : Sec} (hs : s.length = 64) :
    ∃ r d', d.write (i : Int) s = (r, d') ∧ Goes d r d' ∧ d'.sure = d.sure ∧ d'.waits = if r = 0 then d.waits ++ [(i, s)] else d.waits := by
  obtain ⟨r, d', h1, h2, h3, h4⟩ := DiskM.step_goes h
  unfold DiskM.write
  rw [DiskM.on_check h hi, hs, h1, if_neg (by simp), if_neg (by simp)]
  simp only
  by_cases hr : r = 0
  · subst hr
    rw [if_neg (by simp)]
    exact ⟨0, _, rfl, ⟨h2.len, .inl ⟨rfl, h2.on⟩, h2.plain⟩, h3, rfl⟩
  · rw [if_pos hr]
    exact ⟨r, d', rfl, h2, h3, by rw [if_neg hr]; exact h4⟩
theorem DiskM.barrier_goes {d : DiskM} (h : d.off = false) :
    ∃ r d', d.barrier = (r, d') ∧ Goes d r d' ∧ (d'.sure = if r = 0 then d.now else d.sure) ∧ d'.waits = if r = 0 then [] else d.waits := by
  obtain ⟨r, d', h1, h2, h3, h4⟩ := DiskM.step_goes h
  unfold DiskM.barrier
  rw [h1, h, if_neg (by simp)]
  simp only
  by_cases hr : r = 0
  · subst hr
    rw [if_neg (by simp)]
    exact ⟨0, _, rfl, ⟨h2.len, .inl ⟨rfl, h2.on⟩, h2.plain⟩, rfl, rfl⟩
  · rw [if_pos hr]
    exact ⟨r, d', rfl, h2, by rw [if_neg hr]; exact h3, by rw [if_neg hr]; exact h4⟩

/-! ### What may be there behind a boot -/
def Boots (d : DiskM) (p : (Nat → Sec) → Prop) : Prop := ∀ ws : List (Nat × Sec), ws.Sublist d.waits → p (settle d.sure ws)
theorem kept_sublist (keep : List Int) : ∀ (l : List (Nat × Sec)) (j : Nat), (kept keep j l).Sublist l
  | [], _ => by simp [kept]
  | q :: l, j => by
    simp only [kept]
    split
    · exact (kept_sublist keep l (j + 1)).cons_cons q
    · exact (kept_sublist keep l (j + 1)).cons q
theorem Boots.boot {d : DiskM} {p : (Nat → Sec) → Prop} (h : Boots d p) (keep : List Int) : p (d.boot keep).sure := h _ (kept_sublist keep _ _)
theorem Boots.now {d : DiskM} {p : (Nat → Sec) → Prop} (h : Boots d p) : p d.now := h _ (List.Sublist.refl _)
theorem Boots.quiet {d : DiskM} {p : (Nat → Sec) → Prop} (hw : d.waits = []) (h : p d.sure) : Boots d p := by
  intro ws hs
  rw [hw] at hs
  rw [List.sublist_nil.1 hs]
  exact h
theorem Boots.one {d : DiskM} {p : (Nat → Sec) → Prop} {q : Nat × Sec} (hw : d.waits = [q]) (h : p d.sure) (h1 : p (updS d.sure q.1 q.2)) : Boots d p := by
  intro ws hs
  rw [hw] at hs
  cases hs with
  | cons _ h' => rw [List.sublist_nil.1 h']; exact h
  | cons_cons _ h' => rw [List.sublist_nil.1 h']; exact h1
theorem Boots.mono {d : DiskM} {p q : (Nat → Sec) → Prop} (h : Boots d p) (hpq : ∀ f, p f → q f) : Boots d q := fun ws hs => hpq _ (h ws hs)
theorem Boots.same {d d' : DiskM} {p : (Nat → Sec) → Prop} (h : Boots d p) (h1 : d'.sure = d.sure) (h2 : d'.waits = d.waits) : Boots d' p := by
  intro ws hs
  rw [h1]
  rw [h2] at hs
  exact h ws hs
theorem now_quiet {d : DiskM} (h : d.waits = []) : d.now = d.sure := by unfold DiskM.now; rw [h]; rfl

theorem settle_other (ws : List (Nat × Sec)) : ∀ (f : Nat → Sec) (i : Nat), (∀ p ∈ ws, p.1 ≠ i) → settle f ws i = f i := by
  induction ws with
  | nil => intro f i _; rfl
  | cons p ws ih =>
    intro f i h
    show settle (updS f p.1 p.2) ws i = f i
    rw [ih _ _ (fun q hq => h q (by simp [hq]))]
    unfold updS
    rw [if_neg (Ne.symm (h p (by simp)))]
theorem now_snoc {d d' : DiskM} {i : Nat} {s : Sec} (h1 : d'.sure = d.sure) (h2 : d'.waits = d.waits ++ [(i, s)]) : d'.now = updS d.now i s := by
  unfold DiskM.now
  rw [h1, h2, settle_append]

/-- A head between two barriers. -/
theorem wBoth_goes {d : DiskM} (h : d.off = false) {a s : Nat} {g hand : Int} (ha : a < d.len) {p : (Nat → Sec) → Prop} (hp : Boots d p) (hq : p (updS d.now a (headB s g hand))) :
    ∃ r d', wBoth d a s g hand = (r, d') ∧ Goes d r d' ∧ (r = 0 → d'.waits = [] ∧ d'.sure = updS d.now a (headB s g hand)) ∧ Boots d' p := by
  obtain ⟨r1, d1, e1, g1, s1, w1⟩ := DiskM.barrier_goes h
  by_cases h1 : r1 = 0
  · subst h1
    rw [if_pos rfl] at s1 w1
    obtain ⟨r2, d2, e2, g2, s2, w2⟩ := DiskM.write_goes (i := a) g1.on (by rw [g1.len]; exact ha) (headB_length s g hand)
    by_cases h2 : r2 = 0
    · subst h2
      rw [if_pos rfl] at w2
      obtain ⟨r3, d3, e3, g3, s3, w3⟩ := DiskM.barrier_goes g2.on
      have hn : d2.now = updS d.now a (headB s g hand) := by rw [now_snoc s2 w2, now_quiet w1, s1]
      refine ⟨r3, d3, by rw [wBoth_yes e1 e2]; exact e3, (g1.trans g2).trans g3, fun e => ?_, ?_⟩
      · subst e
        rw [if_pos rfl] at s3 w3
        exact ⟨w3, s3.trans hn⟩
      · by_cases h3 : r3 = 0
        · subst h3
          rw [if_pos rfl] at s3 w3
          exact Boots.quiet w3 (by rw [s3, hn]; exact hq)
        · rw [if_neg h3] at s3 w3
          rw [w1, List.nil_append] at w2
          refine Boots.one (w3.trans w2) ?_ ?_
          · rw [s3, s2, s1]; exact hp.now
          · rw [s3, s2, s1]; exact hq
    · rw [if_neg h2] at w2
      refine ⟨r2, d2, wBoth_no2 e1 e2 h2, g1.trans g2, fun e => absurd e h2, ?_⟩
      exact Boots.quiet (w2.trans w1) (by rw [s2, s1]; exact hp.now)
  · rw [if_neg h1] at s1 w1
    exact ⟨r1, d1, wBoth_no1 e1 h1, g1, fun e => absurd e h1, hp.same s1 w1⟩

/-! ### A group's sectors -/
theorem getD_mem {l : List PutM} {k : Nat} (h : k < l.length) : l.getD k default ∈ l := by
  rw [List.getD_eq_getElem?_getD, List.getElem?_eq_getElem h]
  exact List.getElem_mem h
def applyPuts (f : Nat → Sec) (l : List PutM) : Nat → Sec := l.foldl (fun f p => updS f p.sector.toNat p.bytes) f
theorem applyPuts_snoc (f : Nat → Sec) (l : List PutM) (p : PutM) : applyPuts f (l ++ [p]) = updS (applyPuts f l) p.sector.toNat p.bytes := by simp [applyPuts]
theorem applyPuts_or : ∀ (l : List PutM) (i : Nat), (∃ p ∈ l, p.sector.toNat = i ∧ ∀ f, applyPuts f l i = p.bytes) ∨ ((∀ p ∈ l, p.sector.toNat ≠ i) ∧ ∀ f, applyPuts f l i = f i)
  | [], i => .inr ⟨by simp, fun f => rfl⟩
  | p :: l, i => by
    rcases applyPuts_or l i with ⟨q, hq, e, h⟩ | ⟨h1, h2⟩
    · exact .inl ⟨q, by simp [hq], e, fun f => h _⟩
    · by_cases e : p.sector.toNat = i
      · refine .inl ⟨p, by simp, e, fun f => ?_⟩
        show applyPuts (updS f p.sector.toNat p.bytes) l i = _
        rw [h2]
        unfold updS
        rw [if_pos e.symm]
      · refine .inr ⟨fun q hq => ?_, fun f => ?_⟩
        · rcases List.mem_cons.1 hq with rfl | hq
          · exact e
          · exact h1 q hq
        · show applyPuts (updS f p.sector.toNat p.bytes) l i = _
          rw [h2]
          unfold updS
          rw [if_neg (Ne.symm e)]
theorem applyPuts_other {l : List PutM} {f : Nat → Sec} {i : Nat} (h : ∀ p ∈ l, p.sector.toNat ≠ i) : applyPuts f l i = f i := by
  rcases applyPuts_or l i with ⟨p, hp, e, _⟩ | ⟨_, h2⟩
  · exact absurd e (h p hp)
  · exact h2 f
theorem applyPuts_congr {l : List PutM} {f f' : Nat → Sec} {i : Nat} (h : f i = f' i) : applyPuts f l i = applyPuts f' l i := by
  rcases applyPuts_or l i with ⟨p, _, _, e⟩ | ⟨_, e⟩
  · rw [e, e]
  · rw [e, e, h]
/-- Some of the group's writes done ahead change nothing of what is there behind all of them. -/
theorem applyPuts_settle {l : List PutM} {ws : List (Nat × Sec)} (h : ∀ p ∈ ws, ∃ q ∈ l, p = (q.sector.toNat, q.bytes)) (f : Nat → Sec) (i : Nat) : applyPuts (settle f ws) l i = applyPuts f l i := by
  rcases applyPuts_or l i with ⟨p, _, _, e⟩ | ⟨h1, e⟩
  · rw [e, e]
  · rw [e, e, settle_other _ _ _ (fun p hp => ?_)]
    obtain ⟨q, hq, rfl⟩ := h p hp
    exact h1 q hq

/-- A group for a log of s sectors from a on, on a disk of so many. -/
structure GroupOk (len a s : Nat) (l : List PutM) : Prop where
  room : l.length ≤ roomN s
  ok : ∀ p ∈ l, p.bytes.length = 64 ∧ 0 ≤ p.sector ∧ p.sector < len ∧ ¬ ((a : Int) ≤ p.sector ∧ p.sector < a + s)
theorem GroupOk.out {len a s : Nat} {l : List PutM} (h : GroupOk len a s l) {p : PutM} (hp : p ∈ l) {i : Nat} (h1 : a ≤ i) (h2 : i < a + s) : p.sector.toNat ≠ i := by
  obtain ⟨_, h3, _, h4⟩ := h.ok p hp
  omega
theorem GroupOk.of {len a s : Nat} {l : List PutM} (h : wMay len a s l = true) : GroupOk len a s l := by
  unfold wMay at h
  simp only [Bool.and_eq_true, decide_eq_true_eq] at h
  refine ⟨h.2, fun p hp => ?_⟩
  obtain ⟨k, hk, rfl⟩ := List.mem_iff_getElem.1 hp
  have := (wMayTo_true l []).1 h.1 k hk
  rw [List.getD_eq_getElem?_getD, List.getElem?_eq_getElem hk] at this
  simp only [Option.getD_some, wOk, Bool.and_eq_true, decide_eq_true_eq, beq_iff_eq, Bool.not_eq_true', Bool.and_eq_false_iff, decide_eq_false_iff_not] at this
  obtain ⟨⟨⟨⟨_, h2⟩, h3⟩, h4⟩, h5⟩ := this
  exact ⟨h5, h3, h4, fun h => h2.elim (fun h2 => h2 h.1) (fun h2 => h2 h.2)⟩

theorem flatMap_at (Z : Sec) : ∀ (L : List PutM) (j : Nat), j < L.length → (((L.flatMap fun p => numB 2 p.sector) ++ Z).drop (j * 2)).take 2 = numB 2 (L.getD j default).sector
  | [], _, h => absurd h (by simp)
  | p :: L, 0, _ => by
    have := numB_length p.sector 2
    simp only [List.flatMap_cons, Nat.zero_mul, List.drop_zero, List.append_assoc]
    rw [List.take_append_of_le_length (by omega), List.take_of_length_le (by omega)]
    simp
  | p :: L, j + 1, h => by
    have h2 := numB_length p.sector 2
    simp only [List.flatMap_cons, List.append_assoc]
    rw [show (j + 1) * 2 = 2 + j * 2 by omega, ← List.drop_drop]
    rw [List.drop_left' h2, flatMap_at Z L j (by simpa using h)]
    simp

/-- Where put number k goes, as the log's sector says. -/
theorem wList_at {l : List PutM} {k : Nat} (hk : k < l.length) (h0 : 0 ≤ (l.getD k default).sector) (h1 : (l.getD k default).sector < 65536) :
    takenB (((wList l (k / 32)).drop (k % 32 * 2)).take 2) = (l.getD k default).sector := by
  have hj : k % 32 < ((l.drop (32 * (k / 32))).take 32).length := by simp; omega
  unfold wList
  simp only
  rw [flatMap_at _ _ _ hj]
  have e : ((l.drop (32 * (k / 32))).take 32).getD (k % 32) default = l.getD k default := by
    simp only [List.getD_eq_getElem?_getD]
    rw [List.getElem?_take_of_lt (by omega), List.getElem?_drop, show 32 * (k / 32) + k % 32 = k by omega]
  rw [e]
  obtain ⟨n, hn⟩ := Int.eq_ofNat_of_zero_le h0
  rw [hn] at h1 ⊢
  exact takenB_numB (by omega) (by omega)
theorem wList_length (l : List PutM) (c : Nat) : (wList l c).length = 64 := by
  have h : (((l.drop (32 * c)).take 32).flatMap fun p => numB 2 p.sector).length ≤ 64 := by rw [flatMap_numB]; simp; omega
  unfold wList
  simp only [List.length_append, List.length_replicate]
  omega
theorem room_fits {s n : Nat} (hs : 3 ≤ s) (hn : n ≤ roomN s) : 1 + listsN (roomN s) + n ≤ s ∧ listsN n ≤ listsN (roomN s) := by
  unfold roomN at *
  rw [if_neg (by omega)] at *
  unfold listsN
  omega
theorem first_fits {a s n : Nat} (hs : 3 ≤ s) (hn : n ≤ roomN s) : wFirst a s + n ≤ a + s ∧ a + 1 + listsN n ≤ wFirst a s := by
  have := room_fits hs hn
  unfold wFirst
  omega

/-- The writes that wait go to the log's own sectors behind its head. -/
def Body (d : DiskM) (a s : Nat) : Prop := ∀ p ∈ d.waits, a < p.1 ∧ p.1 < a + s

theorem wBytes_goes {d : DiskM} (h : d.off = false) {a s : Nat} {l : List PutM} (hs : 3 ≤ s) (hp : a + s ≤ d.len) (hg : GroupOk d.len a s l) (hb : Body d a s) :
    ∀ k, k ≤ l.length → ∃ r dk, wBytes d a s l k = (r, dk) ∧ Goes d r dk ∧ dk.sure = d.sure ∧ Body dk a s ∧
      (r = 0 → ∀ i, dk.now i = if wFirst a s ≤ i ∧ i < wFirst a s + k then (l.getD (i - wFirst a s) default).bytes else d.now i)
  | 0, _ => ⟨0, d, rfl, Goes.refl h, rfl, hb, fun _ i => by rw [if_neg (by omega)]⟩
  | k + 1, hk => by
    obtain ⟨r, dk, h1, h2, h3, h4, h5⟩ := wBytes_goes h hs hp hg hb k (by omega)
    by_cases hr : r = 0
    · subst hr
      have hf := first_fits (a := a) hs hg.room
      have hlo : a + 1 ≤ wFirst a s := by unfold wFirst; omega
      obtain ⟨r2, d2, e2, g2, s2, w2⟩ := DiskM.write_goes (i := wFirst a s + k) h2.on (by rw [h2.len]; omega) (hg.ok _ (getD_mem (k := k) (by omega))).1
      refine ⟨r2, d2, by rw [wBytes_succ h1]; exact e2, h2.trans g2, s2.trans h3, ?_, fun e i => ?_⟩
      · intro p hp'
        rw [w2] at hp'
        split at hp'
        · rcases List.mem_append.1 hp' with hp' | hp'
          · exact h4 p hp'
          · simp only [List.mem_singleton] at hp'
            subst hp'
            simp only
            omega
        · exact h4 p hp'
      · subst e
        rw [if_pos rfl] at w2
        rw [now_snoc s2 w2]
        unfold updS
        rw [h5 rfl i]
        by_cases e : i = wFirst a s + k
        · subst e
          rw [if_pos rfl, if_pos (by omega), show wFirst a s + k - wFirst a s = k by omega]
        · rw [if_neg e]
          by_cases e2 : wFirst a s ≤ i ∧ i < wFirst a s + k
          · rw [if_pos e2, if_pos (by omega)]
          · rw [if_neg e2, if_neg (by omega)]
    · refine ⟨r, dk, ?_, h2, h3, h4, fun e => absurd e hr⟩
      have := wBytes_stop (d := d) (a := a) (s := s) (l := l) (k := k) (by rw [h1]; exact hr) 1
      rw [this, h1]

theorem wLists_goes {d : DiskM} (h : d.off = false) {a s : Nat} {l : List PutM} (hs : 3 ≤ s) (hp : a + s ≤ d.len) (hg : l.length ≤ roomN s) (hb : Body d a s) :
    ∀ c, c ≤ listsN l.length → ∃ r dc, wLists d a l c = (r, dc) ∧ Goes d r dc ∧ dc.sure = d.sure ∧ Body dc a s ∧
      (r = 0 → ∀ i, dc.now i = if a + 1 ≤ i ∧ i < a + 1 + c then wList l (i - (a + 1)) else d.now i)
  | 0, _ => ⟨0, d, rfl, Goes.refl h, rfl, hb, fun _ i => by rw [if_neg (by omega)]⟩
  | k + 1, hk => by
    obtain ⟨r, dk, h1, h2, h3, h4, h5⟩ := wLists_goes h hs hp hg hb k (by omega)
    by_cases hr : r = 0
    · subst hr
      have hf := first_fits (a := a) hs hg
      obtain ⟨r2, d2, e2, g2, s2, w2⟩ := DiskM.write_goes (i := a + 1 + k) h2.on (by rw [h2.len]; omega) (wList_length l k)
      refine ⟨r2, d2, by rw [wLists_succ h1]; exact e2, h2.trans g2, s2.trans h3, ?_, fun e i => ?_⟩
      · intro p hp'
        rw [w2] at hp'
        split at hp'
        · rcases List.mem_append.1 hp' with hp' | hp'
          · exact h4 p hp'
          · simp only [List.mem_singleton] at hp'
            subst hp'
            simp only
            omega
        · exact h4 p hp'
      · subst e
        rw [if_pos rfl] at w2
        rw [now_snoc s2 w2]
        unfold updS
        rw [h5 rfl i]
        by_cases e : i = a + 1 + k
        · subst e
          rw [if_pos rfl, if_pos (by omega), show a + 1 + k - (a + 1) = k by omega]
        · rw [if_neg e]
          by_cases e2 : a + 1 ≤ i ∧ i < a + 1 + k
          · rw [if_pos e2, if_pos (by omega)]
          · rw [if_neg e2, if_neg (by omega)]
    · refine ⟨r, dk, ?_, h2, h3, h4, fun e => absurd e hr⟩
      have := wLists_stop (d := d) (a := a) (l := l) (k := k) (by rw [h1]; exact hr) 1
      rw [this, h1]

/-- The group's bytes and places lie in the log. -/
structure Holds (f : Nat → Sec) (a s : Nat) (l : List PutM) : Prop where
  bytes : ∀ k, k < l.length → f (wFirst a s + k) = (l.getD k default).bytes
  lists : ∀ c, c < listsN l.length → f (a + 1 + c) = wList l c

theorem wTo_eq {d dk : DiskM} {a s k : Nat} {l : List PutM} (hd : Holds d.now a s l) (hk : k < l.length) (h1 : dk.now (a + 1 + k / 32) = d.now (a + 1 + k / 32)) (h0 : 0 ≤ (l.getD k default).sector) (h2 : (l.getD k default).sector < 65536) :
    wTo dk a k = (l.getD k default).sector := by
  unfold wTo
  rw [h1, hd.lists _ (by unfold listsN; omega)]
  exact wList_at hk h0 h2

theorem loop_fits {a s k n len : Nat} (hs : 3 ≤ s) (hn : n ≤ roomN s) (hk : k < n) (hp : a + s ≤ len) :
    (a ≤ a + 1 + k / 32 ∧ a + 1 + k / 32 < a + s ∧ a + 1 + k / 32 < len) ∧ (a ≤ wFirst a s + k ∧ wFirst a s + k < a + s ∧ wFirst a s + k < len) := by
  have := first_fits (a := a) hs hn
  have h2 : k / 32 < listsN n := by unfold listsN; omega
  omega

/-- The group's sectors, written to where they go. -/
theorem wLoop_goes {d : DiskM} (h : d.off = false) {a s : Nat} {l : List PutM} (hs : 3 ≤ s) (hp : a + s ≤ d.len) (hlen : d.len ≤ 8192) (hg : GroupOk d.len a s l) (hd : Holds d.now a s l) (hw : d.waits = []) :
    ∀ k, k ≤ l.length → ∃ r dk, wLoop d a s k = (r, dk) ∧ Goes d r dk ∧ dk.sure = d.sure ∧ (∀ p ∈ dk.waits, ∃ q ∈ l, p = (q.sector.toNat, q.bytes)) ∧ (r = 0 → dk.now = applyPuts d.now (l.take k))
  | 0, _ => ⟨0, d, rfl, Goes.refl h, rfl, by rw [hw]; simp, fun _ => rfl⟩
  | k + 1, hk => by
    obtain ⟨r, dk, h1, h2, h3, h4, h5⟩ := wLoop_goes h hs hp hlen hg hd hw k (Nat.le_of_succ_le hk)
    by_cases hr : r = 0
    · subst hr
      have h5 := h5 rfl
      have hmem := getD_mem (l := l) (k := k) (Nat.lt_of_succ_le hk)
      have hout : ∀ i, a ≤ i → i < a + s → dk.now i = d.now i := by
        intro i hi1 hi2
        rw [h5]
        exact applyPuts_other (fun p hp => hg.out (List.mem_of_mem_take hp) hi1 hi2)
      obtain ⟨o1, o2, o3, _⟩ := hg.ok _ hmem
      obtain ⟨⟨f1, f2, f3⟩, f4, f5, f6⟩ := loop_fits hs hg.room (Nat.lt_of_succ_le hk) hp
      have e2 : dk.now (wFirst a s + k) = (l.getD k default).bytes := by rw [hout _ f4 f5, hd.bytes k (Nat.lt_of_succ_le hk)]
      have o4 : (l.getD k default).sector < 65536 := Int.lt_of_lt_of_le o3 (Int.le_trans (Int.ofNat_le.2 hlen) (by decide))
      have e3 : wTo dk a k = (l.getD k default).sector := wTo_eq hd (Nat.lt_of_succ_le hk) (hout _ f1 f2) o2 o4
      obtain ⟨n, hn⟩ := Int.eq_ofNat_of_zero_le o2
      rw [hn] at o3
      obtain ⟨r2, d2, f2, g2, s2, w2⟩ := DiskM.write_goes (i := n) h2.on (by rw [h2.len]; exact Int.ofNat_lt.1 o3) o1
      have hc1 := DiskM.on_check (d := dk) h2.on (i := a + 1 + k / 32) (by rw [h2.len]; exact f3)
      have hc2 := DiskM.on_check (d := dk) h2.on (i := wFirst a s + k) (by rw [h2.len]; exact f6)
      have hround : wRound dk a s k = (r2, d2) := by
        rw [wRound_go hc1 hc2 (r := r2) (d2 := d2) (by rw [e3, e2, hn]; exact f2)]
        rcases g2.ends with ⟨e, _⟩ | ⟨e, _⟩
        · rw [e]; rfl
        · rw [e]; rfl
      refine ⟨r2, d2, by rw [wLoop_succ h1]; exact hround, h2.trans g2, s2.trans h3, ?_, fun e => ?_⟩
      · intro p hp'
        rw [w2] at hp'
        split at hp'
        · rcases List.mem_append.1 hp' with hp' | hp'
          · exact h4 p hp'
          · simp only [List.mem_singleton] at hp'
            subst hp'
            exact ⟨_, hmem, by rw [hn]; rfl⟩
        · exact h4 p hp'
      · subst e
        rw [if_pos rfl] at w2
        rw [now_snoc s2 w2, h5]
        have : l.take (k + 1) = l.take k ++ [l.getD k default] := by
          rw [List.take_succ_eq_append_getElem (Nat.lt_of_succ_le hk)]
          simp [show k < l.length from Nat.lt_of_succ_le hk]
        rw [this, applyPuts_snoc, hn]
        rfl
    · refine ⟨r, dk, ?_, h2, h3, h4, fun e => absurd e hr⟩
      have := wLoop_stop (d := d) (a := a) (s := s) (k := k) (by rw [h1]; exact hr) 1
      rw [this, h1]

/-! ### A log's images -/
def EqOut (a s : Nat) (f F : Nat → Sec) : Prop := ∀ i, ¬ (a ≤ i ∧ i < a + s) → f i = F i
/-- At rest: so many groups, and what the other sectors have. -/
structure Rest (a s : Nat) (f : Nat → Sec) (g : Nat) (F : Nat → Sec) : Prop where
  head : f a = headB s g 0
  out : EqOut a s f F
/-- A group is at hand. -/
structure Hand (len a s : Nat) (f : Nat → Sec) (g : Nat) (F : Nat → Sec) (l : List PutM) : Prop where
  head : f a = headB s g l.length
  pos : 0 < l.length
  holds : Holds f a s l
  ok : GroupOk len a s l
  out : EqOut a s (applyPuts f l) F
/-- Behind a boot: so many groups done, and what the other sectors have, or will have behind an opening. -/
def At (len a s : Nat) (f : Nat → Sec) (g : Nat) (F : Nat → Sec) : Prop := Rest a s f g F ∨ ∃ l, Hand len a s f g F l

theorem Holds.congr {f f' : Nat → Sec} {a s n : Nat} {l : List PutM} (h : Holds f a s l) (hs : 3 ≤ s) (hl : l.length ≤ n) (hn : n ≤ roomN s) (he : ∀ i, a < i → i < a + s → f' i = f i) : Holds f' a s l := by
  refine ⟨fun k hk => ?_, fun c hc => ?_⟩
  · obtain ⟨_, f4, f5, _⟩ := loop_fits (a := a) (len := a + s) hs hn (Nat.lt_of_lt_of_le hk hl) (Nat.le_refl _)
    have hlt : a < wFirst a s + k := by unfold wFirst; omega
    rw [he _ hlt f5]
    exact h.bytes k hk
  · have hf := first_fits (a := a) hs (Nat.le_trans hl hn)
    rw [he _ (by omega) (by omega)]
    exact h.lists c hc

/-- The group at hand is written to where it goes, and a head without it; or the power goes off. -/
theorem wFinish_goes {d : DiskM} (h : d.off = false) {a s g : Nat} {F : Nat → Sec} {l : List PutM} (hs : 3 ≤ s) (hp : a + s ≤ d.len) (hlen : d.len ≤ 8192) (hw : d.waits = []) (hh : Hand d.len a s d.sure g F l) :
    ∃ r d', wFinish d a s g l.length = (r, d') ∧ Goes d r d' ∧ (r = 0 → d'.waits = [] ∧ Rest a s d'.sure g F) ∧ Boots d' (fun f => At d.len a s f g F) := by
  obtain ⟨r, dk, h1, h2, h3, h4, h5⟩ := wLoop_goes h hs hp hlen hh.ok (by rw [now_quiet hw]; exact hh.holds) hw l.length (Nat.le_refl _)
  have hb : Boots dk (fun f => At d.len a s f g F) := by
    intro ws hws
    rw [h3]
    have hin : ∀ i, a ≤ i → i < a + s → settle d.sure ws i = d.sure i := fun i h1 h2 => settle_other _ _ _ (fun p hp => by
      obtain ⟨q, hq, rfl⟩ := h4 p (hws.subset hp)
      exact hh.ok.out hq h1 h2)
    refine .inr ⟨l, by rw [hin _ (Nat.le_refl _) (by omega)]; exact hh.head, hh.pos, hh.holds.congr hs (Nat.le_refl _) hh.ok.room (fun i h1 h2 => hin i (Nat.le_of_lt h1) h2), hh.ok, fun i hi => ?_⟩
    rw [applyPuts_settle (fun p hp => h4 p (hws.subset hp))]
    exact hh.out i hi
  by_cases hr : r = 0
  · subst hr
    have h5 := h5 rfl
    rw [List.take_length, now_quiet hw] at h5
    have hrest : Rest a s (updS dk.now a (headB s g 0)) g F := by
      refine ⟨by unfold updS; rw [if_pos rfl], fun i hi => ?_⟩
      unfold updS
      rw [if_neg (by omega), h5]
      exact hh.out i hi
    obtain ⟨r2, d2, e2, g2, k2, b2⟩ := wBoth_goes h2.on (a := a) (s := s) (g := g) (hand := 0) (by rw [h2.len]; omega) hb (.inl hrest)
    refine ⟨r2, d2, ?_, h2.trans g2, fun e => ?_, b2⟩
    · unfold wFinish
      rw [h1, if_neg (by simp)]
      exact e2
    · obtain ⟨e3, e4⟩ := k2 e
      exact ⟨e3, by rw [e4]; exact hrest⟩
  · refine ⟨r, dk, ?_, h2, fun e => absurd e hr, hb⟩
    unfold wFinish
    rw [h1, if_pos hr]

theorem groups_head {s h : Nat} {g : Nat} (hg : g < 9223372036854775808) : groupsIn (headB s g h) = g := by
  unfold groupsIn
  rw [headB_groups]
  exact takenB_numB (by omega) hg
theorem hand_head {s h : Nat} {g : Nat} (hh : h < 65536) : handIn (headB s g h) = h := by
  unfold handIn
  rw [headB_hand]
  exact takenB_numB hh (by omega)
theorem room_le (s : Nat) : roomN s ≤ s := by unfold roomN; split <;> omega
theorem wThere_nat {d : DiskM} {a s : Nat} (hs : 3 ≤ s) (hp : a + s ≤ d.len) : wThere d a s = true := by
  unfold wThere
  simp only [Bool.and_eq_true, decide_eq_true_eq]
  omega

/-- A log is opened. -/
theorem wOpen_goes {d : DiskM} (h : d.off = false) {a s g : Nat} {F : Nat → Sec} (hs : 3 ≤ s) (hp : a + s ≤ d.len) (hlen : d.len ≤ 8192) (hg : g < 9223372036854775808) (hw : d.waits = []) (hh : At d.len a s d.sure g F) :
    groupsIn (d.now a) = g ∧ ∃ r d', wOpen d a s = (r, d') ∧ Goes d r d' ∧ (r = 0 → d'.waits = [] ∧ Rest a s d'.sure g F) ∧ Boots d' (fun f => At d.len a s f g F) := by
  have hck : d.check (a : Int) = 0 := DiskM.on_check h (by omega)
  rcases hh with hr | ⟨l, hl⟩
  · have e1 : d.now a = headB s g ((0 : Nat) : Int) := by rw [now_quiet hw]; exact hr.head
    have e2 := groups_head (s := s) (h := 0) hg
    have e3 := hand_head (s := s) (g := g) (h := 0) (by decide)
    refine ⟨by rw [e1]; exact e2, 0, d, ?_, Goes.refl h, fun _ => ⟨hw, hr⟩, Boots.quiet hw (.inl hr)⟩
    unfold wOpen
    rw [if_neg (by simp [wThere_nat hs hp]), if_neg (fun h' => h' hck), Int.toNat_natCast, e1, e2, e3]
    rw [if_neg (fun h' => h'.elim (fun h' => h' rfl) (fun h' => h'.elim (fun h' => by omega) (fun h' => by omega))), if_neg (by omega)]
  · have hln : l.length < 65536 := by have := hl.ok.room; have := room_le s; omega
    have e1 : d.now a = headB s g (l.length : Int) := by rw [now_quiet hw]; exact hl.head
    have e2 := groups_head (s := s) (h := l.length) hg
    have e3 := hand_head (s := s) (g := g) hln
    obtain ⟨r, d', f1, f2, f3, f4⟩ := wFinish_goes h hs hp hlen hw hl
    refine ⟨by rw [e1]; exact e2, r, d', ?_, f2, f3, f4⟩
    have hpos := hl.pos
    have hroom := hl.ok.room
    unfold wOpen
    rw [if_neg (by simp [wThere_nat hs hp]), if_neg (fun h' => h' hck), Int.toNat_natCast, Int.toNat_natCast, e1, e2, e3]
    rw [if_neg (fun h' => h'.elim (fun h' => h' rfl) (fun h' => h'.elim (fun h' => by omega) (fun h' => by omega))), if_pos (by omega), Int.toNat_natCast]
    exact f1

/-- A log is made. -/
theorem wFormat_goes {d : DiskM} (h : d.off = false) {a s : Nat} {F : Nat → Sec} (hs : 3 ≤ s) (hp : a + s ≤ d.len) {p : (Nat → Sec) → Prop} (hb : Boots d p) (ho : EqOut a s d.now F) (hq : ∀ f, Rest a s f 0 F → p f) :
    ∃ r d', wFormat d a s = (r, d') ∧ Goes d r d' ∧ (r = 0 → d'.waits = [] ∧ Rest a s d'.sure 0 F) ∧ Boots d' p := by
  have hrest : Rest a s (updS d.now a (headB s 0 0)) 0 F := by
    refine ⟨by unfold updS; rw [if_pos rfl]; rfl, fun i hi => ?_⟩
    unfold updS
    rw [if_neg (by omega)]
    exact ho i hi
  obtain ⟨r2, d2, e2, g2, k2, b2⟩ := wBoth_goes h (a := a) (s := s) (g := 0) (hand := 0) (by omega) hb (hq _ hrest)
  refine ⟨r2, d2, ?_, g2, fun e => ?_, b2⟩
  · unfold wFormat
    rw [if_neg (by simp [wThere_nat hs hp]), Int.toNat_natCast, Int.toNat_natCast]
    exact e2
  · obtain ⟨e3, e4⟩ := k2 e
    exact ⟨e3, by rw [e4]; exact hrest⟩

/-- A group is done; or the power goes off. -/
theorem wCommit_goes {d : DiskM} (h : d.off = false) {a s g : Nat} {F : Nat → Sec} {l : List PutM} (hs : 3 ≤ s) (hp : a + s ≤ d.len) (hlen : d.len ≤ 8192) (hg : g < 9223372036854775807) (hw : d.waits = []) (hr : Rest a s d.sure g F) (hm : wMay d.len a s l = true) :
    ∃ r g' d', wCommit d a s g l = (r, g', d') ∧ Goes d r d' ∧ (r = 0 → g' = ((g + 1 : Nat) : Int) ∧ d'.waits = [] ∧ Rest a s d'.sure (g + 1) (applyPuts F l)) ∧
      Boots d' (fun f => At d.len a s f g F ∨ At d.len a s f (g + 1) (applyPuts F l)) := by
  have hok := GroupOk.of hm
  have hwrap : wrap64 ((g : Int) + 1) = ((g + 1 : Nat) : Int) := by unfold wrap64; omega
  have hbody : ∀ ws : List (Nat × Sec), (∀ p ∈ ws, a < p.1 ∧ p.1 < a + s) → Rest a s (settle d.sure ws) g F := by
    intro ws hws
    refine ⟨?_, fun i hi => ?_⟩
    · rw [settle_other _ _ _ (fun p hp => by have := hws p hp; omega)]
      exact hr.head
    · rw [settle_other _ _ _ (fun p hp => by have := hws p hp; omega)]
      exact hr.out i hi
  have hb : Body d a s := by intro p hp; rw [hw] at hp; simp at hp
  obtain ⟨r1, d1, h1, g1, s1, b1, n1⟩ := wBytes_goes h hs hp hok hb l.length (Nat.le_refl _)
  by_cases hr1 : r1 = 0
  · subst hr1
    have n1 := n1 rfl
    obtain ⟨r2, d2, h2, g2, s2, b2, n2⟩ := wLists_goes (l := l) g1.on hs (by rw [g1.len]; exact hp) hok.room b1 _ (Nat.le_refl _)
    by_cases hr2 : r2 = 0
    · subst hr2
      have n2 := n2 rfl
      have hf := first_fits (a := a) hs hok.room
      have hlo : a + 1 ≤ wFirst a s := by unfold wFirst; omega
      have hholds : Holds d2.now a s l := by
        refine ⟨fun k hk => ?_, fun c hc => ?_⟩
        · rw [n2, if_neg (by omega), n1, if_pos (by omega), show wFirst a s + k - wFirst a s = k by omega]
        · rw [n2, if_pos (by omega), show a + 1 + c - (a + 1) = c by omega]
      have hout : ∀ i, ¬ (a ≤ i ∧ i < a + s) → d2.now i = F i := by
        intro i hi
        rw [n2, if_neg (by omega), n1, if_neg (by omega), now_quiet hw]
        exact hr.out i hi
      have hB : Boots d2 (fun f => At d.len a s f g F ∨ At d.len a s f (g + 1) (applyPuts F l)) := by
        intro ws hws
        rw [s2, s1]
        exact .inl (.inl (hbody ws (fun p hp => b2 p (hws.subset hp))))
      have hin : ∀ i, a ≤ i → i < a + s → ∀ f, applyPuts f l i = f i := fun i h1 h2 f => applyPuts_other (fun p hp => hok.out hp h1 h2)
      by_cases hl0 : l.length = 0
      · have hl : l = [] := List.eq_nil_of_length_eq_zero hl0
        have hrest : Rest a s (updS d2.now a (headB s ((g + 1 : Nat) : Int) (l.length : Int))) (g + 1) (applyPuts F l) := by
          refine ⟨by unfold updS; rw [if_pos rfl, hl0]; rfl, fun i hi => ?_⟩
          unfold updS
          rw [if_neg (by omega), hout i hi, hl]
          rfl
        obtain ⟨r3, d3, h3, g3, k3, b3⟩ := wBoth_goes g2.on (a := a) (s := s) (g := ((g + 1 : Nat) : Int)) (hand := (l.length : Int)) (by rw [g2.len, g1.len]; omega) hB (.inr (.inl hrest))
        rw [← hwrap] at h3
        refine ⟨r3, wrap64 ((g : Int) + 1), d3, ?_, (g1.trans g2).trans g3, fun e => ⟨hwrap, ?_⟩, b3⟩
        · rw [wCommit_both hm h1 h2 h3, if_pos (.inr hl0)]
        · obtain ⟨e3, e4⟩ := k3 e
          exact ⟨e3, by rw [e4]; exact hrest⟩
      · have hhand : Hand d.len a s (updS d2.now a (headB s ((g + 1 : Nat) : Int) (l.length : Int))) (g + 1) (applyPuts F l) l := by
          refine ⟨by unfold updS; rw [if_pos rfl], by omega, hholds.congr hs (Nat.le_refl _) hok.room (fun i h1 h2 => by unfold updS; rw [if_neg (by omega)]), hok, fun i hi => applyPuts_congr ?_⟩
          unfold updS
          rw [if_neg (by omega), hout i hi]
        obtain ⟨r3, d3, h3, g3, k3, b3⟩ := wBoth_goes g2.on (a := a) (s := s) (g := ((g + 1 : Nat) : Int)) (hand := (l.length : Int)) (by rw [g2.len, g1.len]; omega) hB (.inr (.inr ⟨l, hhand⟩))
        rw [← hwrap] at h3
        by_cases hr3 : r3 = 0
        · subst hr3
          obtain ⟨e3, e4⟩ := k3 rfl
          have hd3 : d3.len = d.len := ((g1.trans g2).trans g3).len
          obtain ⟨r4, d4, h4, g4, k4, b4⟩ := wFinish_goes g3.on (g := g + 1) (F := applyPuts F l) (l := l) hs (by rw [hd3]; exact hp) (by rw [hd3]; exact hlen) e3 (by rw [hd3, e4]; exact hhand)
          rw [hd3] at b4
          refine ⟨r4, wrap64 ((g : Int) + 1), d4, ?_, ((g1.trans g2).trans g3).trans g4, fun e => ⟨hwrap, k4 e⟩, b4.mono (fun f hf => .inr hf)⟩
          rw [wCommit_both hm h1 h2 h3, if_neg (by simp [hl0]), hwrap, h4]
        · refine ⟨r3, wrap64 ((g : Int) + 1), d3, ?_, (g1.trans g2).trans g3, fun e => absurd e hr3, b3⟩
          rw [wCommit_both hm h1 h2 h3, if_pos (.inl hr3)]
    · refine ⟨r2, (g : Int), d2, wCommit_lists hm h1 h2 hr2 (Nat.le_refl _), g1.trans g2, fun e => absurd e hr2, fun ws hws => ?_⟩
      rw [s2, s1]
      exact .inl (.inl (hbody ws (fun p hp => b2 p (hws.subset hp))))
  · refine ⟨r1, (g : Int), d1, wCommit_bytes hm h1 hr1 (Nat.le_refl _), g1, fun e => absurd e hr1, fun ws hws => ?_⟩
    rw [s1]
    exact .inl (.inl (hbody ws (fun p hp => b1 p (hws.subset hp))))

end Go.Proofs.YtcggloceabjjdaaGreat

/- The log's statements: their small functions; no condition. -/
namespace Go.Proofs.YtcggloceabjjdaaGreat
open Go.RowKit Go.MapKept

/-- A sector of one byte, and another one at its end. -/
def fullS (c e : UInt8) : Sec := List.replicate 63 c ++ [e]
theorem fullS_length (c e : UInt8) : (fullS c e).length = 64 := by simp [fullS]

def partS (c : UInt8) (k : Nat) : Sec := List.replicate k c ++ List.replicate (64 - k) 0

theorem partS_set (c : UInt8) (k : Nat) (hk : k < 64) : (cellsV (partS c k)).toArray.setIfInBounds k (byteV c) = (cellsV (partS c (k + 1))).toArray := by
  apply Array.toList_inj.1
  simp only [Array.toList_setIfInBounds, cellsV, partS, List.map_append, List.map_replicate]
  rw [List.set_append_right _ _ (by simp)]
  simp only [List.length_replicate, Nat.sub_self]
  rw [show 64 - k = (64 - (k + 1)) + 1 by omega, List.replicate_succ, List.set_cons_zero, List.replicate_succ']
  simp

end Go.Proofs.YtcggloceabjjdaaGreat

/- The log's statements: the ground they stand on; no condition. -/
namespace Go.Proofs.YtcggloceabjjdaaGreat
open Go.RowKit Go.MapKept

/-- A log at rest on a disk that is on: so many groups done, and what the other sectors have. -/
structure LogOn (d : DiskM) (a s g : Nat) (F : Nat → Sec) : Prop where
  off : d.off = false
  quiet : d.waits = []
  three : 3 ≤ s
  place : a + s ≤ d.len
  len : d.len ≤ 8192
  rest : Rest a s d.sure g F
theorem LogOn.now {d : DiskM} {a s g : Nat} {F : Nat → Sec} (h : LogOn d a s g F) {i : Nat} (hi : ¬ (a ≤ i ∧ i < a + s)) : d.now i = F i := by
  rw [now_quiet h.quiet]; exact h.rest.out i hi
theorem LogOn.few {d : DiskM} {a s g : Nat} {F : Nat → Sec} (h : LogOn d a s g F) (n : Nat) (hn : n < 1099511627776) : d.waits.length + n < 1099511627776 := by
  rw [h.quiet]; simpa using hn
theorem LogOn.few0 {d : DiskM} {a s g : Nat} {F : Nat → Sec} (h : LogOn d a s g F) : d.waits.length < 1099511627776 := by
  rw [h.quiet]; decide
theorem LogOn.opens {d : DiskM} {a s g : Nat} {F : Nat → Sec} (h : LogOn d a s g F) (hg : g < 9223372036854775808) : wOpen d a s = (0, d) ∧ groupsIn (d.now a) = g := by
  have e1 : d.now a = headB s g ((0 : Nat) : Int) := by rw [now_quiet h.quiet]; exact h.rest.head
  have e2 := groups_head (s := s) (h := 0) hg
  have e3 := hand_head (s := s) (g := g) (h := 0) (by decide)
  have hck : d.check (a : Int) = 0 := DiskM.on_check h.off (by have := h.place; have := h.three; omega)
  refine ⟨?_, by rw [e1]; exact e2⟩
  unfold wOpen
  rw [if_neg (by simp [wThere_nat h.three h.place]), if_neg (fun h' => h' hck), Int.toNat_natCast, e1, e2, e3]
  rw [if_neg (fun h' => h'.elim (fun h' => h' rfl) (fun h' => h'.elim (fun h' => by omega) (fun h' => by omega))), if_neg (by omega)]
theorem LogOn.commit {d : DiskM} {a s g : Nat} {F : Nat → Sec} {l : List PutM} (h : LogOn d a s g F) (hg : g < 9223372036854775807) (hm : wMay d.len a s l = true) :
    ∃ r g' d', wCommit d a s g l = (r, g', d') ∧ Goes d r d' ∧ (r = 0 → g' = ((g + 1 : Nat) : Int) ∧ LogOn d' a s (g + 1) (applyPuts F l)) ∧
      Boots d' (fun f => At d.len a s f g F ∨ At d.len a s f (g + 1) (applyPuts F l)) := by
  obtain ⟨r, g', d', h1, h2, h3, h4⟩ := wCommit_goes h.off h.three h.place h.len hg h.quiet h.rest hm
  refine ⟨r, g', d', h1, h2, fun e => ?_, h4⟩
  obtain ⟨k1, k2, k3⟩ := h3 e
  subst e
  exact ⟨k1, h2.on, k2, h.three, by rw [h2.len]; exact h.place, by rw [h2.len]; exact h.len, k3⟩
/-- With no fuse, a group is done. -/
theorem LogOn.commits {d : DiskM} {a s g : Nat} {F : Nat → Sec} {l : List PutM} (h : LogOn d a s g F) (hf : d.fuse = -1) (hg : g < 9223372036854775807) (hm : wMay d.len a s l = true) :
    ∃ d', wCommit d a s g l = (0, ((g + 1 : Nat) : Int), d') ∧ LogOn d' a s (g + 1) (applyPuts F l) ∧ d'.fuse = -1 ∧ d'.len = d.len := by
  obtain ⟨r, g', d', h1, h2, h3, _⟩ := h.commit hg hm
  obtain rfl := h2.yes hf
  obtain ⟨rfl, h4⟩ := h3 rfl
  exact ⟨d', h1, h4, h2.plain hf, h2.len⟩
theorem LogOn.steady {d : DiskM} {a s g : Nat} {F G : Nat → Sec} (h : LogOn d a s g F) (hg : EqOut a s F G) : LogOn d a s g G :=
  ⟨h.off, h.quiet, h.three, h.place, h.len, h.rest.head, fun i hi => (h.rest.out i hi).trans (hg i hi)⟩

/-- A log is formatted on a disk that is on, with no fuse. -/
theorem formats {d : DiskM} {a s : Nat} {F : Nat → Sec} (h : d.off = false) (hf : d.fuse = -1) (hs : 3 ≤ s) (hp : a + s ≤ d.len) (hl : d.len ≤ 8192) (ho : EqOut a s d.now F) :
    ∃ d', wFormat d a s = (0, d') ∧ LogOn d' a s 0 F ∧ d'.fuse = -1 ∧ d'.len = d.len := by
  obtain ⟨r, d', h1, h2, h3, _⟩ := wFormat_goes (p := fun _ => True) h hs hp (fun _ _ => trivial) ho (fun _ _ => trivial)
  obtain rfl := h2.yes hf
  obtain ⟨h4, h5⟩ := h3 rfl
  exact ⟨d', h1, ⟨h2.on, h4, hs, by rw [h2.len]; exact hp, by rw [h2.len]; exact hl, h5⟩, h2.plain hf, h2.len⟩

/-! ### The log's functions, with what they answer named -/
theorem format_to {p : Nat} {d d' : DiskM} {R : Assn} {w : World} {r a s : Int} (h : Bears w (diskA p d * R)) (heq : wFormat d a s = (r, d')) (ha : -9223372036854775808 ≤ a ∧ a ≤ 9223372036854775807) (hs : -9223372036854775808 ≤ s ∧ s ≤ 9223372036854775807) (hroom : d.waits.length + 1 < 1099511627776) :
    Calls Tryz.prog 74 #[.pointer (some ⟨p, 0, none⟩), .int .i64 a, .int .i64 s] w fun e w' => e = .returned (.int .i64 r) ∧ Bears w' (diskA p d' * R) := by
  have := format_any h a s ha hs hroom
  rw [heq] at this
  exact this
theorem open_yes {p : Nat} {d d' : DiskM} {R : Assn} {w : World} {a s : Nat} {g : Int} (h : Bears w (diskA p d * R)) (heq : wOpen d a s = (0, d')) (hg : groupsIn (d.now a) = g) (ha : a ≤ 100000) (hs : s ≤ 100000) (hroom : d.waits.length + 20000 < 1099511627776) :
    Calls Tryz.prog 40 #[.pointer (some ⟨p, 0, none⟩), .int .i64 a, .int .i64 s] w fun e w' => ∃ x, e = .returned (.tuple #[.pointer (some ⟨x, 0, none⟩), .int .i64 0]) ∧ Bears w' (walObj x p a s g * (diskA p d' * R)) := by
  refine (open_any h a s (by omega) (by omega) hroom).mono ?_
  rintro e w' (⟨h1, _⟩ | ⟨_, x, h2, h3⟩)
  · rw [heq] at h1
    exact absurd rfl h1
  · rw [heq, Int.toNat_natCast, Int.toNat_natCast, hg] at h3
    exact ⟨x, h2, h3⟩
theorem open_no {p : Nat} {d d' : DiskM} {R : Assn} {w : World} {a s r : Int} (h : Bears w (diskA p d * R)) (heq : wOpen d a s = (r, d')) (hr : r ≠ 0) (ha : -9223372036854775808 ≤ a ∧ a ≤ 9223372036854775807) (hs : -9223372036854775808 ≤ s ∧ s ≤ 9223372036854775807) (hroom : d.waits.length + 20000 < 1099511627776) :
    Calls Tryz.prog 40 #[.pointer (some ⟨p, 0, none⟩), .int .i64 a, .int .i64 s] w fun e w' => e = .returned (.tuple #[.pointer none, .int .i64 r]) ∧ Bears w' (diskA p d' * R) := by
  refine (open_any h a s ha hs hroom).mono ?_
  rintro e w' (⟨h1, h2, h3⟩ | ⟨h1, _⟩)
  · rw [heq] at h2 h3
    exact ⟨h2, h3⟩
  · rw [heq] at h1
    exact absurd h1 hr
theorem commit_to {x p a s : Nat} {g g' r : Int} {d d' : DiskM} {R : Assn} {w : World} {l : List PutM} {ad : Option Addr} {n cap : Nat} (h : Bears w (walObj x p a s g * (diskA p d * R))) (heq : wCommit d a s g l = (r, g', d')) (hl : R.Tells (fun w => PutsIn w (.slice ad n cap) l))
    (hlen : l.length ≤ 9223372036854775807) (ha : a ≤ 100000) (hs : s ≤ 100000) (hroom : d.waits.length + 400000 < 1099511627776) :
    Calls Tryz.prog 91 #[.pointer (some ⟨x, 0, none⟩), .slice ad n cap] w fun e w' => e = .returned (.int .i64 r) ∧ Bears w' (walObj x p a s g' * (diskA p d' * R)) := by
  obtain rfl := (hl w h.right.right).len
  have := commit_any h l ad cap hl hlen ha hs hroom
  rw [heq] at this
  exact this

/-! ### Puts in memory -/
def putCells (l : List PutM) : List Value := l.flatMap fun p => [.int .i64 p.sector, p.val]
theorem putCells_length (l : List PutM) : (putCells l).length = 2 * l.length := by
  unfold putCells
  induction l with
  | nil => rfl
  | cons p l ih => simp [ih]; omega
theorem putCells_at : ∀ (l : List PutM) (k : Nat), k < l.length → (putCells l)[k * 2]? = some (.int .i64 (l.getD k default).sector) ∧ (putCells l)[k * 2 + 1]? = some (l.getD k default).val
  | [], _, h => absurd h (by simp)
  | p :: l, 0, _ => ⟨rfl, rfl⟩
  | p :: l, k + 1, h => by
    have := putCells_at l k (by simpa using h)
    rw [show (k + 1) * 2 = k * 2 + 1 + 1 by omega]
    simpa [putCells] using this
theorem PutsIn.range {w : World} {b o cap : Nat} {l : List PutM} (h : w.rangeAt b o (putCells l)) (hb : ∀ p ∈ l, BytesIn w p.val p.bytes) (hcap : l.length ≤ cap) : PutsIn w (.slice (some ⟨b, o, none⟩) l.length cap) l := by
  refine ⟨_, cap, rfl, hcap, fun _ => ⟨b, o, rfl, fun k hk => ?_⟩⟩
  obtain ⟨h1, h2⟩ := putCells_at l k hk
  refine ⟨h _ _ h1, ?_, hb _ (getD_mem hk)⟩
  have := h _ _ h2
  rwa [← Nat.add_assoc] at this
theorem PutsIn.tells {b cap n : Nat} {l : List PutM} {t : TypeId} {R : Assn} (hn : n = l.length) (hb : ∀ p ∈ l, R.Tells (fun w => BytesIn w p.val p.bytes)) (hcap : l.length ≤ cap) :
    (Assn.obj b (.cells (putCells l).toArray t (0, 0)) * R).Tells (fun w => PutsIn w (.slice (some ⟨b, 0, none⟩) n cap) l) := by
  subst hn
  exact fun w h => PutsIn.range (by simpa using rangeAt_of_obj h.obj) (fun p hp => hb p hp w h.right) hcap

/-- A put of a sector's bytes that lie in a block of their own. -/
abbrev putOf (sec : Int) (g : Nat) (l : List UInt8) : PutM := ⟨sec, l, some ⟨g, 0, none⟩, l.length⟩

end Go.Proofs.YtcggloceabjjdaaGreat

/- Rows of puts; no condition. -/
namespace Go.Proofs.YtcggloceabjjdaaGreat
open Go.RowKit Go.MapKept

theorem drop_take_cells : ∀ (l : List PutM) (k : Nat), k < l.length → ((putCells l).drop (k * 2)).take 2 = [.int .i64 (l.getD k default).sector, (l.getD k default).val]
  | [], _, h => absurd h (by simp)
  | p :: l, 0, _ => rfl
  | p :: l, k + 1, h => by
    have := drop_take_cells l k (by simpa using h)
    rw [show (k + 1) * 2 = k * 2 + 1 + 1 by omega]
    simpa [putCells] using this

theorem PutsIn.row {w : World} {v : Value} {n : Nat} {l : List PutM} {R : Assn} (h : Bears w (rowA 115 2 v n (putCells l) * R)) (hn : n = l.length) (hb : ∀ p ∈ l, R.Tells (fun w => BytesIn w p.val p.bytes)) : PutsIn w v l := by
  subst hn
  obtain ⟨a, c, rfl, hc, _, hr⟩ := h.rowForm
  refine ⟨a, c, rfl, hc, fun hne => ?_⟩
  obtain ⟨g, rfl, _⟩ := hr 0 (List.length_pos_iff.2 hne)
  refine ⟨g, 0, rfl, fun k hk => ?_⟩
  obtain ⟨g', he, h2⟩ := hr k hk
  cases he
  rw [drop_take_cells l k hk] at h2
  refine ⟨by rw [Nat.zero_add]; exact h2 0 _ rfl, by rw [Nat.zero_add]; exact h2 1 _ rfl, hb _ (getD_mem hk) w h.right⟩

theorem putCells_snoc (l : List PutM) (p : PutM) : putCells (l ++ [p]) = putCells l ++ [.int .i64 p.sector, p.val] := by simp [putCells]
theorem wMayTo_snoc {n a s : Nat} (p : PutM) : ∀ (l seen : List PutM), wMayTo n a s seen (l ++ [p]) = (wMayTo n a s seen l && wOk n a s (seen ++ l) p)
  | [], seen => by simp [wMayTo]
  | q :: l, seen => by
    simp only [List.cons_append, wMayTo]
    rw [wMayTo_snoc p l (seen ++ [q]), List.append_assoc, Bool.and_assoc]
    rfl
theorem u_puts : Tryz.prog.underlying 109 = some (.slice 115) := by kernel_rfl
theorem i_put : (Tryz.prog.info? 115).map (fun i => (i.zero, i.size, i.bytes)) = some (some (.agg #[.int .i64 0, .slice none 0 0]), 2, 32) := by kernel_rfl

end Go.Proofs.YtcggloceabjjdaaGreat

/- Walks of the cache's functions, part 12: the keys of a map, sorted; Commit; no condition. -/
namespace Go.Proofs.YtcggloceabjjdaaGreat
open Go.RowKit Go.MapKept Go.Maps Go.Sort Go.Shelf Go.WideShapes

/-- How any value is read where it does not matter. -/
def anyR : Value → Option (DataW Unit × List MemPlace) := fun _ => some (.nil, [])

theorem rd_any {x : MapEntry} {k : Int} (hk : x.key = .int .i64 k) (hb : -9223372036854775808 ≤ k ∧ k ≤ 9223372036854775807) : WideElems.rd Tryz.prog 3 anyR x = some (.int .i64 k, .nil) := by
  have : keyOf Tryz.prog 3 x.key = some (.int .i64 k) := by
    rw [hk]
    unfold keyOf
    rw [u_int]
    simp [mapKey, Lit.wf]
    exact ⟨by show IntKind.i64.min ≤ k; have : IntKind.i64.min = -9223372036854775808 := by decide
              omega, hb.2⟩
  unfold WideElems.rd
  rw [this]
  rfl

theorem Bears.ownsMap {w : World} {b : Nat} {l : List (Int × Value)} {R : Assn} (h : Bears w (mapA b l * R)) (hb : ∀ k v, getL k l = some v → -9223372036854775808 ≤ k ∧ k ≤ 9223372036854775807) (hl : l.length ≤ maxLen) :
    ∃ D : DataW Unit, w.ownsMap Tryz.prog 3 anyR b l.length D ∧ (intKeys D).Perm (l.map Prod.fst) ∧ Maps.size D = l.length := by
  obtain ⟨es, clock, hm, h0⟩ := h.ofMapA
  have hs : es.size = l.length := by have := congrArg List.length hm.list; simpa using this
  have hrd : ∀ x ∈ es.toList, ∃ k, x.key = .int .i64 k ∧ WideElems.rd Tryz.prog 3 anyR x = some (.int .i64 k, .nil) := by
    intro x hx
    obtain ⟨k, v, hk, hv, hg⟩ := hm.entry hx
    exact ⟨k, hk, rd_any hk (hb k v hg)⟩
  refine ⟨_, ⟨es, clock, h0.obj, ⟨by omega, hm.stamped, fun x hx => ?_⟩, by omega, rfl⟩, ?_, ?_⟩
  · obtain ⟨k, _, h2⟩ := hrd x hx
    exact ⟨_, h2⟩
  · simp only [intKeys]
    refine ((sorted_perm _).map _).trans ?_
    rw [List.map_map]
    have e1 : es.toList.map ((fun p : Lit × DataW Unit => Go.intOf p.1) ∘ WideElems.rg Tryz.prog 3 anyR) = l.map Prod.fst := by
      have e2 : (l.map Prod.fst).map (Value.int .i64) = es.toList.map (·.key) := by
        have := congrArg (List.map Prod.fst) hm.list
        simpa [Function.comp_def] using this.symm
      have e3 : (es.toList.map ((fun p : Lit × DataW Unit => Go.intOf p.1) ∘ WideElems.rg Tryz.prog 3 anyR)).map (Value.int .i64) = es.toList.map (·.key) := by
        rw [List.map_map]
        refine List.map_congr_left fun x hx => ?_
        obtain ⟨k, hk, h2⟩ := hrd x hx
        simp [WideElems.rg, h2, hk, Go.intOf]
      exact List.map_inj_right (fun x y h => by simpa using h) |>.1 (e3.trans e2.symm)
    rw [e1]
  · simp [Maps.size, length_sorted, hs]

theorem Bears.ownsRow {w w' : World} {e : TypeId} {size : Nat} {v : Value} {n : Nat} {xs : List Value} {R : Assn} (h : Bears w R) (hr : w'.ownsRow w.heap.size e size v n xs) (hb : Below w.heap.size w w') : Bears w' (rowA e size v n xs * R) := by
  have h1 : w'.ownsRow 0 e size v n xs := ownsRow_base_a hr (Nat.zero_le _)
  obtain ⟨H, hR⟩ := h
  obtain ⟨h2, h3, h4, h5, h6⟩ := hb
  refine ⟨_, _, H, ⟨h1, rfl⟩, R.loc hR ⟨h2, h3, h4, h5⟩ (fun b hb => h6 b (R.lt hR b hb)), fun b hb1 hb2 => ?_, rfl⟩
  have := R.lt hR b hb2
  rcases hr.2 with ⟨rfl, _⟩ | ⟨g, cap, cur, rfl, hbase, _⟩
  · simp [Value.ownBlock] at hb1
  · simp only [Value.ownBlock, Option.some.injEq] at hb1
    omega

theorem sortsA (m : Nat) : AnyZI.SortsIn Tryz.prog Tryz.sortedA_ren Fence.wide m :=
  ⟨fun blk off cap ss W hH hblk hsz => callsIn_wide.2 (Tryz.slices_Sort_int blk off cap ss W hH hblk hsz),
   fun p cap W => callsIn_wide.2 (Tryz.slices_Sort_int_none p cap W)⟩

theorem keys_any (mb : Option Nat) (w : World) : Calls Tryz.prog 90 #[.map mb] w fun e w' => e = .returned (.func (.func 104) #[] #[.pointer (some ⟨w.heap.size, 0, none⟩)]) ∧ w' = w.alloc (.cells #[.map mb] 103) :=
  (callsIn_wide (n := 5)).1 (AnyZI.keys_in Tryz.keysA Fence.wide 5 trivial rfl mb w)

set_option maxRecDepth 100000 in
set_option maxHeartbeats 1000000 in
theorem sorted_any {w : World} {b : Nat} {l : List (Int × Value)} {R : Assn} (h : Bears w (mapA b l * R)) (hb : ∀ k v, getL k l = some v → -9223372036854775808 ≤ k ∧ k ≤ 9223372036854775807) (hl : l.length < 1099511627776) :
    Calls Tryz.prog 89 #[.func (.func 104) #[] #[.pointer (some ⟨w.heap.size, 0, none⟩)]] (w.alloc (.cells #[.map (some b)] 103)) fun e w' => ∃ v ks, e = .returned v ∧ ks.Perm (l.map Prod.fst) ∧
      Bears w' (rowA 3 1 v ks.length (intsV ks) * (mapA b l * R)) := by
  obtain ⟨D, hown, hperm, hsize⟩ := h.ownsMap hb (by unfold maxLen; omega)
  have h1 := h.alloc (.cells #[.map (some b)] 103)
  have hbl := hown.lt
  have hseq : SeqGives Fence.wide 2 Tryz.prog 104 #[.pointer (some ⟨w.heap.size, 0, none⟩)] encZ (fun ss => ss.Perm (intKeys D)) (Maps.size D) (w.alloc (.cells #[.map (some b)] 103)) :=
    AnyZI.keys_gives (ρ := Tryz.keysA_ren) { Tryz.keysA with } Fence.wide _ trivial rfl (by omega) w.heap.size b l.length D _ (by simp) (by simp) (by
      obtain ⟨es, clock, hb, Ft, hs, hD⟩ := hown
      exact ⟨es, clock, (Below.heap_alloc _ _ b hbl).trans hb, Ft, hs, hD⟩)
  have cS := AnyZI.sorted_in Tryz.sortedA Fence.wide 5 trivial trivial trivial trivial rfl (by omega) (sortsA _) (enters_of Tryz.func103 (by kernel_rfl) rfl) 104 #[.pointer (some ⟨w.heap.size, 0, none⟩)] trivial (enters_of Tryz.func104 (by kernel_rfl) rfl) _ _ (by rw [hsize]; unfold maxLen; omega) (by rw [hsize]; omega) _ hseq
  refine ((callsIn_wide (n := 5)).1 cS).mono ?_
  rintro e w' ⟨v, ss, rfl, hS, hrow, _, hbelow⟩
  refine ⟨v, ss.mergeSort (fun x y => decide (x ≤ y)), rfl, (List.mergeSort_perm _ _).trans (hS.trans hperm), ?_⟩
  rw [(List.mergeSort_perm ss _).length_eq]
  exact (h1.ownsRow hrow hbelow).pull2.right

end Go.Proofs.YtcggloceabjjdaaGreat

/- Walks of the cache's functions, part 13: Commit; no condition. -/
namespace Go.Proofs.YtcggloceabjjdaaGreat
open Go.RowKit Go.MapKept

/-- The puts of a commit: a line each that is pinned, in whatever order. -/
structure PutsOf (l : List PutM) (ls : List LineM) : Prop where
  perm : (l.map (·.sector)).Perm ((ls.filter (·.pin)).map (·.at'))
  bytes : ∀ q ∈ l, ∃ y ∈ ls, y.pin = true ∧ y.at' = q.sector ∧ y.b = q.bytes
def unpinL (ls : List LineM) : List LineM := ls.map fun y => { y with pin := false }
def CacheM.commits (c : CacheM) : CacheM := { c with isOpen := false, lines := trimL c.most (unpinL c.lines).length (unpinL c.lines) }

theorem unpinL_at (ls : List LineM) : (unpinL ls).map (·.at') = ls.map (·.at') := by simp [unpinL, Function.comp_def]
theorem unpinL_order (ls : List LineM) : orderV (unpinL ls) = orderV ls := by simp [unpinL, orderV, Function.comp_def]
theorem unpinL_length (ls : List LineM) : (unpinL ls).length = ls.length := by simp [unpinL]
theorem findL_unpin (i : Int) : ∀ (ls : List LineM), findL i (unpinL ls) = (findL i ls).map fun y => { y with pin := false }
  | [] => rfl
  | y :: r => by
    have ih := findL_unpin i r
    unfold unpinL at ih ⊢
    simp only [List.map_cons, findL]
    by_cases h : y.at' = i
    · rw [if_pos h, if_pos h]; rfl
    · rw [if_neg h, if_neg h, ih]
theorem HasMap.unpin {Y : Assn} {hl : List (Int × Value)} {ls : List LineM} (h : HasMap Y hl ls) : HasMap Y hl (unpinL ls) := by
  refine ⟨fun i hi => ?_, fun i x hi => ?_⟩
  · rw [findL_unpin] at hi
    exact h.no i (by simpa using hi)
  · rw [findL_unpin] at hi
    cases hf : findL i ls with
    | none => rw [hf] at hi; cases hi
    | some y =>
      rw [hf] at hi
      simp only [Option.map_some, Option.some.injEq] at hi
      subst hi
      exact h.yes i y hf
theorem PinMap.unpin (ls : List LineM) : PinMap [] (unpinL ls) := by
  refine ⟨fun i => ?_, ?_⟩
  · rw [findL_unpin]
    cases findL i ls <;> rfl
  · have : (unpinL ls).filter (·.pin) = [] := by
      rw [List.filter_eq_nil_iff]
      intro y hy
      obtain ⟨z, _, rfl⟩ := List.mem_map.1 hy
      simp
    rw [this]
    rfl
theorem CacheM.WF.commits {c : CacheM} (h : c.WF) : c.commits.WF := by
  refine ⟨((trimL_sub _ _ _).map _).nodup (by rw [unpinL_at]; exact h.nodup), fun x hx => ?_, h.most, h.misses, fun _ x hx => ?_, fun x hx hp => ?_⟩
  · obtain ⟨z, hz, rfl⟩ := List.mem_map.1 ((trimL_sub _ _ _).subset hx)
    exact h.bytes z hz
  · obtain ⟨z, hz, rfl⟩ := List.mem_map.1 ((trimL_sub _ _ _).subset hx)
    rfl
  · obtain ⟨z, hz, rfl⟩ := List.mem_map.1 ((trimL_sub _ _ _).subset hx)
    cases hp

theorem PinMap.keys {pl : List (Int × Value)} {ls : List LineM} (h : PinMap pl ls) (hn : (ls.map (·.at')).Nodup) (hk : (pl.map Prod.fst).Nodup) : (pl.map Prod.fst).Perm ((ls.filter (·.pin)).map (·.at')) := by
  refine (List.perm_ext_iff_of_nodup hk ((List.filter_sublist.map _).nodup hn)).2 fun i => ?_
  have h1 := h.has i
  constructor
  · intro hi
    have : getL i pl ≠ none := fun e => getL_none.1 e hi
    cases hf : findL i ls with
    | none =>
      rw [hf] at h1
      cases hg : getL i pl with
      | none => exact absurd hg this
      | some v => rw [hg] at h1; cases h1
    | some y =>
      rw [hf] at h1
      obtain ⟨hy, rfl⟩ := findL_mem hf
      refine List.mem_map.2 ⟨y, List.mem_filter.2 ⟨hy, ?_⟩, rfl⟩
      have h2 : (getL y.at' pl).isSome = y.pin := h1
      rw [← h2]
      cases hg : getL y.at' pl with
      | none => exact absurd hg this
      | some v => rfl
  · intro hi
    obtain ⟨y, hy, rfl⟩ := List.mem_map.1 hi
    obtain ⟨hy, hp⟩ := List.mem_filter.1 hy
    have h2 := h.each hn y hy
    rw [hp] at h2
    by_cases hm : y.at' ∈ pl.map Prod.fst
    · exact hm
    · rw [getL_none.2 hm] at h2
      cases h2

set_option maxRecDepth 100000 in
set_option maxHeartbeats 2000000 in
theorem ccommit_open {c p x a s : Nat} {g : Int} {cm : CacheM} {d : DiskM} {R : Assn} {w : World} (h : Bears w (cacheA c p x cm * (walObj x p a s g * (diskA p d * R)))) (ho : cm.isOpen = true) (ha : a ≤ 100000) (hs : s ≤ 100000)
    (hroom : d.waits.length + 400000 < 1099511627776) (hlen : cm.lines.length < 1099511627775) :
    Calls Tryz.prog 59 #[.pointer (some ⟨c, 0, none⟩)] w fun e w' => ∃ l r g' d', PutsOf l cm.lines ∧ wCommit d a s g l = (r, g', d') ∧ e = .returned (.int .i64 r) ∧
      Bears w' (cacheA c p x (if r = 0 then cm.commits else cm) * (walObj x p a s g' * (diskA p d' * R))) := by
  obtain ⟨hb, pb, ov, hl, pl, Y, hwf, hhm, hpm, h0⟩ := Bears.cache.1 h
  obtain ⟨⟨c0, c1, c2, c3, c4, c5, c6, c7⟩, _⟩ := cache_cells h0
  rw [ho] at c4
  have hkeys := Lib.hid (hpm.keys hwf.nodup h0.pull3.mapNodup)
  have hpl : pl.length < 1099511627776 := by
    have := hpm.count
    have := List.length_filter_le (fun y : LineM => y.pin) cm.lines
    omega
  have hso := sorted_any h0.pull3 (fun k v hk => by
    have hm := hkeys.out.mem_iff.1 (List.mem_map.2 ⟨(k, v), mem_of_getL hk, rfl⟩)
    obtain ⟨y, hy, rfl⟩ := List.mem_map.1 hm
    obtain ⟨hy, hp⟩ := List.mem_filter.1 hy
    have := hwf.place y hy hp
    omega) hpl
  have hz : ∀ w, (zeroValue 34).run Tryz.prog w = .ok (.slice none 0 0) w := fun _ => by kernel_rfl
  have Hwf := Lib.hid hwf
  have Hpm := Lib.hid hpm
  have Hhm := Lib.hid hhm
  have Ho := Lib.hid ho
  have Hlen := Lib.hid hlen
  have Hroom := Lib.hid hroom
  clear hwf hpm hhm ho h hlen hroom
  go_enter Tryz.func59, Tryz.ntmps59
  go_wp2_with fail
  refine (keys_any _ w).mono ?_
  rintro e w1 ⟨rfl, rfl⟩
  go_wp2_with fail
  refine hso.mono ?_
  rintro e w2 ⟨v, ks, rfl, hperm, h1⟩
  obtain ⟨ra, rc, rfl, _⟩ := h1.rowForm
  have hkl : ks.length < 1099511627776 := by rw [hperm.length_eq, List.length_map]; exact hpl
  have Hperm := Lib.hid (hperm.trans hkeys.out)
  have hnil := (Bears.nilRow (e := 115) (size := 2)).2 h1
  clear hso hkeys hperm h1 h0 c0 c1 c2 c3 c4 c5 c6 c7
  have h2 : Bears w2 (rowA 115 2 (.slice none 0 0) 0 (putCells []) * (rowA 3 1 (.slice ra ks.length rc) ks.length (intsV ks) * (cacheObj c p x cm hb pb ov * (mapA hb hl * (mapA pb pl *
      (rowA 3 1 ov cm.lines.length (orderV cm.lines) * (Y * (walObj x p a s g * (diskA p d * R))))))))) := hnil.cast (by simp only [putCells, List.flatMap_nil]; ac_rfl)
  clear hnil
  obtain ⟨nk, hnk⟩ : ∃ nk, ks.length = nk := ⟨_, rfl⟩
  have Hnk := Lib.hid hnk
  rw [hnk] at hkl
  rw [hnk] at h2
  rw [hnk]
  clear hnk
  go_upto_block 0 with (fail)
  go_cut [3] (fun gv wr => ∃ L : List PutM, L.length = nk ∧ L.map (·.sector) = ks ∧ (∀ q ∈ L, ∃ y ∈ cm.lines, y.pin = true ∧ y.at' = q.sector ∧ y.b = q.bytes ∧ Y.Tells (fun w => BytesIn w q.val q.bytes)) ∧
      Bears wr (rowA 115 2 gv nk (putCells L) * (cacheObj c p x cm hb pb ov * (mapA hb hl * (mapA pb pl * (rowA 3 1 ov cm.lines.length (orderV cm.lines) * (Y * (walObj x p a s g * (diskA p d * R)))))))))
  case first =>
    go_wp2_with fail
    go_loopw [3, 19] (fun gv i wr => ∃ k : Nat, k ≤ nk ∧ i = .int .i64 k ∧ ∃ L : List PutM, L.length = k ∧ L.map (·.sector) = ks.take k ∧ (∀ q ∈ L, ∃ y ∈ cm.lines, y.pin = true ∧ y.at' = q.sector ∧ y.b = q.bytes ∧ Y.Tells (fun w => BytesIn w q.val q.bytes)) ∧
      Bears wr (rowA 115 2 gv k (putCells L) * (rowA 3 1 (.slice ra nk rc) nk (intsV ks) * (cacheObj c p x cm hb pb ov * (mapA hb hl * (mapA pb pl * (rowA 3 1 ov cm.lines.length (orderV cm.lines) * (Y * (walObj x p a s g * (diskA p d * R)))))))))) (fun _ i _ => nk - (intOf i).toNat)
    case atStart => exact ⟨0, by omega, rfl, [], rfl, by simp, by simp, h2⟩
    case round =>
      obtain ⟨k, hk, rfl, L, hL, hLs, hLb, h3⟩ := hrel
      obtain ⟨ga, gc, rfl, _⟩ := h3.rowForm
      by_cases hlt : k < nk
      · obtain ⟨rg, rfl, hcell⟩ := h3.pull2.rowObjN Hnk.out.symm hlt
        have hcol := cache_cells h3.pull3
        obtain ⟨⟨c0, c1, c2, c3, c4, c5, c6, c7⟩, _⟩ := hcol
        obtain ⟨i, hi⟩ : ∃ i, ks.getD k 0 = i := ⟨_, rfl⟩
        rw [hi] at hcell
        have hmem : i ∈ ks := by rw [← hi]; rw [List.getD_eq_getElem?_getD, List.getElem?_eq_getElem (by rw [Hnk.out]; exact hlt)]; simp
        have hsucc : ks.take (k + 1) = ks.take k ++ [i] := by
          rw [← hi, List.take_succ_eq_append_getElem (by rw [Hnk.out]; exact hlt)]
          simp [Hnk.out, hlt]
        obtain ⟨y, hy, hyi⟩ := List.mem_map.1 (Hperm.out.mem_iff.1 hmem)
        obtain ⟨hy, hyp⟩ := List.mem_filter.1 hy
        obtain ⟨ad, cap, hg, hY⟩ := Hhm.out.yes _ _ (findL_of_mem Hwf.out.nodup hy)
        rw [hyi] at hg
        have h4 := (h3.alloc (.cells #[.int .i64 i, .slice ad y.b.length cap] 115)).pull2
        have hnews := World.news_of_block (cs := #[.int .i64 i, .slice ad y.b.length cap]) h4.pull2.obj
        have hh := h3.pull4
        have HY := Lib.hid hY
        have Hyi := Lib.hid hyi
        have Hs := Lib.hid hsucc
        have Hy := Lib.hid hy
        have Hyp := Lib.hid hyp
        have HLb := Lib.hid hLb
        have HLs := Lib.hid hLs
        have HL := Lib.hid hL
        clear hY hyi hsucc hy hyp hi hmem hLb hLs hL
        obtain ⟨i0, hi0, hz0, hz1, hz2⟩ := info_parts i_put
        go_wp2_with (first
          | (refine wpList_lookup_bears hh rfl rfl u_has u_int (hz _) rfl rfl ?_; rw [hg]; simp only [Option.getD_some])
          | (at_builtin; refine wpList_append_bears h4 rfl rfl u_puts hi0 hz0 hz1 hz2 (by simp [Value.cells]) (by decide) rfl (m := 1) rfl rfl hnews (by intro u hu; simp at hu; rcases hu with rfl | rfl <;> rfl) (by unfold maxLen; omega) (by omega) ?_; intro a' c' w14 h14))
        go_roundw
        case rel =>
          refine ⟨k + 1, hlt, by go_num, L ++ [⟨i, y.b, ad, cap⟩], by simp [HL.out], ?_, ?_, ?_⟩
          · rw [List.map_append, HLs.out, Hs.out]
            rfl
          · intro q hq
            rcases List.mem_append.1 hq with hq | hq
            · exact HLb.out q hq
            · rw [List.mem_singleton] at hq
              subst hq
              exact ⟨y, Hy.out, Hyp.out, Hyi.out, rfl, HY.out⟩
          · rw [putCells_snoc]
            exact h14.pull2.right
        case measure => simp [intOf]; omega
      · obtain rfl : k = nk := by omega
        go_wp2_with fail
        go_meet
        case rel => exact ⟨L, hL, by rw [hLs, ← Hnk.out, List.take_length], hLb, h3.pull2.right⟩
  case rest =>
    obtain ⟨L, hL, hLs, hLb, h3⟩ := hcut
    obtain ⟨ga, gc, rfl, _⟩ := h3.rowForm
    obtain ⟨⟨c0, c1, c2, c3, c4, c5, c6, c7⟩, _⟩ := cache_cells h3.pull2
    have h4 : Bears _ (walObj x p a s g * (diskA p d * (rowA 115 2 (.slice ga nk gc) nk (putCells L) * (Y * (cacheObj c p x cm hb pb ov * (mapA hb hl * (mapA pb pl * (rowA 3 1 ov cm.lines.length (orderV cm.lines) * R)))))))) := h3.cast (by ac_rfl)
    obtain ⟨r, g', d', hcm⟩ : ∃ r g' d', wCommit d a s g L = (r, g', d') := ⟨_, _, _, rfl⟩
    have hwc := commit_to (n := nk) (ad := ga) (cap := gc) h4 hcm (fun w' hw' => PutsIn.row hw' hL.symm (fun q hq => by obtain ⟨_, _, _, _, _, hY⟩ := hLb q hq; exact hY.left)) (by omega) ha hs Hroom.out
    have Hcm := Lib.hid hcm
    have HP : PutsOf L cm.lines := ⟨by rw [hLs]; exact Hperm.out, fun q hq => by obtain ⟨y, h1, h2, h3, h4, _⟩ := hLb q hq; exact ⟨y, h1, h2, h3, h4⟩⟩
    clear hcm h2
    go_wp2_with fail
    refine hwc.mono ?_
    rintro e w3 ⟨rfl, h5⟩
    have h6 : Bears w3 (cacheObj c p x cm hb pb ov * (mapA hb hl * (mapA pb pl * (rowA 3 1 ov cm.lines.length (orderV cm.lines) * (Y * (walObj x p a s g' * (diskA p d' * R))))))) := (h5.pull3.right).cast (by ac_rfl)
    by_cases hr : r = 0
    · subst hr
      obtain ⟨⟨_, _, _, _, _, _, k6, _⟩, kf⟩ := cache_cells h6
      have kf4 := kf 4
      have h7 := h6.setCell (i := 4) (.bool false)
      have k6' := cell_of_obj h7.obj 6
      simp only [List.setIfInBounds_toArray, List.set_cons_zero, List.set_cons_succ, List.getElem?_toArray, List.getElem?_cons_zero, List.getElem?_cons_succ] at k6' h7
      have ht := fun w8 (h8 : Bears w8 (cacheObj c p x { cm with isOpen := false } hb pb ov * (mapA hb hl * (mapA pb [] * (rowA 3 1 ov cm.lines.length (orderV (unpinL cm.lines)) * (Y * (walObj x p a s g' * (diskA p d' * R)))))))) =>
        trim_any (cm := { cm with isOpen := false }) (ls := unpinL cm.lines) (n := cm.lines.length) (unpinL_length _).symm (by rw [unpinL_at]; exact Hwf.out.nodup) (PinMap.unpin _) Hwf.out.most h8
      clear hwc h4 h5 h3
      go_wp2_with (refine wpList_clear_bears h7.pull3 rfl rfl u_pins rfl ?_; intro w7 h8)
      refine (ht w7 (by rw [unpinL_order]; exact h8.push3)).mono ?_
      rintro e w9 ⟨rfl, ov2, hl2, hm2, hp2, h9⟩
      go_wp2_with fail
      go_ret
      refine ⟨L, 0, g', d', HP, Hcm.out, rfl, ?_⟩
      rw [if_pos rfl]
      exact Bears.cache.2 ⟨hb, pb, ov2, hl2, [], Y, Hwf.out.commits, hm2 Y Hhm.out.unpin, hp2, h9⟩
    · have hne : (r == 0) = false := by rw [beq_eq_false_iff_ne]; exact hr
      have Hr := Lib.hid hr
      clear hr
      go_wp2_with fail
      go_ret
      refine ⟨L, r, g', d', HP, Hcm.out, rfl, ?_⟩
      rw [if_neg Hr.out]
      exact Bears.cache.2 ⟨hb, pb, ov, hl, pl, Y, Hwf.out, Hhm.out, Hpm.out, h6⟩

set_option maxRecDepth 100000 in
set_option maxHeartbeats 400000 in
theorem ccommit_closed {c p x : Nat} {cm : CacheM} {R : Assn} {w : World} (h : Bears w (cacheA c p x cm * R)) (ho : cm.isOpen = false) :
    Calls Tryz.prog 59 #[.pointer (some ⟨c, 0, none⟩)] w fun e w' => e = .returned (.int .i64 30) ∧ w = w' := by
  obtain ⟨hb, pb, ov, hl, pl, Y, hwf, hhm, hpm, h0⟩ := Bears.cache.1 h
  obtain ⟨⟨c0, c1, c2, c3, c4, c5, c6, c7⟩, _⟩ := cache_cells h0
  rw [ho] at c4
  clear ho hwf hhm hpm
  go_enter Tryz.func59, Tryz.ntmps59
  go_wp2_with fail
  go_ret
  exact ⟨rfl, rfl⟩

end Go.Proofs.YtcggloceabjjdaaGreat

/- The statements of the cache: their small functions; no condition. -/
namespace Go.Proofs.YtcggloceabjjdaaGreat
open Go.RowKit Go.MapKept

/-- A sector of one byte. -/
def fullB (c : UInt8) : Sec := List.replicate 64 c

theorem fullB_length (c : UInt8) : (fullB c).length = 64 := by simp [fullB]

def partB (c : UInt8) (k : Nat) : Sec := List.replicate k c ++ List.replicate (64 - k) 0

theorem partB_set (c : UInt8) (k : Nat) (hk : k < 64) : (cellsV (partB c k)).toArray.setIfInBounds k (byteV c) = (cellsV (partB c (k + 1))).toArray := by
  apply Array.toList_inj.1
  simp only [Array.toList_setIfInBounds, cellsV, partB, List.map_append, List.map_replicate]
  rw [List.set_append_right _ _ (by simp)]
  simp only [List.length_replicate, Nat.sub_self]
  rw [show 64 - k = (64 - (k + 1)) + 1 by omega, List.replicate_succ, List.set_cons_zero, List.replicate_succ']
  simp

end Go.Proofs.YtcggloceabjjdaaGreat

/- The statements of the cache: rows of ints that are compared; what a commit lays down; the ground; no condition. -/
namespace Go.Proofs.YtcggloceabjjdaaGreat
open Go.RowKit Go.MapKept

theorem rowA_ints {e : TypeId} {ad : Option Addr} {n cap : Nat} {l : List Int} {R : Assn} (hn : n = l.length) : (rowA e 1 (.slice ad n cap) n (intsV l) * R).Tells (fun w => IntsIn w (.slice ad n cap) l) := by
  intro w h
  subst hn
  refine ⟨ad, cap, rfl, fun hne => ?_⟩
  obtain ⟨g, rfl, _⟩ := h.rowAt (k := 0) (by cases l with | nil => exact absurd rfl hne | cons _ _ => simp)
  refine ⟨g, 0, rfl, fun j v hv => ?_⟩
  have hj : j < l.length := by have := (List.getElem?_eq_some_iff.1 hv).1; simpa using this
  have := h.rowObj' hj
  rw [Nat.zero_add, this]
  simp [hj] at hv
  simp [hj, ← hv]

theorem list_snoc_ne {a b : List Int} {k : Nat} (_ : k < a.length) (h : a.getD k 0 ≠ b.getD k 0) : a ≠ b := by rintro rfl; exact h rfl
theorem list_ext_getD {a b : List Int} (hl : a.length = b.length) (h : ∀ k, k < a.length → a.getD k 0 = b.getD k 0) : a = b := by
  refine List.ext_getElem hl fun k h1 h2 => ?_
  have := h k h1
  simpa [h1, h2] using this

def overL (F : Nat → Sec) (ls : List LineM) : Nat → Sec := fun i => match findL (i : Int) ls with | some y => if y.pin = true then y.b else F i | none => F i
theorem PutsOf.apply {l : List PutM} {ls : List LineM} (h : PutsOf l ls) (hn : (ls.map (·.at')).Nodup) (hp : ∀ y ∈ ls, y.pin = true → 0 ≤ y.at') (F : Nat → Sec) : applyPuts F l = overL F ls := by
  funext i
  unfold overL
  rcases applyPuts_or l i with ⟨q, hq, e, h1⟩ | ⟨h1, h2⟩
  · obtain ⟨y, hy, hyp, hya, hyb⟩ := h.bytes q hq
    have h0 := hp y hy hyp
    have : findL (i : Int) ls = some y := by
      have := findL_of_mem hn hy
      rwa [show y.at' = (i : Int) by omega] at this
    rw [h1, this]
    simp only [hyp, if_true, hyb]
  · rw [h2]
    cases hf : findL (i : Int) ls with
    | none => rfl
    | some y =>
      obtain ⟨hy, hya⟩ := findL_mem hf
      simp only
      split
      · rename_i hyp
        exfalso
        have : y.at' ∈ l.map (·.sector) := h.perm.mem_iff.2 (List.mem_map.2 ⟨y, List.mem_filter.2 ⟨hy, hyp⟩, rfl⟩)
        obtain ⟨q, hq, hqs⟩ := List.mem_map.1 this
        exact h1 q hq (by omega)
      · rfl

theorem wMayTo_of {len a s : Nat} : ∀ (l seen : List PutM), ((seen ++ l).map (·.sector)).Nodup → (∀ q ∈ l, ¬ ((a : Int) ≤ q.sector ∧ q.sector < a + s) ∧ 0 ≤ q.sector ∧ q.sector < len ∧ q.bytes.length = 64) → wMayTo len a s seen l = true
  | [], _, _, _ => rfl
  | q :: l, seen, hn, hq => by
    simp only [wMayTo, Bool.and_eq_true]
    refine ⟨?_, wMayTo_of l (seen ++ [q]) (by simpa using hn) (fun p hp => hq p (List.mem_cons_of_mem _ hp))⟩
    obtain ⟨h1, h2, h3, h4⟩ := hq q (by simp)
    unfold wOk
    have h5 : (seen.any fun p => p.sector == q.sector) = false := by
      rw [Bool.eq_false_iff]
      intro h
      obtain ⟨p, hp, he⟩ := List.any_eq_true.1 h
      rw [List.map_append, List.map_cons, List.nodup_append] at hn
      exact hn.2.2 p.sector (List.mem_map.2 ⟨p, hp, rfl⟩) q.sector (by simp) (by simpa using he)
    simp only [h5, Bool.not_false, Bool.true_and, Bool.and_eq_true, Bool.not_eq_true', decide_eq_true_eq, beq_iff_eq, Bool.and_eq_false_iff, decide_eq_false_iff_not]
    refine ⟨⟨⟨?_, h2⟩, h3⟩, h4⟩
    by_cases h : (a : Int) ≤ q.sector
    · exact .inr fun h' => h1 ⟨h, h'⟩
    · exact .inl h
/-- The pinned lines are a group. -/
structure PinsOk (len a s : Nat) (ls : List LineM) : Prop where
  out : ∀ y ∈ ls, y.pin = true → ¬ ((a : Int) ≤ y.at' ∧ y.at' < a + s) ∧ 0 ≤ y.at' ∧ y.at' < len
  few : (ls.filter (·.pin)).length ≤ roomN s
theorem PutsOf.length {l : List PutM} {ls : List LineM} (h : PutsOf l ls) : l.length = (ls.filter (·.pin)).length := by
  have := h.perm.length_eq
  simpa using this
theorem PutsOf.may {l : List PutM} {ls : List LineM} {len a s : Nat} (h : PutsOf l ls) (hn : (ls.map (·.at')).Nodup) (hb : ∀ y ∈ ls, y.b.length = 64) (hp : PinsOk len a s ls) : wMay len a s l = true := by
  unfold wMay
  rw [Bool.and_eq_true, decide_eq_true_eq, h.length]
  refine ⟨wMayTo_of l [] ?_ fun q hq => ?_, hp.few⟩
  · simp only [List.nil_append]
    exact h.perm.nodup_iff.2 ((List.filter_sublist.map _).nodup hn)
  · obtain ⟨y, hy, hyp, hya, hyb⟩ := h.bytes q hq
    obtain ⟨h1, h2, h3⟩ := hp.out y hy hyp
    rw [← hya, ← hyb]
    exact ⟨h1, h2, h3, hb y hy⟩
theorem PutsOf.mayOnly {l : List PutM} {ls : List LineM} {len a s : Nat} (h : PutsOf l ls) (hm : wMay len a s l = true) : PinsOk len a s ls := by
  have hg := GroupOk.of hm
  refine ⟨fun y hy hyp => ?_, by rw [← h.length]; exact hg.room⟩
  have : y.at' ∈ l.map (·.sector) := h.perm.mem_iff.2 (List.mem_map.2 ⟨y, List.mem_filter.2 ⟨hy, hyp⟩, rfl⟩)
  obtain ⟨q, hq, hqs⟩ := List.mem_map.1 this
  obtain ⟨_, h1, h2, h3⟩ := hg.ok q hq
  rw [← hqs]
  exact ⟨h3, h1, h2⟩

set_option maxHeartbeats 400000 in
/-- A commit on a log at rest. -/
theorem ccommit_log {c p x a s g : Nat} {F : Nat → Sec} {cm : CacheM} {d : DiskM} {R : Assn} {w : World} (h : Bears w (cacheA c p x cm * (walObj x p a s (g : Int) * (diskA p d * R)))) (ho : cm.isOpen = true) (hL : LogOn d a s g F) (hf : d.fuse = -1)
    (hg : g < 4611686018427387904) (hlen : cm.lines.length < 1099511627775) :
    Calls Tryz.prog 59 #[.pointer (some ⟨c, 0, none⟩)] w fun e w' =>
      (e = .returned (.int .i64 0) ∧ PinsOk d.len a s cm.lines ∧ ∃ l d', wCommit d a s g l = (0, ((g + 1 : Nat) : Int), d') ∧ LogOn d' a s (g + 1) (overL F cm.lines) ∧ d'.fuse = -1 ∧ d'.len = d.len ∧ l.length = (cm.lines.filter (·.pin)).length ∧
        Bears w' (cacheA c p x cm.commits * (walObj x p a s ((g + 1 : Nat) : Int) * (diskA p d' * R)))) ∨
      (e = .returned (.int .i64 20) ∧ ¬ PinsOk d.len a s cm.lines ∧ Bears w' (cacheA c p x cm * (walObj x p a s (g : Int) * (diskA p d * R)))) := by
  obtain ⟨_, _, _, _, _, _, hwf, _⟩ := Bears.cache.1 h
  refine (ccommit_open h ho (by have := hL.place; have := hL.len; omega) (by have := hL.place; have := hL.len; omega) (hL.few _ (by decide)) hlen).mono ?_
  rintro e w' ⟨l, r, g', d', hP, hc, rfl, h2⟩
  cases hm : wMay d.len a s l with
  | true =>
    left
    have hok := hP.mayOnly hm
    obtain ⟨d2, h3, h4, h5, h6⟩ := hL.commits hf (by omega) hm
    rw [h3] at hc
    obtain ⟨rfl, rfl, rfl⟩ : (0 : Int) = r ∧ ((g + 1 : Nat) : Int) = g' ∧ d2 = d' := by simpa using hc
    rw [hP.apply hwf.nodup (fun y hy hp => (hok.out y hy hp).2.1)] at h4
    exact ⟨rfl, hok, l, d2, h3, h4, h5, h6, hP.length, by simpa using h2⟩
  | false =>
    right
    rw [wCommit_no hm] at hc
    obtain ⟨rfl, rfl, rfl⟩ : (20 : Int) = r ∧ (g : Int) = g' ∧ d = d' := by simpa using hc
    refine ⟨rfl, fun hok => ?_, by simpa using h2⟩
    rw [hP.may hwf.nodup hwf.bytes hok] at hm
    cases hm

end Go.Proofs.YtcggloceabjjdaaGreat

/- The cache's contracts, with what they answer named; no condition. -/
namespace Go.Proofs.YtcggloceabjjdaaGreat
open Go.RowKit Go.MapKept

theorem cread_held_to {c p x : Nat} {cm cm' : CacheM} {R : Assn} {w : World} {i : Int} {y : LineM} (h : Bears w (cacheA c p x cm * R)) (hf : findL i cm.lines = some y) (hr : cm.used y = cm') (hlen : cm.lines.length < 1099511627775) :
    Calls Tryz.prog 62 #[.pointer (some ⟨c, 0, none⟩), .int .i64 i] w fun e w' => ∃ ad cap, e = .returned (.tuple #[.slice ad 64 cap, .int .i64 0]) ∧
      Bears w' (rowA 5 1 (.slice ad 64 cap) 64 (cellsV y.b) * (cacheA c p x cm' * R)) := by
  subst hr
  obtain ⟨_, _, _, _, _, _, hwf, _⟩ := Bears.cache.1 h
  have := cread_held h hf hlen
  rw [hwf.bytes y (findL_mem hf).1] at this
  exact this
theorem cread_disk_to {c p x : Nat} {cm cm' : CacheM} {d : DiskM} {R : Assn} {w : World} {i : Int} {s : Sec} (h : Bears w (cacheA c p x cm * (diskA p d * R))) (hf : findL i cm.lines = none) (hck : d.check i = 0) (hs : d.now i.toNat = s)
    (hr : ({ cm with misses := wrap64 (cm.misses + 1) } : CacheM).used ⟨i, s, false⟩ = cm') (hlen : cm.lines.length < 1099511627775) :
    Calls Tryz.prog 62 #[.pointer (some ⟨c, 0, none⟩), .int .i64 i] w fun e w' => ∃ ad cap, e = .returned (.tuple #[.slice ad 64 cap, .int .i64 0]) ∧
      Bears w' (rowA 5 1 (.slice ad 64 cap) 64 (cellsV s) * (cacheA c p x cm' * (diskA p d * R))) := by
  subst hr; subst hs
  exact cread_disk h hf hck hlen
theorem cread_no_to {c p x : Nat} {cm : CacheM} {d : DiskM} {R : Assn} {w : World} {i r : Int} (h : Bears w (cacheA c p x cm * (diskA p d * R))) (hf : findL i cm.lines = none) (hck : d.check i = r) (hr : r ≠ 0) :
    Calls Tryz.prog 62 #[.pointer (some ⟨c, 0, none⟩), .int .i64 i] w fun e w' => e = .returned (.tuple #[.slice none 0 0, .int .i64 r]) ∧ Bears w' (cacheA c p x cm * (diskA p d * R)) := by
  subst hck
  exact (cread_no h hf hr).mono fun e w' h2 => ⟨h2.1, h2.2 ▸ h⟩
theorem cwrite_to {c p x : Nat} {cm cm' : CacheM} {d : DiskM} {R : Assn} {w : World} {i r : Int} {b : Sec} {ad : Option Addr} {n cap : Nat} (h : Bears w (cacheA c p x cm * (diskA p d * R))) (heq : cm.write d.len i b = (r, cm')) (hb : R.Tells (fun w => BytesIn w (.slice ad n cap) b)) (hlen : cm.lines.length < 1099511627775) :
    Calls Tryz.prog 69 #[.pointer (some ⟨c, 0, none⟩), .int .i64 i, .slice ad n cap] w fun e w' => e = .returned (.int .i64 r) ∧ Bears w' (cacheA c p x cm' * (diskA p d * R)) := by
  have := cwrite_any h hb hlen (i := i)
  rw [heq] at this
  exact this
theorem cbegin_to {c p x : Nat} {cm cm' : CacheM} {R : Assn} {w : World} {r : Int} (h : Bears w (cacheA c p x cm * R)) (heq : cm.begins = (r, cm')) :
    Calls Tryz.prog 58 #[.pointer (some ⟨c, 0, none⟩)] w fun e w' => e = .returned (.int .i64 r) ∧ Bears w' (cacheA c p x cm' * R) := by
  have := cbegin_any h
  rw [heq] at this
  exact this
theorem cabort_to {c p x : Nat} {cm cm' : CacheM} {R : Assn} {w : World} {r : Int} (h : Bears w (cacheA c p x cm * R)) (heq : cm.abort = (r, cm')) :
    Calls Tryz.prog 55 #[.pointer (some ⟨c, 0, none⟩)] w fun e w' => e = .returned (.int .i64 r) ∧ Bears w' (cacheA c p x cm' * R) := by
  have := cabort_any h
  rw [heq] at this
  exact this
end Go.Proofs.YtcggloceabjjdaaGreat

/- A row of numbers below a bound, none twice, is short; plain; no condition. -/
namespace Go.Proofs.YtcggloceabjjdaaGreat

theorem nodup_bound : ∀ (n : Nat) (l : List Int), l.Nodup → (∀ i ∈ l, 0 ≤ i ∧ i < n) → l.length ≤ n
  | 0, [], _, _ => Nat.le_refl _
  | 0, i :: l, _, h => by have := h i (by simp); omega
  | n + 1, l, hn, h => by
    by_cases hm : (n : Int) ∈ l
    · have h1 := nodup_bound n (l.erase (n : Int)) (hn.erase _) (fun i hi => by
        obtain ⟨h1, h2⟩ := hn.mem_erase_iff.1 hi
        have := h i h2
        omega)
      rw [List.length_erase_of_mem hm] at h1
      omega
    · have := nodup_bound n l hn (fun i hi => by
        have h1 := h i hi
        have : i ≠ (n : Int) := fun e => hm (e ▸ hi)
        omega)
      omega

end Go.Proofs.YtcggloceabjjdaaGreat
