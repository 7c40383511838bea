/- The log on a disk whose power may go off: what the plain model does; no condition. -/
import Derived.Test.YtaiobekochhemaaWalW7
namespace Go.Proofs.Ytaiobekochhemaa
open Go.RowKit Go.MapKept

/-! ### Steps under a fuse -/
/-- From d to d', answered with r: done, or the power went off. -/
structure Goes (d : DiskM) (r : Int) (d' : DiskM) : Prop where
  len : d'.len = d.len
  ends : (r = 0 ∧ d'.off = false) ∨ (r = 2 ∧ d'.off = true ∧ d.fuse ≠ -1)
  plain : d.fuse = -1 → d'.fuse = -1
theorem Goes.refl {d : DiskM} (h : d.off = false) : Goes d 0 d := ⟨rfl, .inl ⟨rfl, h⟩, id⟩
theorem Goes.trans {a b c : DiskM} {r : Int} (h : Goes a 0 b) (k : Goes b r c) : Goes a r c := by
  refine ⟨k.len.trans h.len, ?_, fun e => k.plain (h.plain e)⟩
  rcases k.ends with e | ⟨e1, e2, e3⟩
  · exact .inl e
  · exact .inr ⟨e1, e2, fun e => e3 (h.plain e)⟩
theorem Goes.on {a b : DiskM} (h : Goes a 0 b) : b.off = false := by
  rcases h.ends with ⟨_, e⟩ | ⟨e, _⟩
  · exact e
  · exact absurd e (by decide)
theorem Goes.yes {a b : DiskM} {r : Int} (h : Goes a r b) (e : a.fuse = -1) : r = 0 := by
  rcases h.ends with ⟨e, _⟩ | ⟨_, _, e3⟩
  · exact e
  · exact absurd e e3
theorem Goes.two {a b : DiskM} {r : Int} (h : Goes a r b) (e : r ≠ 0) : r = 2 ∧ b.off = true := by
  rcases h.ends with ⟨e1, _⟩ | ⟨e1, e2, _⟩
  · exact absurd e1 e
  · exact ⟨e1, e2⟩

theorem DiskM.step_goes {d : DiskM} (h : d.off = false) : ∃ r d', d.step = (r, d') ∧ Goes d r d' ∧ d'.sure = d.sure ∧ d'.waits = d.waits := by
  unfold DiskM.step
  split
  · rename_i h0
    exact ⟨2, _, rfl, ⟨rfl, .inr ⟨rfl, rfl, by omega⟩, fun h1 => by omega⟩, rfl, rfl⟩
  · exact ⟨0, _, rfl, ⟨rfl, .inl ⟨rfl, h⟩, fun h1 => by simp [h1]⟩, rfl, rfl⟩
theorem DiskM.on_check {d : DiskM} (h : d.off = false) {i : Nat} (hi : i < d.len) : d.check (i : Int) = 0 := by
  unfold DiskM.check
  rw [h, if_neg (by simp), if_neg (by omega)]
theorem DiskM.write_goes {d : DiskM} (h : d.off = false) {i : Nat} (hi : i < d.len) {s : Sec} (hs : s.length = 64) :
    ∃ r d', d.write (i : Int) s = (r, d') ∧ Goes d r d' ∧ d'.sure = d.sure ∧ d'.waits = if r = 0 then d.waits ++ [(i, s)] else d.waits := by
  obtain ⟨r, d', h1, h2, h3, h4⟩ := DiskM.step_goes h
  unfold DiskM.write
  rw [DiskM.on_check h hi, hs, h1, if_neg (by simp), if_neg (by simp)]
  simp only
  by_cases hr : r = 0
  · subst hr
    rw [if_neg (by simp)]
    exact ⟨0, _, rfl, ⟨h2.len, .inl ⟨rfl, h2.on⟩, h2.plain⟩, h3, rfl⟩
  · rw [if_pos hr]
    exact ⟨r, d', rfl, h2, h3, by rw [if_neg hr]; exact h4⟩
theorem DiskM.barrier_goes {d : DiskM} (h : d.off = false) :
    ∃ r d', d.barrier = (r, d') ∧ Goes d r d' ∧ (d'.sure = if r = 0 then d.now else d.sure) ∧ d'.waits = if r = 0 then [] else d.waits := by
  obtain ⟨r, d', h1, h2, h3, h4⟩ := DiskM.step_goes h
  unfold DiskM.barrier
  rw [h1, h, if_neg (by simp)]
  simp only
  by_cases hr : r = 0
  · subst hr
    rw [if_neg (by simp)]
    exact ⟨0, _, rfl, ⟨h2.len, .inl ⟨rfl, h2.on⟩, h2.plain⟩, rfl, rfl⟩
  · rw [if_pos hr]
    exact ⟨r, d', rfl, h2, by rw [if_neg hr]; exact h3, by rw [if_neg hr]; exact h4⟩

/-! ### What may be there behind a boot -/
def Boots (d : DiskM) (p : (Nat → Sec) → Prop) : Prop := ∀ ws : List (Nat × Sec), ws.Sublist d.waits → p (settle d.sure ws)
theorem kept_sublist (keep : List Int) : ∀ (l : List (Nat × Sec)) (j : Nat), (kept keep j l).Sublist l
  | [], _ => by simp [kept]
  | q :: l, j => by
    simp only [kept]
    split
    · exact (kept_sublist keep l (j + 1)).cons_cons q
    · exact (kept_sublist keep l (j + 1)).cons q
theorem Boots.boot {d : DiskM} {p : (Nat → Sec) → Prop} (h : Boots d p) (keep : List Int) : p (d.boot keep).sure := h _ (kept_sublist keep _ _)
theorem Boots.now {d : DiskM} {p : (Nat → Sec) → Prop} (h : Boots d p) : p d.now := h _ (List.Sublist.refl _)
theorem Boots.quiet {d : DiskM} {p : (Nat → Sec) → Prop} (hw : d.waits = []) (h : p d.sure) : Boots d p := by
  intro ws hs
  rw [hw] at hs
  rw [List.sublist_nil.1 hs]
  exact h
theorem Boots.one {d : DiskM} {p : (Nat → Sec) → Prop} {q : Nat × Sec} (hw : d.waits = [q]) (h : p d.sure) (h1 : p (updS d.sure q.1 q.2)) : Boots d p := by
  intro ws hs
  rw [hw] at hs
  cases hs with
  | cons _ h' => rw [List.sublist_nil.1 h']; exact h
  | cons_cons _ h' => rw [List.sublist_nil.1 h']; exact h1
theorem Boots.mono {d : DiskM} {p q : (Nat → Sec) → Prop} (h : Boots d p) (hpq : ∀ f, p f → q f) : Boots d q := fun ws hs => hpq _ (h ws hs)
theorem Boots.same {d d' : DiskM} {p : (Nat → Sec) → Prop} (h : Boots d p) (h1 : d'.sure = d.sure) (h2 : d'.waits = d.waits) : Boots d' p := by
  intro ws hs
  rw [h1]
  rw [h2] at hs
  exact h ws hs
theorem now_quiet {d : DiskM} (h : d.waits = []) : d.now = d.sure := by unfold DiskM.now; rw [h]; rfl

theorem settle_other (ws : List (Nat × Sec)) : ∀ (f : Nat → Sec) (i : Nat), (∀ p ∈ ws, p.1 ≠ i) → settle f ws i = f i := by
  induction ws with
  | nil => intro f i _; rfl
  | cons p ws ih =>
    intro f i h
    show settle (updS f p.1 p.2) ws i = f i
    rw [ih _ _ (fun q hq => h q (by simp [hq]))]
    unfold updS
    rw [if_neg (Ne.symm (h p (by simp)))]
theorem now_snoc {d d' : DiskM} {i : Nat} {s : Sec} (h1 : d'.sure = d.sure) (h2 : d'.waits = d.waits ++ [(i, s)]) : d'.now = updS d.now i s := by
  unfold DiskM.now
  rw [h1, h2, settle_append]

/-- A head between two barriers. -/
theorem wBoth_goes {d : DiskM} (h : d.off = false) {a s : Nat} {g hand : Int} (ha : a < d.len) {p : (Nat → Sec) → Prop} (hp : Boots d p) (hq : p (updS d.now a (headB s g hand))) :
    ∃ r d', wBoth d a s g hand = (r, d') ∧ Goes d r d' ∧ (r = 0 → d'.waits = [] ∧ d'.sure = updS d.now a (headB s g hand)) ∧ Boots d' p := by
  obtain ⟨r1, d1, e1, g1, s1, w1⟩ := DiskM.barrier_goes h
  by_cases h1 : r1 = 0
  · subst h1
    rw [if_pos rfl] at s1 w1
    obtain ⟨r2, d2, e2, g2, s2, w2⟩ := DiskM.write_goes (i := a) g1.on (by rw [g1.len]; exact ha) (headB_length s g hand)
    by_cases h2 : r2 = 0
    · subst h2
      rw [if_pos rfl] at w2
      obtain ⟨r3, d3, e3, g3, s3, w3⟩ := DiskM.barrier_goes g2.on
      have hn : d2.now = updS d.now a (headB s g hand) := by rw [now_snoc s2 w2, now_quiet w1, s1]
      refine ⟨r3, d3, by rw [wBoth_yes e1 e2]; exact e3, (g1.trans g2).trans g3, fun e => ?_, ?_⟩
      · subst e
        rw [if_pos rfl] at s3 w3
        exact ⟨w3, s3.trans hn⟩
      · by_cases h3 : r3 = 0
        · subst h3
          rw [if_pos rfl] at s3 w3
          exact Boots.quiet w3 (by rw [s3, hn]; exact hq)
        · rw [if_neg h3] at s3 w3
          rw [w1, List.nil_append] at w2
          refine Boots.one (w3.trans w2) ?_ ?_
          · rw [s3, s2, s1]; exact hp.now
          · rw [s3, s2, s1]; exact hq
    · rw [if_neg h2] at w2
      refine ⟨r2, d2, wBoth_no2 e1 e2 h2, g1.trans g2, fun e => absurd e h2, ?_⟩
      exact Boots.quiet (w2.trans w1) (by rw [s2, s1]; exact hp.now)
  · rw [if_neg h1] at s1 w1
    exact ⟨r1, d1, wBoth_no1 e1 h1, g1, fun e => absurd e h1, hp.same s1 w1⟩

/-! ### A group's sectors -/
theorem getD_mem {l : List PutM} {k : Nat} (h : k < l.length) : l.getD k default ∈ l := by
  rw [List.getD_eq_getElem?_getD, List.getElem?_eq_getElem h]
  exact List.getElem_mem h
def applyPuts (f : Nat → Sec) (l : List PutM) : Nat → Sec := l.foldl (fun f p => updS f p.sector.toNat p.bytes) f
theorem applyPuts_snoc (f : Nat → Sec) (l : List PutM) (p : PutM) : applyPuts f (l ++ [p]) = updS (applyPuts f l) p.sector.toNat p.bytes := by simp [applyPuts]
theorem applyPuts_or : ∀ (l : List PutM) (i : Nat), (∃ p ∈ l, p.sector.toNat = i ∧ ∀ f, applyPuts f l i = p.bytes) ∨ ((∀ p ∈ l, p.sector.toNat ≠ i) ∧ ∀ f, applyPuts f l i = f i)
  | [], i => .inr ⟨by simp, fun f => rfl⟩
  | p :: l, i => by
    rcases applyPuts_or l i with ⟨q, hq, e, h⟩ | ⟨h1, h2⟩
    · exact .inl ⟨q, by simp [hq], e, fun f => h _⟩
    · by_cases e : p.sector.toNat = i
      · refine .inl ⟨p, by simp, e, fun f => ?_⟩
        show applyPuts (updS f p.sector.toNat p.bytes) l i = _
        rw [h2]
        unfold updS
        rw [if_pos e.symm]
      · refine .inr ⟨fun q hq => ?_, fun f => ?_⟩
        · rcases List.mem_cons.1 hq with rfl | hq
          · exact e
          · exact h1 q hq
        · show applyPuts (updS f p.sector.toNat p.bytes) l i = _
          rw [h2]
          unfold updS
          rw [if_neg (Ne.symm e)]
theorem applyPuts_other {l : List PutM} {f : Nat → Sec} {i : Nat} (h : ∀ p ∈ l, p.sector.toNat ≠ i) : applyPuts f l i = f i := by
  rcases applyPuts_or l i with ⟨p, hp, e, _⟩ | ⟨_, h2⟩
  · exact absurd e (h p hp)
  · exact h2 f
theorem applyPuts_congr {l : List PutM} {f f' : Nat → Sec} {i : Nat} (h : f i = f' i) : applyPuts f l i = applyPuts f' l i := by
  rcases applyPuts_or l i with ⟨p, _, _, e⟩ | ⟨_, e⟩
  · rw [e, e]
  · rw [e, e, h]
/-- Some of the group's writes done ahead change nothing of what is there behind all of them. -/
theorem applyPuts_settle {l : List PutM} {ws : List (Nat × Sec)} (h : ∀ p ∈ ws, ∃ q ∈ l, p = (q.sector.toNat, q.bytes)) (f : Nat → Sec) (i : Nat) : applyPuts (settle f ws) l i = applyPuts f l i := by
  rcases applyPuts_or l i with ⟨p, _, _, e⟩ | ⟨h1, e⟩
  · rw [e, e]
  · rw [e, e, settle_other _ _ _ (fun p hp => ?_)]
    obtain ⟨q, hq, rfl⟩ := h p hp
    exact h1 q hq

/-- A group for a log of s sectors from a on, on a disk of so many. -/
structure GroupOk (len a s : Nat) (l : List PutM) : Prop where
  room : l.length ≤ roomN s
  ok : ∀ p ∈ l, p.bytes.length = 64 ∧ 0 ≤ p.sector ∧ p.sector < len ∧ ¬ ((a : Int) ≤ p.sector ∧ p.sector < a + s)
theorem GroupOk.out {len a s : Nat} {l : List PutM} (h : GroupOk len a s l) {p : PutM} (hp : p ∈ l) {i : Nat} (h1 : a ≤ i) (h2 : i < a + s) : p.sector.toNat ≠ i := by
  obtain ⟨_, h3, _, h4⟩ := h.ok p hp
  omega
theorem GroupOk.of {len a s : Nat} {l : List PutM} (h : wMay len a s l = true) : GroupOk len a s l := by
  unfold wMay at h
  simp only [Bool.and_eq_true, decide_eq_true_eq] at h
  refine ⟨h.2, fun p hp => ?_⟩
  obtain ⟨k, hk, rfl⟩ := List.mem_iff_getElem.1 hp
  have := (wMayTo_true l []).1 h.1 k hk
  rw [List.getD_eq_getElem?_getD, List.getElem?_eq_getElem hk] at this
  simp only [Option.getD_some, wOk, Bool.and_eq_true, decide_eq_true_eq, beq_iff_eq, Bool.not_eq_true', Bool.and_eq_false_iff, decide_eq_false_iff_not] at this
  obtain ⟨⟨⟨⟨_, h2⟩, h3⟩, h4⟩, h5⟩ := this
  exact ⟨h5, h3, h4, fun h => h2.elim (fun h2 => h2 h.1) (fun h2 => h2 h.2)⟩

theorem flatMap_at (Z : Sec) : ∀ (L : List PutM) (j : Nat), j < L.length → (((L.flatMap fun p => numB 2 p.sector) ++ Z).drop (j * 2)).take 2 = numB 2 (L.getD j default).sector
  | [], _, h => absurd h (by simp)
  | p :: L, 0, _ => by
    have := numB_length p.sector 2
    simp only [List.flatMap_cons, Nat.zero_mul, List.drop_zero, List.append_assoc]
    rw [List.take_append_of_le_length (by omega), List.take_of_length_le (by omega)]
    simp
  | p :: L, j + 1, h => by
    have h2 := numB_length p.sector 2
    simp only [List.flatMap_cons, List.append_assoc]
    rw [show (j + 1) * 2 = 2 + j * 2 by omega, ← List.drop_drop]
    rw [List.drop_left' h2, flatMap_at Z L j (by simpa using h)]
    simp

/-- Where put number k goes, as the log's sector says. -/
theorem wList_at {l : List PutM} {k : Nat} (hk : k < l.length) (h0 : 0 ≤ (l.getD k default).sector) (h1 : (l.getD k default).sector < 65536) :
    takenB (((wList l (k / 32)).drop (k % 32 * 2)).take 2) = (l.getD k default).sector := by
  have hj : k % 32 < ((l.drop (32 * (k / 32))).take 32).length := by simp; omega
  unfold wList
  simp only
  rw [flatMap_at _ _ _ hj]
  have e : ((l.drop (32 * (k / 32))).take 32).getD (k % 32) default = l.getD k default := by
    simp only [List.getD_eq_getElem?_getD]
    rw [List.getElem?_take_of_lt (by omega), List.getElem?_drop, show 32 * (k / 32) + k % 32 = k by omega]
  rw [e]
  obtain ⟨n, hn⟩ := Int.eq_ofNat_of_zero_le h0
  rw [hn] at h1 ⊢
  exact takenB_numB (by omega) (by omega)
theorem wList_length (l : List PutM) (c : Nat) : (wList l c).length = 64 := by
  have h : (((l.drop (32 * c)).take 32).flatMap fun p => numB 2 p.sector).length ≤ 64 := by rw [flatMap_numB]; simp; omega
  unfold wList
  simp only [List.length_append, List.length_replicate]
  omega
theorem room_fits {s n : Nat} (hs : 3 ≤ s) (hn : n ≤ roomN s) : 1 + listsN (roomN s) + n ≤ s ∧ listsN n ≤ listsN (roomN s) := by
  unfold roomN at *
  rw [if_neg (by omega)] at *
  unfold listsN
  omega
theorem first_fits {a s n : Nat} (hs : 3 ≤ s) (hn : n ≤ roomN s) : wFirst a s + n ≤ a + s ∧ a + 1 + listsN n ≤ wFirst a s := by
  have := room_fits hs hn
  unfold wFirst
  omega

/-- The writes that wait go to the log's own sectors behind its head. -/
def Body (d : DiskM) (a s : Nat) : Prop := ∀ p ∈ d.waits, a < p.1 ∧ p.1 < a + s

theorem wBytes_goes {d : DiskM} (h : d.off = false) {a s : Nat} {l : List PutM} (hs : 3 ≤ s) (hp : a + s ≤ d.len) (hg : GroupOk d.len a s l) (hb : Body d a s) :
    ∀ k, k ≤ l.length → ∃ r dk, wBytes d a s l k = (r, dk) ∧ Goes d r dk ∧ dk.sure = d.sure ∧ Body dk a s ∧
      (r = 0 → ∀ i, dk.now i = if wFirst a s ≤ i ∧ i < wFirst a s + k then (l.getD (i - wFirst a s) default).bytes else d.now i)
  | 0, _ => ⟨0, d, rfl, Goes.refl h, rfl, hb, fun _ i => by rw [if_neg (by omega)]⟩
  | k + 1, hk => by
    obtain ⟨r, dk, h1, h2, h3, h4, h5⟩ := wBytes_goes h hs hp hg hb k (by omega)
    by_cases hr : r = 0
    · subst hr
      have hf := first_fits (a := a) hs hg.room
      have hlo : a + 1 ≤ wFirst a s := by unfold wFirst; omega
      obtain ⟨r2, d2, e2, g2, s2, w2⟩ := DiskM.write_goes (i := wFirst a s + k) h2.on (by rw [h2.len]; omega) (hg.ok _ (getD_mem (k := k) (by omega))).1
      refine ⟨r2, d2, by rw [wBytes_succ h1]; exact e2, h2.trans g2, s2.trans h3, ?_, fun e i => ?_⟩
      · intro p hp'
        rw [w2] at hp'
        split at hp'
        · rcases List.mem_append.1 hp' with hp' | hp'
          · exact h4 p hp'
          · simp only [List.mem_singleton] at hp'
            subst hp'
            simp only
            omega
        · exact h4 p hp'
      · subst e
        rw [if_pos rfl] at w2
        rw [now_snoc s2 w2]
        unfold updS
        rw [h5 rfl i]
        by_cases e : i = wFirst a s + k
        · subst e
          rw [if_pos rfl, if_pos (by omega), show wFirst a s + k - wFirst a s = k by omega]
        · rw [if_neg e]
          by_cases e2 : wFirst a s ≤ i ∧ i < wFirst a s + k
          · rw [if_pos e2, if_pos (by omega)]
          · rw [if_neg e2, if_neg (by omega)]
    · refine ⟨r, dk, ?_, h2, h3, h4, fun e => absurd e hr⟩
      have := wBytes_stop (d := d) (a := a) (s := s) (l := l) (k := k) (by rw [h1]; exact hr) 1
      rw [this, h1]

theorem wLists_goes {d : DiskM} (h : d.off = false) {a s : Nat} {l : List PutM} (hs : 3 ≤ s) (hp : a + s ≤ d.len) (hg : l.length ≤ roomN s) (hb : Body d a s) :
    ∀ c, c ≤ listsN l.length → ∃ r dc, wLists d a l c = (r, dc) ∧ Goes d r dc ∧ dc.sure = d.sure ∧ Body dc a s ∧
      (r = 0 → ∀ i, dc.now i = if a + 1 ≤ i ∧ i < a + 1 + c then wList l (i - (a + 1)) else d.now i)
  | 0, _ => ⟨0, d, rfl, Goes.refl h, rfl, hb, fun _ i => by rw [if_neg (by omega)]⟩
  | k + 1, hk => by
    obtain ⟨r, dk, h1, h2, h3, h4, h5⟩ := wLists_goes h hs hp hg hb k (by omega)
    by_cases hr : r = 0
    · subst hr
      have hf := first_fits (a := a) hs hg
      obtain ⟨r2, d2, e2, g2, s2, w2⟩ := DiskM.write_goes (i := a + 1 + k) h2.on (by rw [h2.len]; omega) (wList_length l k)
      refine ⟨r2, d2, by rw [wLists_succ h1]; exact e2, h2.trans g2, s2.trans h3, ?_, fun e i => ?_⟩
      · intro p hp'
        rw [w2] at hp'
        split at hp'
        · rcases List.mem_append.1 hp' with hp' | hp'
          · exact h4 p hp'
          · simp only [List.mem_singleton] at hp'
            subst hp'
            simp only
            omega
        · exact h4 p hp'
      · subst e
        rw [if_pos rfl] at w2
        rw [now_snoc s2 w2]
        unfold updS
        rw [h5 rfl i]
        by_cases e : i = a + 1 + k
        · subst e
          rw [if_pos rfl, if_pos (by omega), show a + 1 + k - (a + 1) = k by omega]
        · rw [if_neg e]
          by_cases e2 : a + 1 ≤ i ∧ i < a + 1 + k
          · rw [if_pos e2, if_pos (by omega)]
          · rw [if_neg e2, if_neg (by omega)]
    · refine ⟨r, dk, ?_, h2, h3, h4, fun e => absurd e hr⟩
      have := wLists_stop (d := d) (a := a) (l := l) (k := k) (by rw [h1]; exact hr) 1
      rw [this, h1]

/-- The group's bytes and places lie in the log. -/
structure Holds (f : Nat → Sec) (a s : Nat) (l : List PutM) : Prop where
  bytes : ∀ k, k < l.length → f (wFirst a s + k) = (l.getD k default).bytes
  lists : ∀ c, c < listsN l.length → f (a + 1 + c) = wList l c

theorem wTo_eq {d dk : DiskM} {a s k : Nat} {l : List PutM} (hd : Holds d.now a s l) (hk : k < l.length) (h1 : dk.now (a + 1 + k / 32) = d.now (a + 1 + k / 32)) (h0 : 0 ≤ (l.getD k default).sector) (h2 : (l.getD k default).sector < 65536) :
    wTo dk a k = (l.getD k default).sector := by
  unfold wTo
  rw [h1, hd.lists _ (by unfold listsN; omega)]
  exact wList_at hk h0 h2

theorem loop_fits {a s k n len : Nat} (hs : 3 ≤ s) (hn : n ≤ roomN s) (hk : k < n) (hp : a + s ≤ len) :
    (a ≤ a + 1 + k / 32 ∧ a + 1 + k / 32 < a + s ∧ a + 1 + k / 32 < len) ∧ (a ≤ wFirst a s + k ∧ wFirst a s + k < a + s ∧ wFirst a s + k < len) := by
  have := first_fits (a := a) hs hn
  have h2 : k / 32 < listsN n := by unfold listsN; omega
  omega

/-- The group's sectors, written to where they go. -/
theorem wLoop_goes {d : DiskM} (h : d.off = false) {a s : Nat} {l : List PutM} (hs : 3 ≤ s) (hp : a + s ≤ d.len) (hlen : d.len ≤ 8192) (hg : GroupOk d.len a s l) (hd : Holds d.now a s l) (hw : d.waits = []) :
    ∀ k, k ≤ l.length → ∃ r dk, wLoop d a s k = (r, dk) ∧ Goes d r dk ∧ dk.sure = d.sure ∧ (∀ p ∈ dk.waits, ∃ q ∈ l, p = (q.sector.toNat, q.bytes)) ∧ (r = 0 → dk.now = applyPuts d.now (l.take k))
  | 0, _ => ⟨0, d, rfl, Goes.refl h, rfl, by rw [hw]; simp, fun _ => rfl⟩
  | k + 1, hk => by
    obtain ⟨r, dk, h1, h2, h3, h4, h5⟩ := wLoop_goes h hs hp hlen hg hd hw k (Nat.le_of_succ_le hk)
    by_cases hr : r = 0
    · subst hr
      have h5 := h5 rfl
      have hmem := getD_mem (l := l) (k := k) (Nat.lt_of_succ_le hk)
      have hout : ∀ i, a ≤ i → i < a + s → dk.now i = d.now i := by
        intro i hi1 hi2
        rw [h5]
        exact applyPuts_other (fun p hp => hg.out (List.mem_of_mem_take hp) hi1 hi2)
      obtain ⟨o1, o2, o3, _⟩ := hg.ok _ hmem
      obtain ⟨⟨f1, f2, f3⟩, f4, f5, f6⟩ := loop_fits hs hg.room (Nat.lt_of_succ_le hk) hp
      have e2 : dk.now (wFirst a s + k) = (l.getD k default).bytes := by rw [hout _ f4 f5, hd.bytes k (Nat.lt_of_succ_le hk)]
      have o4 : (l.getD k default).sector < 65536 := Int.lt_of_lt_of_le o3 (Int.le_trans (Int.ofNat_le.2 hlen) (by decide))
      have e3 : wTo dk a k = (l.getD k default).sector := wTo_eq hd (Nat.lt_of_succ_le hk) (hout _ f1 f2) o2 o4
      obtain ⟨n, hn⟩ := Int.eq_ofNat_of_zero_le o2
      rw [hn] at o3
      obtain ⟨r2, d2, f2, g2, s2, w2⟩ := DiskM.write_goes (i := n) h2.on (by rw [h2.len]; exact Int.ofNat_lt.1 o3) o1
      have hc1 := DiskM.on_check (d := dk) h2.on (i := a + 1 + k / 32) (by rw [h2.len]; exact f3)
      have hc2 := DiskM.on_check (d := dk) h2.on (i := wFirst a s + k) (by rw [h2.len]; exact f6)
      have hround : wRound dk a s k = (r2, d2) := by
        rw [wRound_go hc1 hc2 (r := r2) (d2 := d2) (by rw [e3, e2, hn]; exact f2)]
        rcases g2.ends with ⟨e, _⟩ | ⟨e, _⟩
        · rw [e]; rfl
        · rw [e]; rfl
      refine ⟨r2, d2, by rw [wLoop_succ h1]; exact hround, h2.trans g2, s2.trans h3, ?_, fun e => ?_⟩
      · intro p hp'
        rw [w2] at hp'
        split at hp'
        · rcases List.mem_append.1 hp' with hp' | hp'
          · exact h4 p hp'
          · simp only [List.mem_singleton] at hp'
            subst hp'
            exact ⟨_, hmem, by rw [hn]; rfl⟩
        · exact h4 p hp'
      · subst e
        rw [if_pos rfl] at w2
        rw [now_snoc s2 w2, h5]
        have : l.take (k + 1) = l.take k ++ [l.getD k default] := by
          rw [List.take_succ_eq_append_getElem (Nat.lt_of_succ_le hk)]
          simp [show k < l.length from Nat.lt_of_succ_le hk]
        rw [this, applyPuts_snoc, hn]
        rfl
    · refine ⟨r, dk, ?_, h2, h3, h4, fun e => absurd e hr⟩
      have := wLoop_stop (d := d) (a := a) (s := s) (k := k) (by rw [h1]; exact hr) 1
      rw [this, h1]

/-! ### A log's images -/
def EqOut (a s : Nat) (f F : Nat → Sec) : Prop := ∀ i, ¬ (a ≤ i ∧ i < a + s) → f i = F i
/-- At rest: so many groups, and what the other sectors have. -/
structure Rest (a s : Nat) (f : Nat → Sec) (g : Nat) (F : Nat → Sec) : Prop where
  head : f a = headB s g 0
  out : EqOut a s f F
/-- A group is at hand. -/
structure Hand (len a s : Nat) (f : Nat → Sec) (g : Nat) (F : Nat → Sec) (l : List PutM) : Prop where
  head : f a = headB s g l.length
  pos : 0 < l.length
  holds : Holds f a s l
  ok : GroupOk len a s l
  out : EqOut a s (applyPuts f l) F
/-- Behind a boot: so many groups done, and what the other sectors have, or will have behind an opening. -/
def At (len a s : Nat) (f : Nat → Sec) (g : Nat) (F : Nat → Sec) : Prop := Rest a s f g F ∨ ∃ l, Hand len a s f g F l

theorem Holds.congr {f f' : Nat → Sec} {a s n : Nat} {l : List PutM} (h : Holds f a s l) (hs : 3 ≤ s) (hl : l.length ≤ n) (hn : n ≤ roomN s) (he : ∀ i, a < i → i < a + s → f' i = f i) : Holds f' a s l := by
  refine ⟨fun k hk => ?_, fun c hc => ?_⟩
  · obtain ⟨_, f4, f5, _⟩ := loop_fits (a := a) (len := a + s) hs hn (Nat.lt_of_lt_of_le hk hl) (Nat.le_refl _)
    have hlt : a < wFirst a s + k := by unfold wFirst; omega
    rw [he _ hlt f5]
    exact h.bytes k hk
  · have hf := first_fits (a := a) hs (Nat.le_trans hl hn)
    rw [he _ (by omega) (by omega)]
    exact h.lists c hc

/-- The group at hand is written to where it goes, and a head without it; or the power goes off. -/
theorem wFinish_goes {d : DiskM} (h : d.off = false) {a s g : Nat} {F : Nat → Sec} {l : List PutM} (hs : 3 ≤ s) (hp : a + s ≤ d.len) (hlen : d.len ≤ 8192) (hw : d.waits = []) (hh : Hand d.len a s d.sure g F l) :
    ∃ r d', wFinish d a s g l.length = (r, d') ∧ Goes d r d' ∧ (r = 0 → d'.waits = [] ∧ Rest a s d'.sure g F) ∧ Boots d' (fun f => At d.len a s f g F) := by
  obtain ⟨r, dk, h1, h2, h3, h4, h5⟩ := wLoop_goes h hs hp hlen hh.ok (by rw [now_quiet hw]; exact hh.holds) hw l.length (Nat.le_refl _)
  have hb : Boots dk (fun f => At d.len a s f g F) := by
    intro ws hws
    rw [h3]
    have hin : ∀ i, a ≤ i → i < a + s → settle d.sure ws i = d.sure i := fun i h1 h2 => settle_other _ _ _ (fun p hp => by
      obtain ⟨q, hq, rfl⟩ := h4 p (hws.subset hp)
      exact hh.ok.out hq h1 h2)
    refine .inr ⟨l, by rw [hin _ (Nat.le_refl _) (by omega)]; exact hh.head, hh.pos, hh.holds.congr hs (Nat.le_refl _) hh.ok.room (fun i h1 h2 => hin i (Nat.le_of_lt h1) h2), hh.ok, fun i hi => ?_⟩
    rw [applyPuts_settle (fun p hp => h4 p (hws.subset hp))]
    exact hh.out i hi
  by_cases hr : r = 0
  · subst hr
    have h5 := h5 rfl
    rw [List.take_length, now_quiet hw] at h5
    have hrest : Rest a s (updS dk.now a (headB s g 0)) g F := by
      refine ⟨by unfold updS; rw [if_pos rfl], fun i hi => ?_⟩
      unfold updS
      rw [if_neg (by omega), h5]
      exact hh.out i hi
    obtain ⟨r2, d2, e2, g2, k2, b2⟩ := wBoth_goes h2.on (a := a) (s := s) (g := g) (hand := 0) (by rw [h2.len]; omega) hb (.inl hrest)
    refine ⟨r2, d2, ?_, h2.trans g2, fun e => ?_, b2⟩
    · unfold wFinish
      rw [h1, if_neg (by simp)]
      exact e2
    · obtain ⟨e3, e4⟩ := k2 e
      exact ⟨e3, by rw [e4]; exact hrest⟩
  · refine ⟨r, dk, ?_, h2, fun e => absurd e hr, hb⟩
    unfold wFinish
    rw [h1, if_pos hr]

theorem groups_head {s h : Nat} {g : Nat} (hg : g < 9223372036854775808) : groupsIn (headB s g h) = g := by
  unfold groupsIn
  rw [headB_groups]
  exact takenB_numB (by omega) hg
theorem hand_head {s h : Nat} {g : Nat} (hh : h < 65536) : handIn (headB s g h) = h := by
  unfold handIn
  rw [headB_hand]
  exact takenB_numB hh (by omega)
theorem room_le (s : Nat) : roomN s ≤ s := by unfold roomN; split <;> omega
theorem wThere_nat {d : DiskM} {a s : Nat} (hs : 3 ≤ s) (hp : a + s ≤ d.len) : wThere d a s = true := by
  unfold wThere
  simp only [Bool.and_eq_true, decide_eq_true_eq]
  omega

/-- A log is opened. -/
theorem wOpen_goes {d : DiskM} (h : d.off = false) {a s g : Nat} {F : Nat → Sec} (hs : 3 ≤ s) (hp : a + s ≤ d.len) (hlen : d.len ≤ 8192) (hg : g < 9223372036854775808) (hw : d.waits = []) (hh : At d.len a s d.sure g F) :
    groupsIn (d.now a) = g ∧ ∃ r d', wOpen d a s = (r, d') ∧ Goes d r d' ∧ (r = 0 → d'.waits = [] ∧ Rest a s d'.sure g F) ∧ Boots d' (fun f => At d.len a s f g F) := by
  have hck : d.check (a : Int) = 0 := DiskM.on_check h (by omega)
  rcases hh with hr | ⟨l, hl⟩
  · have e1 : d.now a = headB s g ((0 : Nat) : Int) := by rw [now_quiet hw]; exact hr.head
    have e2 := groups_head (s := s) (h := 0) hg
    have e3 := hand_head (s := s) (g := g) (h := 0) (by decide)
    refine ⟨by rw [e1]; exact e2, 0, d, ?_, Goes.refl h, fun _ => ⟨hw, hr⟩, Boots.quiet hw (.inl hr)⟩
    unfold wOpen
    rw [if_neg (by simp [wThere_nat hs hp]), if_neg (fun h' => h' hck), Int.toNat_natCast, e1, e2, e3]
    rw [if_neg (fun h' => h'.elim (fun h' => h' rfl) (fun h' => h'.elim (fun h' => by omega) (fun h' => by omega))), if_neg (by omega)]
  · have hln : l.length < 65536 := by have := hl.ok.room; have := room_le s; omega
    have e1 : d.now a = headB s g (l.length : Int) := by rw [now_quiet hw]; exact hl.head
    have e2 := groups_head (s := s) (h := l.length) hg
    have e3 := hand_head (s := s) (g := g) hln
    obtain ⟨r, d', f1, f2, f3, f4⟩ := wFinish_goes h hs hp hlen hw hl
    refine ⟨by rw [e1]; exact e2, r, d', ?_, f2, f3, f4⟩
    have hpos := hl.pos
    have hroom := hl.ok.room
    unfold wOpen
    rw [if_neg (by simp [wThere_nat hs hp]), if_neg (fun h' => h' hck), Int.toNat_natCast, Int.toNat_natCast, e1, e2, e3]
    rw [if_neg (fun h' => h'.elim (fun h' => h' rfl) (fun h' => h'.elim (fun h' => by omega) (fun h' => by omega))), if_pos (by omega), Int.toNat_natCast]
    exact f1

/-- A log is made. -/
theorem wFormat_goes {d : DiskM} (h : d.off = false) {a s : Nat} {F : Nat → Sec} (hs : 3 ≤ s) (hp : a + s ≤ d.len) {p : (Nat → Sec) → Prop} (hb : Boots d p) (ho : EqOut a s d.now F) (hq : ∀ f, Rest a s f 0 F → p f) :
    ∃ r d', wFormat d a s = (r, d') ∧ Goes d r d' ∧ (r = 0 → d'.waits = [] ∧ Rest a s d'.sure 0 F) ∧ Boots d' p := by
  have hrest : Rest a s (updS d.now a (headB s 0 0)) 0 F := by
    refine ⟨by unfold updS; rw [if_pos rfl]; rfl, fun i hi => ?_⟩
    unfold updS
    rw [if_neg (by omega)]
    exact ho i hi
  obtain ⟨r2, d2, e2, g2, k2, b2⟩ := wBoth_goes h (a := a) (s := s) (g := 0) (hand := 0) (by omega) hb (hq _ hrest)
  refine ⟨r2, d2, ?_, g2, fun e => ?_, b2⟩
  · unfold wFormat
    rw [if_neg (by simp [wThere_nat hs hp]), Int.toNat_natCast, Int.toNat_natCast]
    exact e2
  · obtain ⟨e3, e4⟩ := k2 e
    exact ⟨e3, by rw [e4]; exact hrest⟩

/-- A group is done; or the power goes off. -/
theorem wCommit_goes {d : DiskM} (h : d.off = false) {a s g : Nat} {F : Nat → Sec} {l : List PutM} (hs : 3 ≤ s) (hp : a + s ≤ d.len) (hlen : d.len ≤ 8192) (hg : g < 9223372036854775807) (hw : d.waits = []) (hr : Rest a s d.sure g F) (hm : wMay d.len a s l = true) :
    ∃ r g' d', wCommit d a s g l = (r, g', d') ∧ Goes d r d' ∧ (r = 0 → g' = ((g + 1 : Nat) : Int) ∧ d'.waits = [] ∧ Rest a s d'.sure (g + 1) (applyPuts F l)) ∧
      Boots d' (fun f => At d.len a s f g F ∨ At d.len a s f (g + 1) (applyPuts F l)) := by
  have hok := GroupOk.of hm
  have hwrap : wrap64 ((g : Int) + 1) = ((g + 1 : Nat) : Int) := by unfold wrap64; omega
  have hbody : ∀ ws : List (Nat × Sec), (∀ p ∈ ws, a < p.1 ∧ p.1 < a + s) → Rest a s (settle d.sure ws) g F := by
    intro ws hws
    refine ⟨?_, fun i hi => ?_⟩
    · rw [settle_other _ _ _ (fun p hp => by have := hws p hp; omega)]
      exact hr.head
    · rw [settle_other _ _ _ (fun p hp => by have := hws p hp; omega)]
      exact hr.out i hi
  have hb : Body d a s := by intro p hp; rw [hw] at hp; simp at hp
  obtain ⟨r1, d1, h1, g1, s1, b1, n1⟩ := wBytes_goes h hs hp hok hb l.length (Nat.le_refl _)
  by_cases hr1 : r1 = 0
  · subst hr1
    have n1 := n1 rfl
    obtain ⟨r2, d2, h2, g2, s2, b2, n2⟩ := wLists_goes (l := l) g1.on hs (by rw [g1.len]; exact hp) hok.room b1 _ (Nat.le_refl _)
    by_cases hr2 : r2 = 0
    · subst hr2
      have n2 := n2 rfl
      have hf := first_fits (a := a) hs hok.room
      have hlo : a + 1 ≤ wFirst a s := by unfold wFirst; omega
      have hholds : Holds d2.now a s l := by
        refine ⟨fun k hk => ?_, fun c hc => ?_⟩
        · rw [n2, if_neg (by omega), n1, if_pos (by omega), show wFirst a s + k - wFirst a s = k by omega]
        · rw [n2, if_pos (by omega), show a + 1 + c - (a + 1) = c by omega]
      have hout : ∀ i, ¬ (a ≤ i ∧ i < a + s) → d2.now i = F i := by
        intro i hi
        rw [n2, if_neg (by omega), n1, if_neg (by omega), now_quiet hw]
        exact hr.out i hi
      have hB : Boots d2 (fun f => At d.len a s f g F ∨ At d.len a s f (g + 1) (applyPuts F l)) := by
        intro ws hws
        rw [s2, s1]
        exact .inl (.inl (hbody ws (fun p hp => b2 p (hws.subset hp))))
      have hin : ∀ i, a ≤ i → i < a + s → ∀ f, applyPuts f l i = f i := fun i h1 h2 f => applyPuts_other (fun p hp => hok.out hp h1 h2)
      by_cases hl0 : l.length = 0
      · have hl : l = [] := List.eq_nil_of_length_eq_zero hl0
        have hrest : Rest a s (updS d2.now a (headB s ((g + 1 : Nat) : Int) (l.length : Int))) (g + 1) (applyPuts F l) := by
          refine ⟨by unfold updS; rw [if_pos rfl, hl0]; rfl, fun i hi => ?_⟩
          unfold updS
          rw [if_neg (by omega), hout i hi, hl]
          rfl
        obtain ⟨r3, d3, h3, g3, k3, b3⟩ := wBoth_goes g2.on (a := a) (s := s) (g := ((g + 1 : Nat) : Int)) (hand := (l.length : Int)) (by rw [g2.len, g1.len]; omega) hB (.inr (.inl hrest))
        rw [← hwrap] at h3
        refine ⟨r3, wrap64 ((g : Int) + 1), d3, ?_, (g1.trans g2).trans g3, fun e => ⟨hwrap, ?_⟩, b3⟩
        · rw [wCommit_both hm h1 h2 h3, if_pos (.inr hl0)]
        · obtain ⟨e3, e4⟩ := k3 e
          exact ⟨e3, by rw [e4]; exact hrest⟩
      · have hhand : Hand d.len a s (updS d2.now a (headB s ((g + 1 : Nat) : Int) (l.length : Int))) (g + 1) (applyPuts F l) l := by
          refine ⟨by unfold updS; rw [if_pos rfl], by omega, hholds.congr hs (Nat.le_refl _) hok.room (fun i h1 h2 => by unfold updS; rw [if_neg (by omega)]), hok, fun i hi => applyPuts_congr ?_⟩
          unfold updS
          rw [if_neg (by omega), hout i hi]
        obtain ⟨r3, d3, h3, g3, k3, b3⟩ := wBoth_goes g2.on (a := a) (s := s) (g := ((g + 1 : Nat) : Int)) (hand := (l.length : Int)) (by rw [g2.len, g1.len]; omega) hB (.inr (.inr ⟨l, hhand⟩))
        rw [← hwrap] at h3
        by_cases hr3 : r3 = 0
        · subst hr3
          obtain ⟨e3, e4⟩ := k3 rfl
          have hd3 : d3.len = d.len := ((g1.trans g2).trans g3).len
          obtain ⟨r4, d4, h4, g4, k4, b4⟩ := wFinish_goes g3.on (g := g + 1) (F := applyPuts F l) (l := l) hs (by rw [hd3]; exact hp) (by rw [hd3]; exact hlen) e3 (by rw [hd3, e4]; exact hhand)
          rw [hd3] at b4
          refine ⟨r4, wrap64 ((g : Int) + 1), d4, ?_, ((g1.trans g2).trans g3).trans g4, fun e => ⟨hwrap, k4 e⟩, b4.mono (fun f hf => .inr hf)⟩
          rw [wCommit_both hm h1 h2 h3, if_neg (by simp [hl0]), hwrap, h4]
        · refine ⟨r3, wrap64 ((g : Int) + 1), d3, ?_, (g1.trans g2).trans g3, fun e => absurd e hr3, b3⟩
          rw [wCommit_both hm h1 h2 h3, if_pos (.inl hr3)]
    · refine ⟨r2, (g : Int), d2, wCommit_lists hm h1 h2 hr2 (Nat.le_refl _), g1.trans g2, fun e => absurd e hr2, fun ws hws => ?_⟩
      rw [s2, s1]
      exact .inl (.inl (hbody ws (fun p hp => b2 p (hws.subset hp))))
  · refine ⟨r1, (g : Int), d1, wCommit_bytes hm h1 hr1 (Nat.le_refl _), g1, fun e => absurd e hr1, fun ws hws => ?_⟩
    rw [s1]
    exact .inl (.inl (hbody ws (fun p hp => b1 p (hws.subset hp))))

end Go.Proofs.Ytaiobekochhemaa
