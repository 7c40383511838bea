/- The log's statements: the ground they stand on; no condition. -/
import Derived.Test.YtaiobekochhemaaWalP
import Derived.Test.YtaiobekochhemaaWLawA
namespace Go.Proofs.Ytaiobekochhemaa
open Go.RowKit Go.MapKept

/-- A log at rest on a disk that is on: so many groups done, and what the other sectors have. -/
structure LogOn (d : DiskM) (a s g : Nat) (F : Nat → Sec) : Prop where
  off : d.off = false
  quiet : d.waits = []
  three : 3 ≤ s
  place : a + s ≤ d.len
  len : d.len ≤ 8192
  rest : Rest a s d.sure g F
theorem LogOn.now {d : DiskM} {a s g : Nat} {F : Nat → Sec} (h : LogOn d a s g F) {i : Nat} (hi : ¬ (a ≤ i ∧ i < a + s)) : d.now i = F i := by
  rw [now_quiet h.quiet]; exact h.rest.out i hi
theorem LogOn.few {d : DiskM} {a s g : Nat} {F : Nat → Sec} (h : LogOn d a s g F) (n : Nat) (hn : n < 1099511627776) : d.waits.length + n < 1099511627776 := by
  rw [h.quiet]; simpa using hn
theorem LogOn.few0 {d : DiskM} {a s g : Nat} {F : Nat → Sec} (h : LogOn d a s g F) : d.waits.length < 1099511627776 := by
  rw [h.quiet]; decide
theorem LogOn.opens {d : DiskM} {a s g : Nat} {F : Nat → Sec} (h : LogOn d a s g F) (hg : g < 9223372036854775808) : wOpen d a s = (0, d) ∧ groupsIn (d.now a) = g := by
  have e1 : d.now a = headB s g ((0 : Nat) : Int) := by rw [now_quiet h.quiet]; exact h.rest.head
  have e2 := groups_head (s := s) (h := 0) hg
  have e3 := hand_head (s := s) (g := g) (h := 0) (by decide)
  have hck : d.check (a : Int) = 0 := DiskM.on_check h.off (by have := h.place; have := h.three; omega)
  refine ⟨?_, by rw [e1]; exact e2⟩
  unfold wOpen
  rw [if_neg (by simp [wThere_nat h.three h.place]), if_neg (fun h' => h' hck), Int.toNat_natCast, e1, e2, e3]
  rw [if_neg (fun h' => h'.elim (fun h' => h' rfl) (fun h' => h'.elim (fun h' => by omega) (fun h' => by omega))), if_neg (by omega)]
theorem LogOn.commit {d : DiskM} {a s g : Nat} {F : Nat → Sec} {l : List PutM} (h : LogOn d a s g F) (hg : g < 9223372036854775807) (hm : wMay d.len a s l = true) :
    ∃ r g' d', wCommit d a s g l = (r, g', d') ∧ Goes d r d' ∧ (r = 0 → g' = ((g + 1 : Nat) : Int) ∧ LogOn d' a s (g + 1) (applyPuts F l)) ∧
      Boots d' (fun f => At d.len a s f g F ∨ At d.len a s f (g + 1) (applyPuts F l)) := by
  obtain ⟨r, g', d', h1, h2, h3, h4⟩ := wCommit_goes h.off h.three h.place h.len hg h.quiet h.rest hm
  refine ⟨r, g', d', h1, h2, fun e => ?_, h4⟩
  obtain ⟨k1, k2, k3⟩ := h3 e
  subst e
  exact ⟨k1, h2.on, k2, h.three, by rw [h2.len]; exact h.place, by rw [h2.len]; exact h.len, k3⟩
/-- With no fuse, a group is done. -/
theorem LogOn.commits {d : DiskM} {a s g : Nat} {F : Nat → Sec} {l : List PutM} (h : LogOn d a s g F) (hf : d.fuse = -1) (hg : g < 9223372036854775807) (hm : wMay d.len a s l = true) :
    ∃ d', wCommit d a s g l = (0, ((g + 1 : Nat) : Int), d') ∧ LogOn d' a s (g + 1) (applyPuts F l) ∧ d'.fuse = -1 ∧ d'.len = d.len := by
  obtain ⟨r, g', d', h1, h2, h3, _⟩ := h.commit hg hm
  obtain rfl := h2.yes hf
  obtain ⟨rfl, h4⟩ := h3 rfl
  exact ⟨d', h1, h4, h2.plain hf, h2.len⟩
theorem LogOn.steady {d : DiskM} {a s g : Nat} {F G : Nat → Sec} (h : LogOn d a s g F) (hg : EqOut a s F G) : LogOn d a s g G :=
  ⟨h.off, h.quiet, h.three, h.place, h.len, h.rest.head, fun i hi => (h.rest.out i hi).trans (hg i hi)⟩

/-- A log is formatted on a disk that is on, with no fuse. -/
theorem formats {d : DiskM} {a s : Nat} {F : Nat → Sec} (h : d.off = false) (hf : d.fuse = -1) (hs : 3 ≤ s) (hp : a + s ≤ d.len) (hl : d.len ≤ 8192) (ho : EqOut a s d.now F) :
    ∃ d', wFormat d a s = (0, d') ∧ LogOn d' a s 0 F ∧ d'.fuse = -1 ∧ d'.len = d.len := by
  obtain ⟨r, d', h1, h2, h3, _⟩ := wFormat_goes (p := fun _ => True) h hs hp (fun _ _ => trivial) ho (fun _ _ => trivial)
  obtain rfl := h2.yes hf
  obtain ⟨h4, h5⟩ := h3 rfl
  exact ⟨d', h1, ⟨h2.on, h4, hs, by rw [h2.len]; exact hp, by rw [h2.len]; exact hl, h5⟩, h2.plain hf, h2.len⟩

/-! ### The log's functions, with what they answer named -/
theorem format_to {p : Nat} {d d' : DiskM} {R : Assn} {w : World} {r a s : Int} (h : Bears w (diskA p d * R)) (heq : wFormat d a s = (r, d')) (ha : -9223372036854775808 ≤ a ∧ a ≤ 9223372036854775807) (hs : -9223372036854775808 ≤ s ∧ s ≤ 9223372036854775807) (hroom : d.waits.length + 1 < 1099511627776) :
    Calls Try.prog 66 #[.pointer (some ⟨p, 0, none⟩), .int .i64 a, .int .i64 s] w fun e w' => e = .returned (.int .i64 r) ∧ Bears w' (diskA p d' * R) := by
  have := format_any h a s ha hs hroom
  rw [heq] at this
  exact this
theorem open_yes {p : Nat} {d d' : DiskM} {R : Assn} {w : World} {a s : Nat} {g : Int} (h : Bears w (diskA p d * R)) (heq : wOpen d a s = (0, d')) (hg : groupsIn (d.now a) = g) (ha : a ≤ 100000) (hs : s ≤ 100000) (hroom : d.waits.length + 20000 < 1099511627776) :
    Calls Try.prog 42 #[.pointer (some ⟨p, 0, none⟩), .int .i64 a, .int .i64 s] w fun e w' => ∃ x, e = .returned (.tuple #[.pointer (some ⟨x, 0, none⟩), .int .i64 0]) ∧ Bears w' (walObj x p a s g * (diskA p d' * R)) := by
  refine (open_any h a s (by omega) (by omega) hroom).mono ?_
  rintro e w' (⟨h1, _⟩ | ⟨_, x, h2, h3⟩)
  · rw [heq] at h1
    exact absurd rfl h1
  · rw [heq, Int.toNat_natCast, Int.toNat_natCast, hg] at h3
    exact ⟨x, h2, h3⟩
theorem open_no {p : Nat} {d d' : DiskM} {R : Assn} {w : World} {a s r : Int} (h : Bears w (diskA p d * R)) (heq : wOpen d a s = (r, d')) (hr : r ≠ 0) (ha : -9223372036854775808 ≤ a ∧ a ≤ 9223372036854775807) (hs : -9223372036854775808 ≤ s ∧ s ≤ 9223372036854775807) (hroom : d.waits.length + 20000 < 1099511627776) :
    Calls Try.prog 42 #[.pointer (some ⟨p, 0, none⟩), .int .i64 a, .int .i64 s] w fun e w' => e = .returned (.tuple #[.pointer none, .int .i64 r]) ∧ Bears w' (diskA p d' * R) := by
  refine (open_any h a s ha hs hroom).mono ?_
  rintro e w' (⟨h1, h2, h3⟩ | ⟨h1, _⟩)
  · rw [heq] at h2 h3
    exact ⟨h2, h3⟩
  · rw [heq] at h1
    exact absurd h1 hr
theorem commit_to {x p a s : Nat} {g g' r : Int} {d d' : DiskM} {R : Assn} {w : World} {l : List PutM} {ad : Option Addr} {n cap : Nat} (h : Bears w (walObj x p a s g * (diskA p d * R))) (heq : wCommit d a s g l = (r, g', d')) (hl : R.Tells (fun w => PutsIn w (.slice ad n cap) l))
    (hlen : l.length ≤ 9223372036854775807) (ha : a ≤ 100000) (hs : s ≤ 100000) (hroom : d.waits.length + 400000 < 1099511627776) :
    Calls Try.prog 82 #[.pointer (some ⟨x, 0, none⟩), .slice ad n cap] w fun e w' => e = .returned (.int .i64 r) ∧ Bears w' (walObj x p a s g' * (diskA p d' * R)) := by
  obtain rfl := (hl w h.right.right).len
  have := commit_any h l ad cap hl hlen ha hs hroom
  rw [heq] at this
  exact this

/-! ### Puts in memory -/
def putCells (l : List PutM) : List Value := l.flatMap fun p => [.int .i64 p.sector, p.val]
theorem putCells_length (l : List PutM) : (putCells l).length = 2 * l.length := by
  unfold putCells
  induction l with
  | nil => rfl
  | cons p l ih => simp [ih]; omega
theorem putCells_at : ∀ (l : List PutM) (k : Nat), k < l.length → (putCells l)[k * 2]? = some (.int .i64 (l.getD k default).sector) ∧ (putCells l)[k * 2 + 1]? = some (l.getD k default).val
  | [], _, h => absurd h (by simp)
  | p :: l, 0, _ => ⟨rfl, rfl⟩
  | p :: l, k + 1, h => by
    have := putCells_at l k (by simpa using h)
    rw [show (k + 1) * 2 = k * 2 + 1 + 1 by omega]
    simpa [putCells] using this
theorem PutsIn.range {w : World} {b o cap : Nat} {l : List PutM} (h : w.rangeAt b o (putCells l)) (hb : ∀ p ∈ l, BytesIn w p.val p.bytes) (hcap : l.length ≤ cap) : PutsIn w (.slice (some ⟨b, o, none⟩) l.length cap) l := by
  refine ⟨_, cap, rfl, hcap, fun _ => ⟨b, o, rfl, fun k hk => ?_⟩⟩
  obtain ⟨h1, h2⟩ := putCells_at l k hk
  refine ⟨h _ _ h1, ?_, hb _ (getD_mem hk)⟩
  have := h _ _ h2
  rwa [← Nat.add_assoc] at this
theorem PutsIn.tells {b cap n : Nat} {l : List PutM} {t : TypeId} {R : Assn} (hn : n = l.length) (hb : ∀ p ∈ l, R.Tells (fun w => BytesIn w p.val p.bytes)) (hcap : l.length ≤ cap) :
    (Assn.obj b (.cells (putCells l).toArray t (0, 0)) * R).Tells (fun w => PutsIn w (.slice (some ⟨b, 0, none⟩) n cap) l) := by
  subst hn
  exact fun w h => PutsIn.range (by simpa using rangeAt_of_obj h.obj) (fun p hp => hb p hp w h.right) hcap

/-- A put of a sector's bytes that lie in a block of their own. -/
abbrev putOf (sec : Int) (g : Nat) (l : List UInt8) : PutM := ⟨sec, l, some ⟨g, 0, none⟩, l.length⟩

end Go.Proofs.Ytaiobekochhemaa
