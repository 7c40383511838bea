/- The cache's contracts, with what they answer named; no condition. -/
import Derived.Test.YtaiobekochhemaaCacheW13
namespace Go.Proofs.Ytaiobekochhemaa
open Go.RowKit Go.MapKept

theorem cread_held_to {c p x : Nat} {cm cm' : CacheM} {R : Assn} {w : World} {i : Int} {y : LineM} (h : Bears w (cacheA c p x cm * R)) (hf : findL i cm.lines = some y) (hr : cm.used y = cm') (hlen : cm.lines.length < 1099511627775) :
    Calls Try.prog 24 #[.pointer (some ⟨c, 0, none⟩), .int .i64 i] w fun e w' => ∃ ad cap, e = .returned (.tuple #[.slice ad 64 cap, .int .i64 0]) ∧
      Bears w' (rowA 5 1 (.slice ad 64 cap) 64 (cellsV y.b) * (cacheA c p x cm' * R)) := by
  subst hr
  obtain ⟨_, _, _, _, _, _, hwf, _⟩ := Bears.cache.1 h
  have := cread_held h hf hlen
  rw [hwf.bytes y (findL_mem hf).1] at this
  exact this
theorem cread_disk_to {c p x : Nat} {cm cm' : CacheM} {d : DiskM} {R : Assn} {w : World} {i : Int} {s : Sec} (h : Bears w (cacheA c p x cm * (diskA p d * R))) (hf : findL i cm.lines = none) (hck : d.check i = 0) (hs : d.now i.toNat = s)
    (hr : ({ cm with misses := wrap64 (cm.misses + 1) } : CacheM).used ⟨i, s, false⟩ = cm') (hlen : cm.lines.length < 1099511627775) :
    Calls Try.prog 24 #[.pointer (some ⟨c, 0, none⟩), .int .i64 i] w fun e w' => ∃ ad cap, e = .returned (.tuple #[.slice ad 64 cap, .int .i64 0]) ∧
      Bears w' (rowA 5 1 (.slice ad 64 cap) 64 (cellsV s) * (cacheA c p x cm' * (diskA p d * R))) := by
  subst hr; subst hs
  exact cread_disk h hf hck hlen
theorem cread_no_to {c p x : Nat} {cm : CacheM} {d : DiskM} {R : Assn} {w : World} {i r : Int} (h : Bears w (cacheA c p x cm * (diskA p d * R))) (hf : findL i cm.lines = none) (hck : d.check i = r) (hr : r ≠ 0) :
    Calls Try.prog 24 #[.pointer (some ⟨c, 0, none⟩), .int .i64 i] w fun e w' => e = .returned (.tuple #[.slice none 0 0, .int .i64 r]) ∧ Bears w' (cacheA c p x cm * (diskA p d * R)) := by
  subst hck
  exact (cread_no h hf hr).mono fun e w' h2 => ⟨h2.1, h2.2 ▸ h⟩
theorem cwrite_to {c p x : Nat} {cm cm' : CacheM} {d : DiskM} {R : Assn} {w : World} {i r : Int} {b : Sec} {ad : Option Addr} {n cap : Nat} (h : Bears w (cacheA c p x cm * (diskA p d * R))) (heq : cm.write d.len i b = (r, cm')) (hb : R.Tells (fun w => BytesIn w (.slice ad n cap) b)) (hlen : cm.lines.length < 1099511627775) :
    Calls Try.prog 28 #[.pointer (some ⟨c, 0, none⟩), .int .i64 i, .slice ad n cap] w fun e w' => e = .returned (.int .i64 r) ∧ Bears w' (cacheA c p x cm' * (diskA p d * R)) := by
  have := cwrite_any h hb hlen (i := i)
  rw [heq] at this
  exact this
theorem cbegin_to {c p x : Nat} {cm cm' : CacheM} {R : Assn} {w : World} {r : Int} (h : Bears w (cacheA c p x cm * R)) (heq : cm.begins = (r, cm')) :
    Calls Try.prog 29 #[.pointer (some ⟨c, 0, none⟩)] w fun e w' => e = .returned (.int .i64 r) ∧ Bears w' (cacheA c p x cm' * R) := by
  have := cbegin_any h
  rw [heq] at this
  exact this
theorem cabort_to {c p x : Nat} {cm cm' : CacheM} {R : Assn} {w : World} {r : Int} (h : Bears w (cacheA c p x cm * R)) (heq : cm.abort = (r, cm')) :
    Calls Try.prog 33 #[.pointer (some ⟨c, 0, none⟩)] w fun e w' => e = .returned (.int .i64 r) ∧ Bears w' (cacheA c p x cm' * R) := by
  have := cabort_any h
  rw [heq] at this
  exact this
theorem cheld_to {c p x : Nat} {cm : CacheM} {R : Assn} {w : World} {n : Nat} {l : List Int} (h : Bears w (cacheA c p x cm * R)) (hn : cm.lines.length = n) (hl : cm.lines.map (·.at') = l) (hlen : n < 1099511627776) :
    Calls Try.prog 36 #[.pointer (some ⟨c, 0, none⟩)] w fun e w' => ∃ ad cap, e = .returned (.slice ad n cap) ∧ Bears w' (rowA 3 1 (.slice ad n cap) n (intsV l) * (cacheA c p x cm * R)) := by
  subst hn; subst hl
  refine (cheld_any h hlen).mono ?_
  rintro e w' ⟨v, rfl, h2⟩
  obtain ⟨a, cap, rfl, _⟩ := h2.rowForm
  exact ⟨a, cap, rfl, h2⟩
theorem cpinned_to {c p x : Nat} {cm : CacheM} {R : Assn} {w : World} {n : Nat} (h : Bears w (cacheA c p x cm * R)) (hn : (cm.lines.filter (·.pin)).length = n) :
    Calls Try.prog 37 #[.pointer (some ⟨c, 0, none⟩)] w fun e w' => e = .returned (.int .i64 n) ∧ Bears w' (cacheA c p x cm * R) := by
  subst hn
  exact (cpinned_any h).mono fun e w' h2 => ⟨h2.1, h2.2 ▸ h⟩
theorem cmisses_to {c p x : Nat} {cm : CacheM} {R : Assn} {w : World} {n : Int} (h : Bears w (cacheA c p x cm * R)) (hn : cm.misses = n) :
    Calls Try.prog 39 #[.pointer (some ⟨c, 0, none⟩)] w fun e w' => e = .returned (.int .i64 n) ∧ Bears w' (cacheA c p x cm * R) := by
  subst hn
  exact (cmisses_any h).mono fun e w' h2 => ⟨h2.1, h2.2 ▸ h⟩

end Go.Proofs.Ytaiobekochhemaa
