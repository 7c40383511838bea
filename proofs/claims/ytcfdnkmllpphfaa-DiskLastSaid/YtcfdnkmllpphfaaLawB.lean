/- The disk's statements: the examples at their head; no condition. -/
import Derived.Test.YtcfdnkmllpphfaaLawA
import Derived.Laws.IdiomStrings
namespace Go.Proofs.Ytcfdnkmllpphfaa
open Go.RowKit Go.MapKept

theorem u_bytes : Try.prog.underlying 22 = some (.slice 5) := by kernel_rfl
theorem u_byte : Try.prog.underlying 5 = some (.int .u8) := by kernel_rfl
theorem u_string : Try.prog.underlying 9 = some .string := by kernel_rfl

/-- A string of bytes. -/
abbrev strV (l : List UInt8) : Value := .string ⟨l.toArray⟩

theorem run_convert_in {w : World} {ad : Option Addr} {n cap : Nat} {l : List UInt8} (h : BytesIn w (.slice ad n cap) l) :
    (convert 22 9 (.slice ad n cap)).run Try.prog w = .ok (strV l) w := by
  by_cases hl : l = []
  · subst hl
    have := h.len
    subst this
    rw [run_convert_bytes_string w 22 9 5 _ _ _ u_bytes u_byte u_string]
    cases ad with
    | none => simp [Conv.bytesToString]; rfl
    | some a => simp [Conv.bytesToString, loadCells, loadCellsFrom]; rfl
  · obtain ⟨b, o, rfl, hr⟩ := h.at hl
    have := h.len
    subst this
    exact run_convert_bytes_back w 22 9 5 ⟨b, o, none⟩ cap l u_bytes u_byte u_string (fun j hj => by
      rw [Addr.add_mid]
      exact hr j _ (by simp [cellsV, hj, byteV]))

theorem write_to {p : Nat} {d d' : DiskM} {R : Assn} {w : World} {i r : Int} {l : List UInt8} {ad : Option Addr} {n cap : Nat} (h : Bears w (diskA p d * R)) (heq : d.write i l = (r, d')) (hb : R.Tells (fun w => BytesIn w (.slice ad n cap) l))
    (hroom : d.waits.length < 1099511627776) :
    Calls Try.prog 11 #[.pointer (some ⟨p, 0, none⟩), .int .i64 i, .slice ad n cap] w fun e w' => e = .returned (.int .i64 r) ∧ Bears w' (diskA p d' * R) := by
  have hn := (hb w h.right).len
  subst hn
  have := write_any h i l ad cap hb hroom
  rw [heq] at this
  exact this

theorem barrier_to {p : Nat} {d d' : DiskM} {R : Assn} {w : World} {r : Int} (h : Bears w (diskA p d * R)) (heq : d.barrier = (r, d')) (hroom : d.waits.length < 1099511627776) :
    Calls Try.prog 13 #[.pointer (some ⟨p, 0, none⟩)] w fun e w' => e = .returned (.int .i64 r) ∧ Bears w' (diskA p d' * R) := by
  have := barrier_any h hroom
  rw [heq] at this
  exact this

theorem read_to {p : Nat} {d : DiskM} {R : Assn} {w : World} (i : Int) {s : Sec} (h : Bears w (diskA p d * R)) (hck : d.check i = 0) (hs : d.now i.toNat = s) :
    Calls Try.prog 16 #[.pointer (some ⟨p, 0, none⟩), .int .i64 i] w fun e w' => ∃ g, e = .returned (.tuple #[.slice (some ⟨g, 0, none⟩) 64 64, .int .i64 0]) ∧
      Bears w' (Assn.obj g (.cells (cellsV s).toArray 61 (0, 0)) * (diskA p d * R)) := by
  obtain ⟨n, rfl⟩ := Int.eq_ofNat_of_zero_le (check_range hck).2.1
  have := read_ok h n hck
  rw [show ((n : Int)).toNat = n from rfl] at hs
  rw [hs] at this
  exact this

theorem boot_to {p : Nat} {d d' : DiskM} {R : Assn} {w : World} (ks : List Int) {ad : Option Addr} {n cap : Nat} (h : Bears w (diskA p d * R)) (hn : n = ks.length) (heq : d.boot ks = d') (hk : R.Tells (fun w => IntsIn w (.slice ad n cap) ks))
    (hb : ∀ x ∈ ks, -9223372036854775808 ≤ x ∧ x ≤ 9223372036854775807) (hlen : ks.length ≤ 9223372036854775807) (hroom : d.waits.length < 1099511627776) :
    Calls Try.prog 14 #[.pointer (some ⟨p, 0, none⟩), .slice ad n cap] w fun e w' => e = .returned (.tuple #[]) ∧ Bears w' (diskA p d' * R) := by
  subst hn
  have := boot_any h ks ad cap hk hb hlen hroom
  rw [heq] at this
  exact this

theorem fuse_to {p : Nat} {d d' : DiskM} {R : Assn} {w : World} {n : Int} (h : Bears w (diskA p d * R)) (heq : d.setFuse n = d') (hn : n < 9223372036854775808) :
    Calls Try.prog 18 #[.pointer (some ⟨p, 0, none⟩), .int .i64 n] w fun e w' => e = .returned (.tuple #[]) ∧ Bears w' (diskA p d' * R) := by
  have := fuse_any h n hn
  rw [heq] at this
  exact this

end Go.Proofs.Ytcfdnkmllpphfaa
