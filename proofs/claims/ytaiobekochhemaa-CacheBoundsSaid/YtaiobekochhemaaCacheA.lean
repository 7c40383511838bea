/- The cache: how it lies in memory; no condition. -/
import Derived.Test.YtaiobekochhemaaCacheM
import Derived.Test.YtaiobekochhemaaWalW7
namespace Go.Proofs.Ytaiobekochhemaa
open Go.RowKit Go.MapKept

/-- The map of the bytes that are held. -/
structure HasMap (Y : Assn) (hl : List (Int × Value)) (ls : List LineM) : Prop where
  no : ∀ i, findL i ls = none → getL i hl = none
  yes : ∀ i x, findL i ls = some x → ∃ ad cap, getL i hl = some (.slice ad x.b.length cap) ∧ Y.Tells (fun w => BytesIn w (.slice ad x.b.length cap) x.b)
/-- The map of the pinned places. -/
structure PinMap (pl : List (Int × Value)) (ls : List LineM) : Prop where
  has : ∀ i, (getL i pl).isSome = (match findL i ls with | some x => x.pin | none => false)
  count : pl.length = (ls.filter (·.pin)).length
def orderV (ls : List LineM) : List Value := ls.map fun x => .int .i64 x.at'

abbrev cacheObj (c p x : Nat) (cm : CacheM) (hb pb : Nat) (ov : Value) : Assn :=
  Assn.obj c (.cells #[.pointer (some ⟨p, 0, none⟩), .pointer (some ⟨x, 0, none⟩), .int .i64 cm.most, .int .i64 cm.misses, .bool cm.isOpen, .map (some hb), .map (some pb), ov] 108 (0, 0))

/-- How a cache lies in memory (its disk and its log lie beside). -/
def cacheA (c p x : Nat) (cm : CacheM) : Assn :=
  Assn.ex fun (z : Nat × Nat × Value × List (Int × Value) × List (Int × Value) × Assn) =>
    Assn.fact (cm.WF ∧ HasMap z.2.2.2.2.2 z.2.2.2.1 cm.lines ∧ PinMap z.2.2.2.2.1 cm.lines) *
    (cacheObj c p x cm z.1 z.2.1 z.2.2.1 * (mapA z.1 z.2.2.2.1 * (mapA z.2.1 z.2.2.2.2.1 * (rowA 3 1 z.2.2.1 cm.lines.length (orderV cm.lines) * z.2.2.2.2.2))))

theorem Bears.cache {w : World} {c p x : Nat} {cm : CacheM} {R : Assn} : Bears w (cacheA c p x cm * R) ↔ ∃ hb pb ov hl pl Y, cm.WF ∧ HasMap Y hl cm.lines ∧ PinMap pl cm.lines ∧
    Bears w (cacheObj c p x cm hb pb ov * (mapA hb hl * (mapA pb pl * (rowA 3 1 ov cm.lines.length (orderV cm.lines) * (Y * R))))) := by
  unfold cacheA
  rw [Bears.ex]
  simp only [Assn.mul_assoc']
  constructor
  · rintro ⟨⟨hb, pb, ov, hl, pl, Y⟩, h⟩
    obtain ⟨⟨h1, h2, h3⟩, h⟩ := Bears.fact.1 h
    exact ⟨hb, pb, ov, hl, pl, Y, h1, h2, h3, h⟩
  · rintro ⟨hb, pb, ov, hl, pl, Y, h1, h2, h3, h⟩
    exact ⟨⟨hb, pb, ov, hl, pl, Y⟩, Bears.fact.2 ⟨⟨h1, h2, h3⟩, h⟩⟩

end Go.Proofs.Ytaiobekochhemaa
