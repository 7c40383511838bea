/- Walks of the cache's functions, part 12: the keys of a map, sorted; Commit; no condition. -/
import Derived.Test.YtaiobekochhemaaCacheW11
import Derived.Test.YtaiobekochhemaaPutRow
import Derived.Test.YtaiobekochhemaaShelf
namespace Go.Proofs.Ytaiobekochhemaa
open Go.RowKit Go.MapKept Go.Maps Go.Sort Go.Shelf Go.WideShapes

/-- How any value is read where it does not matter. -/
def anyR : Value → Option (DataW Unit × List MemPlace) := fun _ => some (.nil, [])

theorem rd_any {x : MapEntry} {k : Int} (hk : x.key = .int .i64 k) (hb : -9223372036854775808 ≤ k ∧ k ≤ 9223372036854775807) : WideElems.rd Try.prog 3 anyR x = some (.int .i64 k, .nil) := by
  have : keyOf Try.prog 3 x.key = some (.int .i64 k) := by
    rw [hk]
    unfold keyOf
    rw [u_int]
    simp [mapKey, Lit.wf]
    exact ⟨by show IntKind.i64.min ≤ k; have : IntKind.i64.min = -9223372036854775808 := by decide
              omega, hb.2⟩
  unfold WideElems.rd
  rw [this]
  rfl

theorem Bears.ownsMap {w : World} {b : Nat} {l : List (Int × Value)} {R : Assn} (h : Bears w (mapA b l * R)) (hb : ∀ k v, getL k l = some v → -9223372036854775808 ≤ k ∧ k ≤ 9223372036854775807) (hl : l.length ≤ maxLen) :
    ∃ D : DataW Unit, w.ownsMap Try.prog 3 anyR b l.length D ∧ (intKeys D).Perm (l.map Prod.fst) ∧ Maps.size D = l.length := by
  obtain ⟨es, clock, hm, h0⟩ := h.ofMapA
  have hs : es.size = l.length := by have := congrArg List.length hm.list; simpa using this
  have hrd : ∀ x ∈ es.toList, ∃ k, x.key = .int .i64 k ∧ WideElems.rd Try.prog 3 anyR x = some (.int .i64 k, .nil) := by
    intro x hx
    obtain ⟨k, v, hk, hv, hg⟩ := hm.entry hx
    exact ⟨k, hk, rd_any hk (hb k v hg)⟩
  refine ⟨_, ⟨es, clock, h0.obj, ⟨by omega, hm.stamped, fun x hx => ?_⟩, by omega, rfl⟩, ?_, ?_⟩
  · obtain ⟨k, _, h2⟩ := hrd x hx
    exact ⟨_, h2⟩
  · simp only [intKeys]
    refine ((sorted_perm _).map _).trans ?_
    rw [List.map_map]
    have e1 : es.toList.map ((fun p : Lit × DataW Unit => Go.intOf p.1) ∘ WideElems.rg Try.prog 3 anyR) = l.map Prod.fst := by
      have e2 : (l.map Prod.fst).map (Value.int .i64) = es.toList.map (·.key) := by
        have := congrArg (List.map Prod.fst) hm.list
        simpa [Function.comp_def] using this.symm
      have e3 : (es.toList.map ((fun p : Lit × DataW Unit => Go.intOf p.1) ∘ WideElems.rg Try.prog 3 anyR)).map (Value.int .i64) = es.toList.map (·.key) := by
        rw [List.map_map]
        refine List.map_congr_left fun x hx => ?_
        obtain ⟨k, hk, h2⟩ := hrd x hx
        simp [WideElems.rg, h2, hk, Go.intOf]
      exact List.map_inj_right (fun x y h => by simpa using h) |>.1 (e3.trans e2.symm)
    rw [e1]
  · simp [Maps.size, length_sorted, hs]

theorem Bears.ownsRow {w w' : World} {e : TypeId} {size : Nat} {v : Value} {n : Nat} {xs : List Value} {R : Assn} (h : Bears w R) (hr : w'.ownsRow w.heap.size e size v n xs) (hb : Below w.heap.size w w') : Bears w' (rowA e size v n xs * R) := by
  have h1 : w'.ownsRow 0 e size v n xs := ownsRow_base_a hr (Nat.zero_le _)
  obtain ⟨H, hR⟩ := h
  obtain ⟨h2, h3, h4, h5, h6⟩ := hb
  refine ⟨_, _, H, ⟨h1, rfl⟩, R.loc hR ⟨h2, h3, h4, h5⟩ (fun b hb => h6 b (R.lt hR b hb)), fun b hb1 hb2 => ?_, rfl⟩
  have := R.lt hR b hb2
  rcases hr.2 with ⟨rfl, _⟩ | ⟨g, cap, cur, rfl, hbase, _⟩
  · simp [Value.ownBlock] at hb1
  · simp only [Value.ownBlock, Option.some.injEq] at hb1
    omega

theorem sortsA (m : Nat) : AnyZI.SortsIn Try.prog Try.sortedA_ren Fence.wide m :=
  ⟨fun blk off cap ss W hH hblk hsz => callsIn_wide.2 (Try.slices_Sort_int blk off cap ss W hH hblk hsz),
   fun p cap W => callsIn_wide.2 (Try.slices_Sort_int_none p cap W)⟩

theorem keys_any (mb : Option Nat) (w : World) : Calls Try.prog 81 #[.map mb] w fun e w' => e = .returned (.func (.func 108) #[] #[.pointer (some ⟨w.heap.size, 0, none⟩)]) ∧ w' = w.alloc (.cells #[.map mb] 106) :=
  (callsIn_wide (n := 5)).1 (AnyZI.keys_in Try.keysA Fence.wide 5 trivial rfl mb w)

set_option maxRecDepth 100000 in
set_option maxHeartbeats 1000000 in
theorem sorted_any {w : World} {b : Nat} {l : List (Int × Value)} {R : Assn} (h : Bears w (mapA b l * R)) (hb : ∀ k v, getL k l = some v → -9223372036854775808 ≤ k ∧ k ≤ 9223372036854775807) (hl : l.length < 1099511627776) :
    Calls Try.prog 80 #[.func (.func 108) #[] #[.pointer (some ⟨w.heap.size, 0, none⟩)]] (w.alloc (.cells #[.map (some b)] 106)) fun e w' => ∃ v ks, e = .returned v ∧ ks.Perm (l.map Prod.fst) ∧
      Bears w' (rowA 3 1 v ks.length (intsV ks) * (mapA b l * R)) := by
  obtain ⟨D, hown, hperm, hsize⟩ := h.ownsMap hb (by unfold maxLen; omega)
  have h1 := h.alloc (.cells #[.map (some b)] 106)
  have hbl := hown.lt
  have hseq : SeqGives Fence.wide 2 Try.prog 108 #[.pointer (some ⟨w.heap.size, 0, none⟩)] encZ (fun ss => ss.Perm (intKeys D)) (Maps.size D) (w.alloc (.cells #[.map (some b)] 106)) :=
    AnyZI.keys_gives (ρ := Try.keysA_ren) { Try.keysA with } Fence.wide _ trivial rfl (by omega) w.heap.size b l.length D _ (by simp) (by simp) (by
      obtain ⟨es, clock, hb, Ft, hs, hD⟩ := hown
      exact ⟨es, clock, (Below.heap_alloc _ _ b hbl).trans hb, Ft, hs, hD⟩)
  have cS := AnyZI.sorted_in Try.sortedA Fence.wide 5 trivial trivial trivial trivial rfl (by omega) (sortsA _) (enters_of Try.func107 (by kernel_rfl) rfl) 108 #[.pointer (some ⟨w.heap.size, 0, none⟩)] trivial (enters_of Try.func108 (by kernel_rfl) rfl) _ _ (by rw [hsize]; unfold maxLen; omega) (by rw [hsize]; omega) _ hseq
  refine ((callsIn_wide (n := 5)).1 cS).mono ?_
  rintro e w' ⟨v, ss, rfl, hS, hrow, _, hbelow⟩
  refine ⟨v, ss.mergeSort (fun x y => decide (x ≤ y)), rfl, (List.mergeSort_perm _ _).trans (hS.trans hperm), ?_⟩
  rw [(List.mergeSort_perm ss _).length_eq]
  exact (h1.ownsRow hrow hbelow).pull2.right

end Go.Proofs.Ytaiobekochhemaa
