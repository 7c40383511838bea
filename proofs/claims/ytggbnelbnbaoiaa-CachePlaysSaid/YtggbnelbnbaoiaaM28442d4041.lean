/- Texts of this claim, put together: CLawB, RCW5, RCW6, CacheT, CLawC, Few, CPM; no condition. -/
import Derived.Test.YtggbnelbnbaoiaaM52849e0056

set_option linter.unusedSimpArgs false
set_option linter.unusedVariables false

/- The statements of the cache: rows of ints that are compared; what a commit lays down; the ground; no condition. -/
namespace Go.Proofs.Ytggbnelbnbaoiaa
open Go.RowKit Go.MapKept

theorem rowA_ints {e : TypeId} {ad : Option Addr} {n cap : Nat} {l : List Int} {R : Assn} (hn : n = l.length) : (rowA e 1 (.slice ad n cap) n (intsV l) * R).Tells (fun w => IntsIn w (.slice ad n cap) l) := by
  intro w h
  subst hn
  refine ⟨ad, cap, rfl, fun hne => ?_⟩
  obtain ⟨g, rfl, _⟩ := h.rowAt (k := 0) (by cases l with | nil => exact absurd rfl hne | cons _ _ => simp)
  refine ⟨g, 0, rfl, fun j v hv => ?_⟩
  have hj : j < l.length := by have := (List.getElem?_eq_some_iff.1 hv).1; simpa using this
  have := h.rowObj' hj
  rw [Nat.zero_add, this]
  simp [hj] at hv
  simp [hj, ← hv]

theorem list_snoc_ne {a b : List Int} {k : Nat} (_ : k < a.length) (h : a.getD k 0 ≠ b.getD k 0) : a ≠ b := by rintro rfl; exact h rfl
theorem list_ext_getD {a b : List Int} (hl : a.length = b.length) (h : ∀ k, k < a.length → a.getD k 0 = b.getD k 0) : a = b := by
  refine List.ext_getElem hl fun k h1 h2 => ?_
  have := h k h1
  simpa [h1, h2] using this

set_option maxRecDepth 100000 in
set_option maxHeartbeats 1000000 in
theorem ints_any {R : Assn} {w : World} (h : Bears w R) {a b : List Int} {aa ba : Option Addr} {na nb ac bc : Nat} (ha : R.Tells (fun w => IntsIn w (.slice aa na ac) a)) (hb : R.Tells (fun w => IntsIn w (.slice ba nb bc) b)) (hl : na ≤ 9223372036854775806) (hl2 : nb ≤ 9223372036854775806) :
    Calls Try.prog 36 #[.slice aa na ac, .slice ba nb bc] w fun e w' => e = .returned (.bool (decide (a = b))) ∧ Bears w' R := by
  obtain ⟨_, _, e1, _⟩ := ha w h
  obtain ⟨_, _, e2, _⟩ := hb w h
  simp only [Value.slice.injEq] at e1 e2
  obtain ⟨-, rfl, -⟩ := e1
  obtain ⟨-, rfl, -⟩ := e2
  by_cases hne : a.length = b.length
  · have hd : ((a.length : Int) != (b.length : Int)) = false := by rw [bne_eq_false_iff_eq]; omega
    have Hne := Lib.hid hne
    have hle : a.length ≤ b.length := by omega
    clear hne
    go_enter Try.func36, Try.ntmps36
    go_wp2_with fail
    go_loopw [5] (fun i wr => ∃ k : Nat, k ≤ a.length ∧ i = .int .i64 k ∧ (∀ j, j < k → a.getD j 0 = b.getD j 0) ∧ Bears wr R) (fun i _ => a.length - (intOf i).toNat)
    case atStart => exact ⟨0, by omega, rfl, fun j hj => absurd hj (by omega), h⟩
    case round =>
      obtain ⟨k, hk, rfl, hall, h1⟩ := hrel
      have Hall := Lib.hid hall
      clear hall
      by_cases hlt : k < a.length
      · have hltb : k < b.length := Nat.lt_of_lt_of_le hlt hle
        obtain ⟨ga, oa, rfl, hra⟩ := (ha wr h1).at (by intro e; rw [e] at hlt; simp at hlt)
        obtain ⟨gb, ob, rfl, hrb⟩ := (hb wr h1).at (by intro e; rw [e] at hltb; simp at hltb)
        have ca : wr.cell? ⟨ga, oa + k, none⟩ = some (.int .i64 (a.getD k 0)) := hra k _ (by simp [hlt])
        have cb : wr.cell? ⟨gb, ob + k, none⟩ = some (.int .i64 (b.getD k 0)) := hrb k _ (by simp [Nat.lt_of_lt_of_le hlt hle])
        obtain ⟨x, hx⟩ : ∃ x, a.getD k 0 = x := ⟨_, rfl⟩
        obtain ⟨y, hy⟩ : ∃ y, b.getD k 0 = y := ⟨_, rfl⟩
        rw [hx] at ca
        rw [hy] at cb
        have Hx := Lib.hid hx
        have Hy := Lib.hid hy
        clear hx hy hra hrb
        have ca' : wr.drew.cell? ⟨ga, oa + k, none⟩ = some (.int .i64 x) := ca
        have cb' : wr.drew.cell? ⟨gb, ob + k, none⟩ = some (.int .i64 y) := cb
        by_cases hxy : x = y
        · have hn : (x != y) = false := by rw [bne_eq_false_iff_eq]; exact hxy
          have Hxy := Lib.hid hxy
          clear hxy
          go_wp2_with fail
          refine wp_region_tail 8 (by kernel_rfl) (by kernel_rfl) ?_
          simp only [List.take_succ_cons, List.take_zero, List.drop_succ_cons, List.drop_zero]
          iterate 8 still_step
          refine wpStill_nil ?_
          go_wp2_with fail
          go_roundw
          case rel =>
            refine ⟨k + 1, hlt, by go_num, fun j hj => ?_, h1.drew⟩
            rcases Nat.lt_succ_iff_lt_or_eq.1 hj with hj | rfl
            · exact Hall.out j hj
            · rw [Hx.out, Hy.out]; exact Hxy.out
          case measure => simp [intOf]; omega
        · have hn : (x != y) = true := by rw [bne_iff_ne]; exact hxy
          have hres : decide (a = b) = false := decide_eq_false (list_snoc_ne hlt (by rw [Hx.out, Hy.out]; exact hxy))
          clear hxy
          go_wp2_with fail
          refine wp_region_tail 8 (by kernel_rfl) (by kernel_rfl) ?_
          simp only [List.take_succ_cons, List.take_zero, List.drop_succ_cons, List.drop_zero]
          iterate 8 still_step
          refine wpStill_nil ?_
          go_wp2_with fail
          go_ret
          exact ⟨by rw [hres]; rfl, h1.drew⟩
      · obtain rfl : k = a.length := by omega
        have hres : decide (a = b) = true := decide_eq_true (list_ext_getD Hne.out Hall.out)
        go_wp2_with fail
        go_ret
        exact ⟨by rw [hres]; rfl, h1⟩
  · have hd : ((a.length : Int) != (b.length : Int)) = true := by rw [bne_iff_ne]; omega
    have hres : decide (a = b) = false := decide_eq_false (by rintro rfl; exact hne rfl)
    clear hne
    go_enter Try.func36, Try.ntmps36
    go_wp2_with fail
    go_ret
    exact ⟨by rw [hres]; rfl, h⟩

/-! ### What a commit lays down -/
def overL (F : Nat → Sec) (ls : List LineM) : Nat → Sec := fun i => match findL (i : Int) ls with | some y => if y.pin = true then y.b else F i | none => F i
theorem PutsOf.apply {l : List PutM} {ls : List LineM} (h : PutsOf l ls) (hn : (ls.map (·.at')).Nodup) (hp : ∀ y ∈ ls, y.pin = true → 0 ≤ y.at') (F : Nat → Sec) : applyPuts F l = overL F ls := by
  funext i
  unfold overL
  rcases applyPuts_or l i with ⟨q, hq, e, h1⟩ | ⟨h1, h2⟩
  · obtain ⟨y, hy, hyp, hya, hyb⟩ := h.bytes q hq
    have h0 := hp y hy hyp
    have : findL (i : Int) ls = some y := by
      have := findL_of_mem hn hy
      rwa [show y.at' = (i : Int) by omega] at this
    rw [h1, this]
    simp only [hyp, if_true, hyb]
  · rw [h2]
    cases hf : findL (i : Int) ls with
    | none => rfl
    | some y =>
      obtain ⟨hy, hya⟩ := findL_mem hf
      simp only
      split
      · rename_i hyp
        exfalso
        have : y.at' ∈ l.map (·.sector) := h.perm.mem_iff.2 (List.mem_map.2 ⟨y, List.mem_filter.2 ⟨hy, hyp⟩, rfl⟩)
        obtain ⟨q, hq, hqs⟩ := List.mem_map.1 this
        exact h1 q hq (by omega)
      · rfl

theorem wMayTo_of {len a s : Nat} : ∀ (l seen : List PutM), ((seen ++ l).map (·.sector)).Nodup → (∀ q ∈ l, ¬ ((a : Int) ≤ q.sector ∧ q.sector < a + s) ∧ 0 ≤ q.sector ∧ q.sector < len ∧ q.bytes.length = 64) → wMayTo len a s seen l = true
  | [], _, _, _ => rfl
  | q :: l, seen, hn, hq => by
    simp only [wMayTo, Bool.and_eq_true]
    refine ⟨?_, wMayTo_of l (seen ++ [q]) (by simpa using hn) (fun p hp => hq p (List.mem_cons_of_mem _ hp))⟩
    obtain ⟨h1, h2, h3, h4⟩ := hq q (by simp)
    unfold wOk
    have h5 : (seen.any fun p => p.sector == q.sector) = false := by
      rw [Bool.eq_false_iff]
      intro h
      obtain ⟨p, hp, he⟩ := List.any_eq_true.1 h
      rw [List.map_append, List.map_cons, List.nodup_append] at hn
      exact hn.2.2 p.sector (List.mem_map.2 ⟨p, hp, rfl⟩) q.sector (by simp) (by simpa using he)
    simp only [h5, Bool.not_false, Bool.true_and, Bool.and_eq_true, Bool.not_eq_true', decide_eq_true_eq, beq_iff_eq, Bool.and_eq_false_iff, decide_eq_false_iff_not]
    refine ⟨⟨⟨?_, h2⟩, h3⟩, h4⟩
    by_cases h : (a : Int) ≤ q.sector
    · exact .inr fun h' => h1 ⟨h, h'⟩
    · exact .inl h
/-- The pinned lines are a group. -/
structure PinsOk (len a s : Nat) (ls : List LineM) : Prop where
  out : ∀ y ∈ ls, y.pin = true → ¬ ((a : Int) ≤ y.at' ∧ y.at' < a + s) ∧ 0 ≤ y.at' ∧ y.at' < len
  few : (ls.filter (·.pin)).length ≤ roomN s
theorem PutsOf.length {l : List PutM} {ls : List LineM} (h : PutsOf l ls) : l.length = (ls.filter (·.pin)).length := by
  have := h.perm.length_eq
  simpa using this
theorem PutsOf.may {l : List PutM} {ls : List LineM} {len a s : Nat} (h : PutsOf l ls) (hn : (ls.map (·.at')).Nodup) (hb : ∀ y ∈ ls, y.b.length = 64) (hp : PinsOk len a s ls) : wMay len a s l = true := by
  unfold wMay
  rw [Bool.and_eq_true, decide_eq_true_eq, h.length]
  refine ⟨wMayTo_of l [] ?_ fun q hq => ?_, hp.few⟩
  · simp only [List.nil_append]
    exact h.perm.nodup_iff.2 ((List.filter_sublist.map _).nodup hn)
  · obtain ⟨y, hy, hyp, hya, hyb⟩ := h.bytes q hq
    obtain ⟨h1, h2, h3⟩ := hp.out y hy hyp
    rw [← hya, ← hyb]
    exact ⟨h1, h2, h3, hb y hy⟩
theorem PutsOf.mayOnly {l : List PutM} {ls : List LineM} {len a s : Nat} (h : PutsOf l ls) (hm : wMay len a s l = true) : PinsOk len a s ls := by
  have hg := GroupOk.of hm
  refine ⟨fun y hy hyp => ?_, by rw [← h.length]; exact hg.room⟩
  have : y.at' ∈ l.map (·.sector) := h.perm.mem_iff.2 (List.mem_map.2 ⟨y, List.mem_filter.2 ⟨hy, hyp⟩, rfl⟩)
  obtain ⟨q, hq, hqs⟩ := List.mem_map.1 this
  obtain ⟨_, h1, h2, h3⟩ := hg.ok q hq
  rw [← hqs]
  exact ⟨h3, h1, h2⟩

set_option maxHeartbeats 400000 in
/-- A commit on a log at rest. -/
theorem ccommit_log {c p x a s g : Nat} {F : Nat → Sec} {cm : CacheM} {d : DiskM} {R : Assn} {w : World} (h : Bears w (cacheA c p x cm * (walObj x p a s (g : Int) * (diskA p d * R)))) (ho : cm.isOpen = true) (hL : LogOn d a s g F) (hf : d.fuse = -1)
    (hg : g < 4611686018427387904) (hlen : cm.lines.length < 1099511627775) :
    Calls Try.prog 32 #[.pointer (some ⟨c, 0, none⟩)] w fun e w' =>
      (e = .returned (.int .i64 0) ∧ PinsOk d.len a s cm.lines ∧ ∃ l d', wCommit d a s g l = (0, ((g + 1 : Nat) : Int), d') ∧ LogOn d' a s (g + 1) (overL F cm.lines) ∧ d'.fuse = -1 ∧ d'.len = d.len ∧ l.length = (cm.lines.filter (·.pin)).length ∧
        Bears w' (cacheA c p x cm.commits * (walObj x p a s ((g + 1 : Nat) : Int) * (diskA p d' * R)))) ∨
      (e = .returned (.int .i64 20) ∧ ¬ PinsOk d.len a s cm.lines ∧ Bears w' (cacheA c p x cm * (walObj x p a s (g : Int) * (diskA p d * R)))) := by
  obtain ⟨_, _, _, _, _, _, hwf, _⟩ := Bears.cache.1 h
  refine (ccommit_open h ho (by have := hL.place; have := hL.len; omega) (by have := hL.place; have := hL.len; omega) (hL.few _ (by decide)) hlen).mono ?_
  rintro e w' ⟨l, r, g', d', hP, hc, rfl, h2⟩
  cases hm : wMay d.len a s l with
  | true =>
    left
    have hok := hP.mayOnly hm
    obtain ⟨d2, h3, h4, h5, h6⟩ := hL.commits hf (by omega) hm
    rw [h3] at hc
    obtain ⟨rfl, rfl, rfl⟩ : (0 : Int) = r ∧ ((g + 1 : Nat) : Int) = g' ∧ d2 = d' := by simpa using hc
    rw [hP.apply hwf.nodup (fun y hy hp => (hok.out y hy hp).2.1)] at h4
    exact ⟨rfl, hok, l, d2, h3, h4, h5, h6, hP.length, by simpa using h2⟩
  | false =>
    right
    rw [wCommit_no hm] at hc
    obtain ⟨rfl, rfl, rfl⟩ : (20 : Int) = r ∧ (g : Int) = g' ∧ d = d' := by simpa using hc
    refine ⟨rfl, fun hok => ?_, by simpa using h2⟩
    rw [hP.may hwf.nodup hwf.bytes hok] at hm
    cases hm

set_option maxRecDepth 100000 in
set_option maxHeartbeats 400000 in
theorem ground3_any {R : Assn} {w : World} (h : Bears w R) (most : Int) (hm : 1 ≤ most ∧ most ≤ 9223372036854775807) :
    Calls Try.prog 23 #[.int .i64 most] w fun e w' => ∃ p c x d, e = .returned (.tuple #[.pointer (some ⟨p, 0, none⟩), .pointer (some ⟨c, 0, none⟩)]) ∧
      LogOn d 0 40 0 (fun _ => zeroSec) ∧ d.len = 100 ∧ d.fuse = -1 ∧ 0 ≤ d.steps ∧ d.steps ≤ 1000 ∧ Bears w' (cacheA c p x (CacheM.new most) * (walObj x p 0 40 0 * (diskA p d * R))) := by
  obtain ⟨d1, f1, l1, u1, n1⟩ := formats (d := DiskM.new 100) (a := 0) (s := 40) (F := fun _ => zeroSec) rfl rfl (by decide) (by decide) (by decide) (fun i _ => rfl)
  obtain ⟨f2, f3⟩ := l1.opens (by decide)
  have hst : 0 ≤ d1.steps ∧ d1.steps ≤ 1000 := by
    have : d1 = (wFormat (DiskM.new 100) 0 40).2 := by
      have := congrArg Prod.snd f1
      exact this.symm
    subst this
    simp [wFormat, wThere, wBoth, DiskM.new, DiskM.barrier, DiskM.write, DiskM.step, DiskM.check, headB_length, wrap64]
  have F1 := Lib.hid f1
  have F2 := Lib.hid f2
  have F3 := Lib.hid f3
  clear f1 f2 f3
  obtain ⟨m1, m2⟩ := hm
  go_enter Try.func23, Try.ntmps23
  go_wp2_with fail
  refine (new_ok h 100 (by omega) (by omega)).mono ?_
  rintro e w1 ⟨p, rfl, h1⟩
  go_wp2_with fail
  refine (format_to h1 F1.out (by omega) (by omega) (by decide)).mono ?_
  rintro e w2 ⟨rfl, h2⟩
  go_wp2_with fail
  refine (open_yes h2 F2.out F3.out (by omega) (by omega) (l1.few _ (by decide))).mono ?_
  rintro e w3 ⟨x, rfl, h3⟩
  go_wp2_with fail
  refine (cnew_ok h3 p x most m1 m2).mono ?_
  rintro e w4 ⟨c, rfl, h4⟩
  go_wp2_with fail
  go_ret2
  exact ⟨p, c, x, d1, rfl, l1, n1, u1, hst.1, hst.2, h4⟩

end Go.Proofs.Ytggbnelbnbaoiaa

/- Walks of the document's cache, part 5: Commit; no condition. -/
namespace Go.Proofs.Ytggbnelbnbaoiaa
open Go.RowKit Go.MapKept

/-! ### A cell of a row of any width -/
theorem Bears.rowCellN {w : World} {e : TypeId} {size g c n : Nat} {xs : List Value} {R : Assn} (h : Bears w (rowA e size (.slice (some ⟨g, 0, none⟩) n c) n xs * R)) {i : Nat} {v : Value} (hv : xs[i]? = some v) : w.cell? ⟨g, i, none⟩ = some v ∧ w.frozen? ⟨g, i, none⟩ = false := by
  obtain ⟨_, h⟩ := h.row
  rcases h with ⟨h, _⟩ | ⟨g', cap, cur, hv2, _, hg, hn, hm, hs, ht⟩
  · cases h
  · simp only [Value.slice.injEq, Option.some.injEq, Addr.mk.injEq] at hv2
    obtain ⟨⟨rfl, _⟩, _, rfl⟩ := hv2
    refine ⟨?_, frozen_of_obj hg i⟩
    rw [cell_of_obj hg]
    rw [← ht, List.getElem?_take] at hv
    split at hv
    · simpa using hv
    · cases hv
theorem Bears.rowSetN {w : World} {e : TypeId} {size g c n : Nat} {xs : List Value} {R : Assn} (h : Bears w (rowA e size (.slice (some ⟨g, 0, none⟩) n c) n xs * R)) (i : Nat) (v : Value) :
    Bears (w.setCell ⟨g, i, none⟩ v) (rowA e size (.slice (some ⟨g, 0, none⟩) n c) n (xs.set i v) * R) := by
  obtain ⟨F, G, H, ⟨⟨hl, hr⟩, rfl⟩, hR, hd, rfl⟩ := h
  rcases hr with ⟨h, _⟩ | ⟨g', cap, cur, hv, hb, hg, hn, hm, hs, ht⟩
  · cases h
  · simp only [Value.slice.injEq, Option.some.injEq, Addr.mk.injEq] at hv
    obtain ⟨⟨rfl, _⟩, _, rfl⟩ := hv
    refine ⟨_, _, H, ⟨⟨by simpa using hl, .inr ⟨g, c, cur.setIfInBounds i v, rfl, hb, ?_, hn, hm, by simpa using hs, ?_⟩⟩, rfl⟩, R.loc hR ⟨rfl, rfl, rfl, by simp⟩ (fun b hb => Below.heap_setCell _ _ _ _ (fun e => hd b (by rw [e]; rfl) hb)), hd, rfl⟩
    · simp [World.setCell, Array.getElem?_modify, hg]
    · rw [Array.toList_setIfInBounds, List.take_set, ht]

/-! ### The lines, the first k unpinned -/
def unpinX (x : Value × LineM) : Value × LineM := (x.1, { x.2 with pin := false })
def unpinTo (k : Nat) (xs : List (Value × LineM)) : List (Value × LineM) := (xs.take k).map unpinX ++ xs.drop k
theorem unpinTo_length (k : Nat) (xs : List (Value × LineM)) : (unpinTo k xs).length = xs.length := by
  unfold unpinTo
  rw [List.length_append, List.length_map, List.length_take, List.length_drop]
  omega
theorem unpinTo_succ {k : Nat} {xs : List (Value × LineM)} (hk : k < xs.length) : unpinTo (k + 1) xs = (xs.take k).map unpinX ++ (unpinX (xs.getD k default) :: xs.drop (k + 1)) := by
  unfold unpinTo
  rw [take_snoc hk, List.map_append, List.append_assoc]
  rfl
theorem unpinTo_at {k : Nat} {xs : List (Value × LineM)} (hk : k < xs.length) : unpinTo k xs = (xs.take k).map unpinX ++ (xs.getD k default :: xs.drop (k + 1)) := by
  unfold unpinTo
  rw [List.drop_eq_getElem_cons hk, List.getD_eq_getElem?_getD, List.getElem?_eq_getElem hk]
  rfl
theorem unpinTo_same {k : Nat} {xs : List (Value × LineM)} (hk : k < xs.length) (h : (xs.getD k default).2.pin = false) : unpinTo (k + 1) xs = unpinTo k xs := by
  rw [unpinTo_succ hk, unpinTo_at hk]
  congr 2
  unfold unpinX
  rw [← h]
theorem lineCells_cons (x : Value × LineM) (xs : List (Value × LineM)) : lineCells (x :: xs) = [.int .i64 x.2.at', x.1, .bool x.2.pin] ++ lineCells xs := rfl
theorem unpinTo_set {k : Nat} {xs : List (Value × LineM)} (hk : k < xs.length) : (lineCells (unpinTo k xs)).set (k * 3 + 2) (.bool false) = lineCells (unpinTo (k + 1) xs) := by
  rw [unpinTo_succ hk, unpinTo_at hk, lineCells_append, lineCells_append, lineCells_cons, lineCells_cons]
  have hl : (lineCells ((xs.take k).map unpinX)).length = k * 3 := by rw [lineCells_length, List.length_map, List.length_take]; omega
  rw [List.set_append_right _ _ (by omega), show k * 3 + 2 - (lineCells ((xs.take k).map unpinX)).length = 2 by omega]
  rfl
theorem unpinTo_cells {k : Nat} {xs : List (Value × LineM)} (hk : k < xs.length) : (lineCells (unpinTo k xs))[k * 3]? = some (.int .i64 (xs.getD k default).2.at') ∧ (lineCells (unpinTo k xs))[k * 3 + 1]? = some (xs.getD k default).1 ∧ (lineCells (unpinTo k xs))[k * 3 + 2]? = some (.bool (xs.getD k default).2.pin) := by
  have hl : (lineCells ((xs.take k).map unpinX)).length = k * 3 := by rw [lineCells_length, List.length_map, List.length_take]; omega
  rw [unpinTo_at hk, lineCells_append, lineCells_cons]
  refine ⟨?_, ?_, ?_⟩
  · rw [List.getElem?_append_right (by omega), hl, Nat.sub_self]; rfl
  · rw [List.getElem?_append_right (by omega), hl, show k * 3 + 1 - k * 3 = 1 by omega]; rfl
  · rw [List.getElem?_append_right (by omega), hl, show k * 3 + 2 - k * 3 = 2 by omega]; rfl
theorem unpinTo_zero (xs : List (Value × LineM)) : unpinTo 0 xs = xs := rfl
theorem unpinTo_all (xs : List (Value × LineM)) : unpinTo xs.length xs = xs.map unpinX := by
  unfold unpinTo
  rw [List.take_length, List.drop_length, List.append_nil]
theorem unpin_snd {xs : List (Value × LineM)} {ls : List LineM} (h : xs.map Prod.snd = ls) : (xs.map unpinX).map Prod.snd = unpinL ls := by
  rw [← h]
  unfold unpinL
  simp only [List.map_map]
  rfl

/-- The writes of the pinned lines. -/
def pinPuts (ls : List LineM) : List (Nat × Sec) := (ls.filter (·.pin)).map fun y => (y.at'.toNat, y.b)
theorem pinPuts_snoc (ls : List LineM) (y : LineM) : pinPuts (ls ++ [y]) = pinPuts ls ++ if y.pin = true then [(y.at'.toNat, y.b)] else [] := by
  unfold pinPuts
  rw [filter_snoc, List.map_append]
  split <;> rfl
theorem settle_pins {f : Nat → Sec} {ls : List LineM} (hnd : (ls.map (·.at')).Nodup) (hp : ∀ y ∈ ls, y.pin = true → 0 ≤ y.at') : ∀ k, k ≤ ls.length → settle f (pinPuts (ls.take k)) = overL f (ls.take k) := by
  intro k
  induction k with
  | zero => intro _; rfl
  | succ k ih =>
    intro hk
    have hlt : k < ls.length := hk
    have hm := getDmem hlt
    have hnd' : ((ls.take (k + 1)).map (·.at')).Nodup := (List.take_sublist _ _).map _ |>.nodup hnd
    rw [take_snoc hlt] at hnd' ⊢
    have hpy := hp _ hm
    generalize ls.getD k default = y at hnd' hpy
    rw [pinPuts_snoc]
    have ih := ih (by omega)
    rw [List.map_append, List.nodup_append] at hnd'
    have hno : ∀ j, y.at' = j → findL j (ls.take k) = none := by
      intro j hj
      refine findL_not (fun i hi e => ?_)
      refine hnd'.2.2 ((ls.take k).getD i default).at' (List.mem_map.2 ⟨_, getDmem hi, rfl⟩) y.at' (by simp) (by rw [e, hj])
    funext i
    cases hy : y.pin with
    | true =>
      rw [if_pos rfl, settle_append, ih]
      unfold updS overL
      rw [findL_snoc]
      have h0 := hpy hy
      by_cases e : i = y.at'.toNat
      · have e2 : y.at' = (i : Int) := by omega
        rw [if_pos e, hno _ e2]
        simp [e2, hy]
      · have e2 : ¬ y.at' = (i : Int) := by omega
        rw [if_neg e]
        cases hf : findL (i : Int) (ls.take k) with
        | none => simp [e2]
        | some z => simp
    | false =>
      rw [if_neg (by decide), List.append_nil, ih]
      unfold overL
      rw [findL_snoc]
      by_cases e2 : y.at' = (i : Int)
      · rw [hno _ e2]
        simp [e2, hy]
      · cases hf : findL (i : Int) (ls.take k) with
        | none => simp [e2]
        | some z => simp

end Go.Proofs.Ytggbnelbnbaoiaa

/- Walks of the document's cache, part 6: Commit; no condition. -/
namespace Go.Proofs.Ytggbnelbnbaoiaa
open Go.RowKit Go.MapKept

theorem write_pins {dr : DiskM} (hoff : dr.off = false) (hfu : dr.fuse = -1) {ws : List (Nat × Sec)} {st i : Int} {b : Sec} (h0 : 0 ≤ i) (h1 : i < dr.len) (h64 : b.length = 64) :
    ({ dr with waits := ws, steps := st } : DiskM).write i b = (0, { dr with waits := ws ++ [(i.toNat, b)], steps := wrap64 (st + 1) }) := by
  have h2 : ¬ (i < 0 ∨ (dr.len : Int) ≤ i) := by omega
  simp [DiskM.write, DiskM.check, DiskM.step, hoff, hfu, h2, h64]
theorem barrier_pins {dr : DiskM} (hoff : dr.off = false) (hfu : dr.fuse = -1) {ws : List (Nat × Sec)} {st : Int} :
    ({ dr with waits := ws, steps := st } : DiskM).barrier = (0, { dr with sure := settle dr.sure ws, waits := [], steps := wrap64 (st + 1) }) := by
  simp [DiskM.barrier, DiskM.step, DiskM.now, hoff, hfu]
theorem room40 : roomN 40 = 37 := by decide

section
variable {y yd : Nat} {Y R : Assn} {cm : CacheM} {dr : DiskM} {w : World}

set_option maxHeartbeats 400000 in
theorem rccommit_no (h : Bears w (refC y yd Y cm dr * R)) (ho : cm.isOpen = false) :
    Calls Try.prog 33 #[.pointer (some ⟨y, 0, none⟩)] w fun e w' => e = .returned (.int .i64 30) ∧ Bears w' (refC y yd Y cm dr * R) := by
  obtain ⟨xs, lv, g, hxs, hl, h1⟩ := Bears.rc.1 h
  obtain ⟨_, _, _, _, _, _, c6, _, _, hf⟩ := h1.rcCells
  rw [ho] at c6
  clear hl hxs hf h1 ho
  go_enter Try.func33, Try.ntmps33
  go_wp2_with fail
  go_ret
  exact ⟨rfl, h⟩

set_option maxRecDepth 100000 in
set_option maxHeartbeats 1000000 in
theorem rccommit_any (h : Bears w (refC y yd Y cm dr * (Y * R))) (ho : cm.isOpen = true) (hnd : (cm.lines.map (·.at')).Nodup) (hlen : cm.lines.length < 1099511627000) (hoff : dr.off = false) (hfu : dr.fuse = -1) (hw : dr.waits = [])
    (hp : ∀ z ∈ cm.lines, z.pin = true → 0 ≤ z.at' ∧ z.at' < dr.len) (h64 : ∀ z ∈ cm.lines, z.b.length = 64) :
    Calls Try.prog 33 #[.pointer (some ⟨y, 0, none⟩)] w fun e w' =>
      (e = .returned (.int .i64 0) ∧ PinsOk dr.len 0 40 cm.lines ∧ ∃ Z dr', dr'.off = false ∧ dr'.fuse = -1 ∧ dr'.waits = [] ∧ dr'.len = dr.len ∧ dr'.sure = overL dr.sure cm.lines ∧ Bears w' (refC y yd (Z * Y) cm.commits dr' * ((Z * Y) * R))) ∨
      (e = .returned (.int .i64 20) ∧ ¬ PinsOk dr.len 0 40 cm.lines ∧ Bears w' (refC y yd Y cm dr * (Y * R))) := by
  obtain ⟨xs, lv, g, hxs, hl, h1⟩ := Bears.rc.1 h
  obtain ⟨la, lc, rfl, hlc⟩ := hl.form
  have hxl : xs.length = cm.lines.length := by rw [← hxs]; simp
  obtain ⟨c0, c1, c2, c3, _, _, c6, c7, c8, _⟩ := h1.rcCells
  rw [ho] at c6
  obtain ⟨i0, hi0, hz0, hz1, hz2⟩ := info_parts i_line
  have hpx : ∀ k, k < xs.length → (xs.getD k default).2.pin = true → 0 ≤ (xs.getD k default).2.at' ∧ (xs.getD k default).2.at' < dr.len := fun k hk => hp _ (by rw [← hxs]; exact List.mem_map.2 ⟨_, getDmem hk, rfl⟩)
  have h6x : ∀ k, k < xs.length → (xs.getD k default).2.b.length = 64 := fun k hk => h64 _ (by rw [← hxs]; exact List.mem_map.2 ⟨_, getDmem hk, rfl⟩)
  have hfn : (xs.filter (·.2.pin)).length = (cm.lines.filter (·.pin)).length := by
    rw [← hxs, List.filter_map, List.length_map]
    rfl
  have Hl := Lib.hid hl
  have Hxs := Lib.hid hxs
  have Hfn := Lib.hid hfn
  have Hp := Lib.hid hp
  have Hpx := Lib.hid hpx
  have H6x := Lib.hid h6x
  have Hnd := Lib.hid hnd
  have Hoff := Lib.hid hoff
  have Hfu := Lib.hid hfu
  have Hw := Lib.hid hw
  have Ho := Lib.hid ho
  have hxn : xs.length < 1099511627000 := by omega
  clear hl hxs hfn hp hpx h6x h64 hnd hoff hfu hw ho hxl hlen
  go_enter Try.func33, Try.ntmps33
  go_upto_block 0 with (fail)
  go_cut [3] (fun v wr => v = .int .i64 ((xs.filter (·.2.pin)).length : Nat) ∧ (∀ j, j < xs.length → (xs.getD j default).2.pin = true → 40 ≤ (xs.getD j default).2.at') ∧ Bears wr (rcObj y yd cm.most cm.misses cm.isOpen (.slice la xs.length lc) g * (refA yd Y dr * (Y * R))))
  case first =>
    clear c6
    go_wp2_with fail
    go_loopw [3, 4] (fun v iv wr => ∃ (k m : Nat), k ≤ xs.length ∧ iv = .int .i64 k ∧ m = ((xs.take k).filter (·.2.pin)).length ∧ v = .int .i64 m ∧ (∀ j, j < k → (xs.getD j default).2.pin = true → 40 ≤ (xs.getD j default).2.at') ∧
      Bears wr (rcObj y yd cm.most cm.misses cm.isOpen (.slice la xs.length lc) g * (refA yd Y dr * (Y * R)))) (fun _ iv _ => xs.length - (intOf iv).toNat)
    case atStart => exact ⟨0, 0, by omega, rfl, rfl, rfl, by omega, h1⟩
    case round =>
      clear h1 h c0 c1 c2 c3 c7 c8
      obtain ⟨k, m, hk, rfl, hm, rfl, hout, h2⟩ := hrel
      obtain ⟨c0, c1, c2, c3, _, _, c6, c7, c8, _⟩ := h2.rcCells
      have hml : m ≤ xs.length := by
        rw [hm]
        have := List.length_filter_le (fun x : Value × LineM => x.2.pin) (xs.take k)
        rw [List.length_take] at this
        omega
      have Hm := Lib.hid hm
      have Hout := Lib.hid hout
      clear hm hout
      by_cases hlt : k < xs.length
      · have hltI : (k : Int) < (xs.length : Int) := by omega
        obtain ⟨q0, q1, q2⟩ := lineCells_at hlt
        obtain ⟨lb, lo, rfl, m0⟩ := (Hl.out.tells _ h2.right.right.left).cell q0
        obtain ⟨_, _, e9, m2⟩ := (Hl.out.tells _ h2.right.right.left).cell q2
        cases e9
        have hos := filter_snoc (fun x : Value × LineM => x.2.pin) (xs.take k) (xs.getD k default)
        rw [← take_snoc hlt] at hos
        have hpk := Hpx.out k hlt
        obtain ⟨z, hz⟩ : ∃ z, xs.getD k default = z := ⟨_, rfl⟩
        rw [hz] at m0 m2 hos hpk
        have Hz := Lib.hid hz
        obtain ⟨pv, zat, zb, zp⟩ := z
        simp only at m0 m2 hos hpk
        have m0' : wr.cell? ⟨lb, lo + k * 3, none⟩ = some (.int .i64 zat) := m0
        have m2' : wr.cell? ⟨lb, lo + k * 3 + 2, none⟩ = some (.bool zp) := m2
        have Hos := Lib.hid hos
        clear q0 q1 q2 m0 m2 hz hos
        cases zp with
        | true =>
          obtain ⟨ha0, ha1⟩ := hpk rfl
          clear hpk
          have hge : decide (zat ≥ 0) = true := decide_eq_true ha0
          have hw40 : IntKind.i64.wrap 40 = 40 := by decide
          by_cases h40 : zat < 40
          · have hd : decide (zat < 40) = true := decide_eq_true h40
            go_wp2_with fail
            refine wp_region_L (fun w' => w'.cell? ⟨y, 7, none⟩ = some (.slice (some ⟨lb, lo, none⟩) xs.length lc) ∧ w'.cell? ⟨y, 1, none⟩ = some (.int .i64 0) ∧ w'.cell? ⟨y, 2, none⟩ = some (.int .i64 40) ∧ w'.cell? ⟨lb, lo + k * 3, none⟩ = some (.int .i64 zat)) 33
              [(true, 0), (true, 1), (true, 2), (true, 3), (true, 4), (true, 5), (true, 6), (true, 7), (true, 8), (true, 9), (true, 10), (true, 11), (true, 12), (true, 13), (true, 14), (true, 15), (true, 16), (true, 17), (true, 18), (true, 19), (true, 20), (true, 21), (true, 22), (true, 23), (true, 24), (true, 25), (true, 26), (true, 27), (true, 28), (true, 29), (true, 30), (true, 31), (true, 32)] [] (by kernel_rfl) (by kernel_rfl) ⟨c7, c1, c2, m0'⟩ ?_
            simp only [pick, List.getElem?_cons_zero, List.getElem?_cons_succ]
            refine wpL_yield (v := ?_) rfl (fun w' hS => ?_) ?_
            rotate_left
            · (obtain ⟨s7, s1, s2, s0⟩ := hS; go_simp; try with_reducible rfl)
            simp only [Act.put, List.setIfInBounds_toArray, List.set_cons_zero, List.set_cons_succ]
            refine wpL_yield (v := ?_) rfl (fun w' hS => ?_) ?_
            rotate_left
            · (obtain ⟨s7, s1, s2, s0⟩ := hS; go_simp; try with_reducible rfl)
            simp only [Act.put, List.setIfInBounds_toArray, List.set_cons_zero, List.set_cons_succ]
            refine wpL_yield (v := ?_) rfl (fun w' hS => ?_) ?_
            rotate_left
            · (obtain ⟨s7, s1, s2, s0⟩ := hS; go_simp; try with_reducible rfl)
            simp only [Act.put, List.setIfInBounds_toArray, List.set_cons_zero, List.set_cons_succ]
            refine wpL_yield (v := ?_) rfl (fun w' hS => ?_) ?_
            rotate_left
            · (obtain ⟨s7, s1, s2, s0⟩ := hS; go_simp; try with_reducible rfl)
            simp only [Act.put, List.setIfInBounds_toArray, List.set_cons_zero, List.set_cons_succ]
            refine wpL_yield (v := ?_) rfl (fun w' hS => ?_) ?_
            rotate_left
            · (obtain ⟨s7, s1, s2, s0⟩ := hS; go_simp; try with_reducible rfl)
            simp only [Act.put, List.setIfInBounds_toArray, List.set_cons_zero, List.set_cons_succ]
            refine wpL_yield (v := ?_) rfl (fun w' hS => ?_) ?_
            rotate_left
            · (obtain ⟨s7, s1, s2, s0⟩ := hS; go_simp; try with_reducible rfl)
            simp only [Act.put, List.setIfInBounds_toArray, List.set_cons_zero, List.set_cons_succ]
            refine wpL_yield (v := ?_) rfl (fun w' hS => ?_) ?_
            rotate_left
            · (obtain ⟨s7, s1, s2, s0⟩ := hS; go_simp; try with_reducible rfl)
            simp only [Act.put, List.setIfInBounds_toArray, List.set_cons_zero, List.set_cons_succ]
            refine wpL_yield (v := ?_) rfl (fun w' hS => ?_) ?_
            rotate_left
            · (obtain ⟨s7, s1, s2, s0⟩ := hS; go_simp; try with_reducible rfl)
            simp only [Act.put, List.setIfInBounds_toArray, List.set_cons_zero, List.set_cons_succ]
            refine wpL_yield (v := ?_) rfl (fun w' hS => ?_) ?_
            rotate_left
            · (obtain ⟨s7, s1, s2, s0⟩ := hS; go_simp; try with_reducible rfl)
            simp only [Act.put, List.setIfInBounds_toArray, List.set_cons_zero, List.set_cons_succ]
            refine wpL_yield (v := ?_) rfl (fun w' hS => ?_) ?_
            rotate_left
            · (obtain ⟨s7, s1, s2, s0⟩ := hS; go_simp; try with_reducible rfl)
            simp only [Act.put, List.setIfInBounds_toArray, List.set_cons_zero, List.set_cons_succ]
            refine wpL_yield (v := ?_) rfl (fun w' hS => ?_) ?_
            rotate_left
            · (obtain ⟨s7, s1, s2, s0⟩ := hS; go_simp; try with_reducible rfl)
            simp only [Act.put, List.setIfInBounds_toArray, List.set_cons_zero, List.set_cons_succ]
            refine wpL_yield (v := ?_) rfl (fun w' hS => ?_) ?_
            rotate_left
            · (obtain ⟨s7, s1, s2, s0⟩ := hS; go_simp; try with_reducible rfl)
            simp only [Act.put, List.setIfInBounds_toArray, List.set_cons_zero, List.set_cons_succ]
            refine wpL_yield (v := ?_) rfl (fun w' hS => ?_) ?_
            rotate_left
            · (obtain ⟨s7, s1, s2, s0⟩ := hS; go_simp; try with_reducible rfl)
            simp only [Act.put, List.setIfInBounds_toArray, List.set_cons_zero, List.set_cons_succ]
            refine wpL_yield (v := ?_) rfl (fun w' hS => ?_) ?_
            rotate_left
            · (obtain ⟨s7, s1, s2, s0⟩ := hS; go_simp; try with_reducible rfl)
            simp only [Act.put, List.setIfInBounds_toArray, List.set_cons_zero, List.set_cons_succ]
            refine wpL_guarded (v := ?_) rfl (fun w' hS => ?_) ?_
            rotate_left
            · (obtain ⟨s7, s1, s2, s0⟩ := hS; go_simp; try with_reducible rfl)
            simp only [Act.put, List.setIfInBounds_toArray, List.set_cons_zero, List.set_cons_succ]
            refine wpL_guarded (v := ?_) rfl (fun w' hS => ?_) ?_
            rotate_left
            · (obtain ⟨s7, s1, s2, s0⟩ := hS; go_simp; try with_reducible rfl)
            simp only [Act.put, List.setIfInBounds_toArray, List.set_cons_zero, List.set_cons_succ]
            refine wpL_guarded (v := ?_) rfl (fun w' hS => ?_) ?_
            rotate_left
            · (obtain ⟨s7, s1, s2, s0⟩ := hS; go_simp; try with_reducible rfl)
            simp only [Act.put, List.setIfInBounds_toArray, List.set_cons_zero, List.set_cons_succ]
            refine wpL_guarded (v := ?_) rfl (fun w' hS => ?_) ?_
            rotate_left
            · (obtain ⟨s7, s1, s2, s0⟩ := hS; go_simp; try with_reducible rfl)
            simp only [Act.put, List.setIfInBounds_toArray, List.set_cons_zero, List.set_cons_succ]
            refine wpL_guarded (v := ?_) rfl (fun w' hS => ?_) ?_
            rotate_left
            · (obtain ⟨s7, s1, s2, s0⟩ := hS; go_simp; try with_reducible rfl)
            simp only [Act.put, List.setIfInBounds_toArray, List.set_cons_zero, List.set_cons_succ]
            refine wpL_guarded (v := ?_) rfl (fun w' hS => ?_) ?_
            rotate_left
            · (obtain ⟨s7, s1, s2, s0⟩ := hS; go_simp; try with_reducible rfl)
            simp only [Act.put, List.setIfInBounds_toArray, List.set_cons_zero, List.set_cons_succ]
            refine wpL_guarded (v := ?_) rfl (fun w' hS => ?_) ?_
            rotate_left
            · (obtain ⟨s7, s1, s2, s0⟩ := hS; go_simp; try with_reducible rfl)
            simp only [Act.put, List.setIfInBounds_toArray, List.set_cons_zero, List.set_cons_succ]
            refine wpL_guarded (v := ?_) rfl (fun w' hS => ?_) ?_
            rotate_left
            · (obtain ⟨s7, s1, s2, s0⟩ := hS; go_simp; try with_reducible rfl)
            simp only [Act.put, List.setIfInBounds_toArray, List.set_cons_zero, List.set_cons_succ]
            refine wpL_guarded (v := ?_) rfl (fun w' hS => ?_) ?_
            rotate_left
            · (obtain ⟨s7, s1, s2, s0⟩ := hS; go_simp; try with_reducible rfl)
            simp only [Act.put, List.setIfInBounds_toArray, List.set_cons_zero, List.set_cons_succ]
            refine wpL_guarded (v := ?_) rfl (fun w' hS => ?_) ?_
            rotate_left
            · (obtain ⟨s7, s1, s2, s0⟩ := hS; go_simp; try with_reducible rfl)
            simp only [Act.put, List.setIfInBounds_toArray, List.set_cons_zero, List.set_cons_succ]
            refine wpL_guarded (v := ?_) rfl (fun w' hS => ?_) ?_
            rotate_left
            · (obtain ⟨s7, s1, s2, s0⟩ := hS; go_simp; try with_reducible rfl)
            simp only [Act.put, List.setIfInBounds_toArray, List.set_cons_zero, List.set_cons_succ]
            refine wpL_guarded (v := ?_) rfl (fun w' hS => ?_) ?_
            rotate_left
            · (obtain ⟨s7, s1, s2, s0⟩ := hS; go_simp; try with_reducible rfl)
            simp only [Act.put, List.setIfInBounds_toArray, List.set_cons_zero, List.set_cons_succ]
            refine wpL_guarded (v := ?_) rfl (fun w' hS => ?_) ?_
            rotate_left
            · (obtain ⟨s7, s1, s2, s0⟩ := hS; go_simp; try with_reducible rfl)
            simp only [Act.put, List.setIfInBounds_toArray, List.set_cons_zero, List.set_cons_succ]
            refine wpL_guarded (v := ?_) rfl (fun w' hS => ?_) ?_
            rotate_left
            · (obtain ⟨s7, s1, s2, s0⟩ := hS; go_simp; try with_reducible rfl)
            simp only [Act.put, List.setIfInBounds_toArray, List.set_cons_zero, List.set_cons_succ]
            refine wpL_guarded (v := ?_) rfl (fun w' hS => ?_) ?_
            rotate_left
            · (obtain ⟨s7, s1, s2, s0⟩ := hS; go_simp; try with_reducible rfl)
            simp only [Act.put, List.setIfInBounds_toArray, List.set_cons_zero, List.set_cons_succ]
            refine wpL_guarded (v := ?_) rfl (fun w' hS => ?_) ?_
            rotate_left
            · (obtain ⟨s7, s1, s2, s0⟩ := hS; go_simp; try with_reducible rfl)
            simp only [Act.put, List.setIfInBounds_toArray, List.set_cons_zero, List.set_cons_succ]
            refine wpL_guarded (v := ?_) rfl (fun w' hS => ?_) ?_
            rotate_left
            · (obtain ⟨s7, s1, s2, s0⟩ := hS; go_simp; try with_reducible rfl)
            simp only [Act.put, List.setIfInBounds_toArray, List.set_cons_zero, List.set_cons_succ]
            refine wpL_guarded (v := ?_) rfl (fun w' hS => ?_) ?_
            rotate_left
            · (obtain ⟨s7, s1, s2, s0⟩ := hS; go_simp; try with_reducible rfl)
            simp only [Act.put, List.setIfInBounds_toArray, List.set_cons_zero, List.set_cons_succ]
            refine wpL_yield (v := ?_) rfl (fun w' hS => ?_) ?_
            rotate_left
            · (go_simp; try with_reducible rfl)
            simp only [Act.put, List.setIfInBounds_toArray, List.set_cons_zero, List.set_cons_succ]
            refine wpL_nil ?_
            refine wpL_nil ?_
            go_wp2_with fail
            go_ret
            refine .inr ⟨rfl, fun hP => ?_, Bears.rc.2 ⟨xs, _, g, Hxs.out, Hl.out, h2.drew⟩⟩
            have hz := Hz.out
            have hmem := getDmem hlt
            rw [hz] at hmem
            have := (hP.out ⟨zat, zb, true⟩ (by rw [← Hxs.out]; exact List.mem_map.2 ⟨_, hmem, rfl⟩) rfl).1
            simp only at this
            omega
          · have hd : decide (zat < 40) = false := decide_eq_false h40
            go_wp2_with fail
            refine wp_region_L (fun w' => w'.cell? ⟨y, 7, none⟩ = some (.slice (some ⟨lb, lo, none⟩) xs.length lc) ∧ w'.cell? ⟨y, 1, none⟩ = some (.int .i64 0) ∧ w'.cell? ⟨y, 2, none⟩ = some (.int .i64 40) ∧ w'.cell? ⟨lb, lo + k * 3, none⟩ = some (.int .i64 zat)) 33
              [(true, 0), (true, 1), (true, 2), (true, 3), (true, 4), (true, 5), (true, 6), (true, 7), (true, 8), (true, 9), (true, 10), (true, 11), (true, 12), (true, 13), (true, 14), (true, 15), (true, 16), (true, 17), (true, 18), (true, 19), (true, 20), (true, 21), (true, 22), (true, 23), (true, 24), (true, 25), (true, 26), (true, 27), (true, 28), (true, 29), (true, 30), (true, 31), (true, 32)] [] (by kernel_rfl) (by kernel_rfl) ⟨c7, c1, c2, m0'⟩ ?_
            simp only [pick, List.getElem?_cons_zero, List.getElem?_cons_succ]
            refine wpL_yield (v := ?_) rfl (fun w' hS => ?_) ?_
            rotate_left
            · (obtain ⟨s7, s1, s2, s0⟩ := hS; go_simp; try with_reducible rfl)
            simp only [Act.put, List.setIfInBounds_toArray, List.set_cons_zero, List.set_cons_succ]
            refine wpL_yield (v := ?_) rfl (fun w' hS => ?_) ?_
            rotate_left
            · (obtain ⟨s7, s1, s2, s0⟩ := hS; go_simp; try with_reducible rfl)
            simp only [Act.put, List.setIfInBounds_toArray, List.set_cons_zero, List.set_cons_succ]
            refine wpL_yield (v := ?_) rfl (fun w' hS => ?_) ?_
            rotate_left
            · (obtain ⟨s7, s1, s2, s0⟩ := hS; go_simp; try with_reducible rfl)
            simp only [Act.put, List.setIfInBounds_toArray, List.set_cons_zero, List.set_cons_succ]
            refine wpL_yield (v := ?_) rfl (fun w' hS => ?_) ?_
            rotate_left
            · (obtain ⟨s7, s1, s2, s0⟩ := hS; go_simp; try with_reducible rfl)
            simp only [Act.put, List.setIfInBounds_toArray, List.set_cons_zero, List.set_cons_succ]
            refine wpL_yield (v := ?_) rfl (fun w' hS => ?_) ?_
            rotate_left
            · (obtain ⟨s7, s1, s2, s0⟩ := hS; go_simp; try with_reducible rfl)
            simp only [Act.put, List.setIfInBounds_toArray, List.set_cons_zero, List.set_cons_succ]
            refine wpL_yield (v := ?_) rfl (fun w' hS => ?_) ?_
            rotate_left
            · (obtain ⟨s7, s1, s2, s0⟩ := hS; go_simp; try with_reducible rfl)
            simp only [Act.put, List.setIfInBounds_toArray, List.set_cons_zero, List.set_cons_succ]
            refine wpL_yield (v := ?_) rfl (fun w' hS => ?_) ?_
            rotate_left
            · (obtain ⟨s7, s1, s2, s0⟩ := hS; go_simp; try with_reducible rfl)
            simp only [Act.put, List.setIfInBounds_toArray, List.set_cons_zero, List.set_cons_succ]
            refine wpL_yield (v := ?_) rfl (fun w' hS => ?_) ?_
            rotate_left
            · (obtain ⟨s7, s1, s2, s0⟩ := hS; go_simp; try with_reducible rfl)
            simp only [Act.put, List.setIfInBounds_toArray, List.set_cons_zero, List.set_cons_succ]
            refine wpL_yield (v := ?_) rfl (fun w' hS => ?_) ?_
            rotate_left
            · (obtain ⟨s7, s1, s2, s0⟩ := hS; go_simp; try with_reducible rfl)
            simp only [Act.put, List.setIfInBounds_toArray, List.set_cons_zero, List.set_cons_succ]
            refine wpL_yield (v := ?_) rfl (fun w' hS => ?_) ?_
            rotate_left
            · (obtain ⟨s7, s1, s2, s0⟩ := hS; go_simp; try with_reducible rfl)
            simp only [Act.put, List.setIfInBounds_toArray, List.set_cons_zero, List.set_cons_succ]
            refine wpL_yield (v := ?_) rfl (fun w' hS => ?_) ?_
            rotate_left
            · (obtain ⟨s7, s1, s2, s0⟩ := hS; go_simp; try with_reducible rfl)
            simp only [Act.put, List.setIfInBounds_toArray, List.set_cons_zero, List.set_cons_succ]
            refine wpL_yield (v := ?_) rfl (fun w' hS => ?_) ?_
            rotate_left
            · (obtain ⟨s7, s1, s2, s0⟩ := hS; go_simp; try with_reducible rfl)
            simp only [Act.put, List.setIfInBounds_toArray, List.set_cons_zero, List.set_cons_succ]
            refine wpL_yield (v := ?_) rfl (fun w' hS => ?_) ?_
            rotate_left
            · (obtain ⟨s7, s1, s2, s0⟩ := hS; go_simp; try with_reducible rfl)
            simp only [Act.put, List.setIfInBounds_toArray, List.set_cons_zero, List.set_cons_succ]
            refine wpL_yield (v := ?_) rfl (fun w' hS => ?_) ?_
            rotate_left
            · (obtain ⟨s7, s1, s2, s0⟩ := hS; go_simp; try with_reducible rfl)
            simp only [Act.put, List.setIfInBounds_toArray, List.set_cons_zero, List.set_cons_succ]
            refine wpL_guarded (v := ?_) rfl (fun w' hS => ?_) ?_
            rotate_left
            · (obtain ⟨s7, s1, s2, s0⟩ := hS; go_simp; try with_reducible rfl)
            simp only [Act.put, List.setIfInBounds_toArray, List.set_cons_zero, List.set_cons_succ]
            refine wpL_guarded (v := ?_) rfl (fun w' hS => ?_) ?_
            rotate_left
            · (obtain ⟨s7, s1, s2, s0⟩ := hS; go_simp; try with_reducible rfl)
            simp only [Act.put, List.setIfInBounds_toArray, List.set_cons_zero, List.set_cons_succ]
            refine wpL_guarded (v := ?_) rfl (fun w' hS => ?_) ?_
            rotate_left
            · (obtain ⟨s7, s1, s2, s0⟩ := hS; go_simp; try with_reducible rfl)
            simp only [Act.put, List.setIfInBounds_toArray, List.set_cons_zero, List.set_cons_succ]
            refine wpL_guarded (v := ?_) rfl (fun w' hS => ?_) ?_
            rotate_left
            · (obtain ⟨s7, s1, s2, s0⟩ := hS; go_simp; try with_reducible rfl)
            simp only [Act.put, List.setIfInBounds_toArray, List.set_cons_zero, List.set_cons_succ]
            refine wpL_guarded (v := ?_) rfl (fun w' hS => ?_) ?_
            rotate_left
            · (obtain ⟨s7, s1, s2, s0⟩ := hS; go_simp; try with_reducible rfl)
            simp only [Act.put, List.setIfInBounds_toArray, List.set_cons_zero, List.set_cons_succ]
            refine wpL_guarded (v := ?_) rfl (fun w' hS => ?_) ?_
            rotate_left
            · (obtain ⟨s7, s1, s2, s0⟩ := hS; go_simp; try with_reducible rfl)
            simp only [Act.put, List.setIfInBounds_toArray, List.set_cons_zero, List.set_cons_succ]
            refine wpL_guarded (v := ?_) rfl (fun w' hS => ?_) ?_
            rotate_left
            · (obtain ⟨s7, s1, s2, s0⟩ := hS; go_simp; try with_reducible rfl)
            simp only [Act.put, List.setIfInBounds_toArray, List.set_cons_zero, List.set_cons_succ]
            refine wpL_guarded (v := ?_) rfl (fun w' hS => ?_) ?_
            rotate_left
            · (obtain ⟨s7, s1, s2, s0⟩ := hS; go_simp; try with_reducible rfl)
            simp only [Act.put, List.setIfInBounds_toArray, List.set_cons_zero, List.set_cons_succ]
            refine wpL_guarded (v := ?_) rfl (fun w' hS => ?_) ?_
            rotate_left
            · (obtain ⟨s7, s1, s2, s0⟩ := hS; go_simp; try with_reducible rfl)
            simp only [Act.put, List.setIfInBounds_toArray, List.set_cons_zero, List.set_cons_succ]
            refine wpL_guarded (v := ?_) rfl (fun w' hS => ?_) ?_
            rotate_left
            · (obtain ⟨s7, s1, s2, s0⟩ := hS; go_simp; try with_reducible rfl)
            simp only [Act.put, List.setIfInBounds_toArray, List.set_cons_zero, List.set_cons_succ]
            refine wpL_guarded (v := ?_) rfl (fun w' hS => ?_) ?_
            rotate_left
            · (obtain ⟨s7, s1, s2, s0⟩ := hS; go_simp; try with_reducible rfl)
            simp only [Act.put, List.setIfInBounds_toArray, List.set_cons_zero, List.set_cons_succ]
            refine wpL_guarded (v := ?_) rfl (fun w' hS => ?_) ?_
            rotate_left
            · (obtain ⟨s7, s1, s2, s0⟩ := hS; go_simp; try with_reducible rfl)
            simp only [Act.put, List.setIfInBounds_toArray, List.set_cons_zero, List.set_cons_succ]
            refine wpL_guarded (v := ?_) rfl (fun w' hS => ?_) ?_
            rotate_left
            · (obtain ⟨s7, s1, s2, s0⟩ := hS; go_simp; try with_reducible rfl)
            simp only [Act.put, List.setIfInBounds_toArray, List.set_cons_zero, List.set_cons_succ]
            refine wpL_guarded (v := ?_) rfl (fun w' hS => ?_) ?_
            rotate_left
            · (obtain ⟨s7, s1, s2, s0⟩ := hS; go_simp; try with_reducible rfl)
            simp only [Act.put, List.setIfInBounds_toArray, List.set_cons_zero, List.set_cons_succ]
            refine wpL_guarded (v := ?_) rfl (fun w' hS => ?_) ?_
            rotate_left
            · (obtain ⟨s7, s1, s2, s0⟩ := hS; go_simp; try with_reducible rfl)
            simp only [Act.put, List.setIfInBounds_toArray, List.set_cons_zero, List.set_cons_succ]
            refine wpL_guarded (v := ?_) rfl (fun w' hS => ?_) ?_
            rotate_left
            · (obtain ⟨s7, s1, s2, s0⟩ := hS; go_simp; try with_reducible rfl)
            simp only [Act.put, List.setIfInBounds_toArray, List.set_cons_zero, List.set_cons_succ]
            refine wpL_guarded (v := ?_) rfl (fun w' hS => ?_) ?_
            rotate_left
            · (obtain ⟨s7, s1, s2, s0⟩ := hS; go_simp; try with_reducible rfl)
            simp only [Act.put, List.setIfInBounds_toArray, List.set_cons_zero, List.set_cons_succ]
            refine wpL_guarded (v := ?_) rfl (fun w' hS => ?_) ?_
            rotate_left
            · (obtain ⟨s7, s1, s2, s0⟩ := hS; go_simp; try with_reducible rfl)
            simp only [Act.put, List.setIfInBounds_toArray, List.set_cons_zero, List.set_cons_succ]
            refine wpL_yield (v := ?_) rfl (fun w' hS => ?_) ?_
            rotate_left
            · (go_simp; try with_reducible rfl)
            simp only [Act.put, List.setIfInBounds_toArray, List.set_cons_zero, List.set_cons_succ]
            refine wpL_nil ?_
            refine wpL_nil ?_
            go_wp2_with fail
            go_roundw
            case rel =>
              refine ⟨k + 1, m + 1, hlt, by go_num, by rw [Hos.out, List.length_append, ← Hm.out]; rfl, by go_num, fun j hj hpj => ?_, h2.drew⟩
              by_cases e : j = k
              · subst e; rw [Hz.out]; simp only; omega
              · exact Hout.out j (by omega) hpj
            case measure => simp [intOf]; omega
        | false =>
          clear hpk
          go_wp2_with fail
          go_roundw
          case rel =>
            refine ⟨k + 1, m, hlt, by go_num, by rw [Hos.out, List.length_append, ← Hm.out]; rfl, rfl, fun j hj hpj => ?_, h2⟩
            by_cases e : j = k
            · subst e; rw [Hz.out] at hpj; cases hpj
            · exact Hout.out j (by omega) hpj
          case measure => simp [intOf]; omega
      · obtain rfl : k = xs.length := by omega
        have hm := Hm.out
        rw [List.take_length] at hm
        subst hm
        go_wp2_with fail
        go_meet
        case rel => exact ⟨rfl, Hout.out, h2⟩
  case' rest =>
    obtain ⟨rfl, hout, h2⟩ := hcut
  clear h1 h c0 c1 c2 c3 c6 c7 c8
  have hml := List.length_filter_le (fun x : Value × LineM => x.2.pin) xs
  have hfn := Hfn.out
  generalize (xs.filter (·.2.pin)).length = m at *
  obtain ⟨c0, c1, c2, c3, _, _, c6, c7, c8, _⟩ := h2.rcCells
  by_cases h37 : 37 < m
  · have hd : decide ((37 : Int) < (m : Int)) = true := decide_eq_true (by omega)
    have hno : ¬ PinsOk dr.len 0 40 cm.lines := fun hP => by
      have := hP.few
      rw [room40] at this
      omega
    have Hno := Lib.hid hno
    clear hno
    go_wp2_with fail
    go_ret
    exact .inr ⟨rfl, Hno.out, Bears.rc.2 ⟨xs, _, g, Hxs.out, Hl.out, h2⟩⟩
  have hd : decide ((37 : Int) < (m : Int)) = false := decide_eq_false (by omega)
  have hpins : PinsOk dr.len 0 40 cm.lines := by
    refine ⟨fun z hz hzp => ?_, by rw [room40]; omega⟩
    obtain ⟨h0, h1⟩ := Hp.out z hz hzp
    rw [← Hxs.out] at hz
    obtain ⟨x, hx, rfl⟩ := List.mem_map.1 hz
    obtain ⟨j, hj, rfl⟩ := List.mem_iff_getElem.1 hx
    have := hout j hj (by rw [List.getD_eq_getElem?_getD, List.getElem?_eq_getElem hj]; exact hzp)
    rw [List.getD_eq_getElem?_getD, List.getElem?_eq_getElem hj] at this
    simp only [Option.getD_some] at this
    exact ⟨by omega, h0, h1⟩
  have Hpins := Lib.hid hpins
  have h3 := h2.zeroRow (e := 72) (size := 3)
  obtain ⟨_, _, _, _, _, _, _, d7, _, _⟩ := h3.pull2.rcCells
  have hvals := Hl.out.tells _ h3.pull4.left
  have hone := Hl.out.one h3.pull4.left
  clear hpins hout hfn h37 h2
  have hbnd : xs.length * 40 ≤ 140737488355328 := by omega
  have hvals : ValsIn 3 (wc.alloc (.cells #[] 72)) (.slice la xs.length lc) (lineCells xs) := hvals
  go_wp2_with (at_builtin; refine wpList_append_vals h3 rfl rfl u_lines hi0 hz0 hz1 hz2 (by simp [Value.cells]) (by decide) rfl rfl hvals hone hbnd ?_; intro ga gc w5 h5)
  clear hvals hone d7 h3 c0 c1 c2 c3 c6 c7 c8
  have hzero : ({ dr with waits := pinPuts ((xs.map Prod.snd).take 0), steps := dr.steps } : DiskM) = dr := by
    have e : pinPuts ((xs.map Prod.snd).take 0) = dr.waits := by rw [Hw.out]; rfl
    rw [e]
  have Hzero := Lib.hid hzero
  clear hzero
  go_loopw [6] (fun iv wr => ∃ (k : Nat) (Z : Assn) (st : Int), k ≤ xs.length ∧ iv = .int .i64 k ∧ Bears wr (rowA 72 3 (.slice ga xs.length gc) xs.length (lineCells (unpinTo k xs)) *
    (rcObj y yd cm.most cm.misses cm.isOpen (.slice la xs.length lc) g * (refA yd (Z * Y) { dr with waits := pinPuts ((xs.map Prod.snd).take k), steps := st } * ((Z * Y) * R))))) (fun iv _ => xs.length - (intOf iv).toNat)
  case atStart => exact ⟨0, Assn.emp, dr.steps, by omega, rfl, by rw [Hzero.out, Assn.emp_mul]; exact h5⟩
  case round =>
    clear h5
    obtain ⟨k, Z, st, hk, rfl, h6⟩ := hrel
    by_cases hlt : k < xs.length
    · have hltI : (k : Int) < (xs.length : Int) := by omega
      obtain ⟨gb, rfl, _⟩ := h6.rowAt (k := k) hlt
      obtain ⟨q0, q1, q2⟩ := unpinTo_cells hlt
      obtain ⟨m0, _⟩ := h6.rowCellN q0
      obtain ⟨m1, _⟩ := h6.rowCellN q1
      obtain ⟨m2, _⟩ := h6.rowCellN q2
      obtain ⟨c0, _⟩ := h6.pull2.rcCells
      have hset := unpinTo_set hlt
      have hsame := unpinTo_same hlt
      have hps := pinPuts_snoc ((xs.map Prod.snd).take k) ((xs.map Prod.snd).getD k default)
      rw [← take_snoc (by simpa using hlt), getD_snd _ _ hlt] at hps
      have hpk := Hpx.out k hlt
      have h6k := H6x.out k hlt
      have hro := Hl.out.rows _ (getDmem hlt)
      generalize xs.getD k default = z at m0 m1 m2 hsame hps hpk h6k hro
      obtain ⟨pv, zat, zb, zp⟩ := z
      simp only at m0 m1 m2 hsame hps hpk h6k
      obtain ⟨za, zn, zc, ez, ezn⟩ := hro.form h6.pull4.left.right
      simp only at ez ezn
      subst ez
      have Hset := Lib.hid hset
      have Hps := Lib.hid hps
      have Hro := Lib.hid hro
      have H6k := Lib.hid h6k
      clear q0 q1 q2 hset hps hro ezn h6k
      cases zp with
      | true =>
        obtain ⟨ha0, ha1⟩ := hpk rfl
        have hwr := write_pins (ws := pinPuts ((xs.map Prod.snd).take k)) (st := st) Hoff.out Hfu.out ha0 ha1 H6k.out
        have hroom : (pinPuts ((xs.map Prod.snd).take k)).length < 1099511627776 := by
          unfold pinPuts
          rw [List.length_map]
          have := List.length_filter_le (·.pin) ((xs.map Prod.snd).take k)
          rw [List.length_take] at this
          omega
        have h7 : Bears wr.drew (refA yd (Z * Y) { dr with waits := pinPuts ((xs.map Prod.snd).take k), steps := st } * ((Z * Y) * (rowA 72 3 (.slice (some ⟨gb, 0, none⟩) xs.length gc) xs.length (lineCells (unpinTo k xs)) *
          (rcObj y yd cm.most cm.misses cm.isOpen (.slice la xs.length lc) g * R)))) := h6.drew.cast (by ac_rfl)
        have hcall := rwrite_any h7 zat (l := zb) (ad := za) (n := zn) (cap := zc) (Hro.out.right.tells.left) hroom hwr (by rw [H6k.out]; decide)
        have Hcall := Lib.hid hcall
        have m0' : wr.drew.cell? ⟨gb, k * 3, none⟩ = some (.int .i64 zat) := m0
        have m1' : wr.drew.cell? ⟨gb, k * 3 + 1, none⟩ = some (.slice za zn zc) := m1
        have c0' : wr.drew.cell? ⟨y, 0, none⟩ = some (.pointer (some ⟨yd, 0, none⟩)) := c0
        clear hwr hcall hroom hsame hpk h7
        go_wp2_with fail
        refine wp_region_tail 14 (by kernel_rfl) (by kernel_rfl) ?_
        simp only [List.take_succ_cons, List.take_zero, List.drop_succ_cons, List.drop_zero]
        iterate 14 still_step
        refine wpStill_nil ?_
        clear m0 m1 m2 c0 m0' m1' c0' h6
        go_wp2_with fail
        refine Hcall.out.mono ?_
        rintro e w8 ⟨rfl, Z2, h8⟩
        have h9 : Bears w8 (rowA 72 3 (.slice (some ⟨gb, 0, none⟩) xs.length gc) xs.length (lineCells (unpinTo k xs)) * (rcObj y yd cm.most cm.misses cm.isOpen (.slice la xs.length lc) g *
          (refA yd (Z2 * (Z * Y)) { dr with waits := pinPuts ((xs.map Prod.snd).take k) ++ [(zat.toNat, zb)], steps := wrap64 (st + 1) } * ((Z2 * (Z * Y)) * R)))) := h8.cast (by ac_rfl)
        obtain ⟨n2, f2⟩ := h9.rowCellN (i := k * 3 + 2) (v := ((lineCells (unpinTo k xs))[k * 3 + 2]'(by rw [lineCells_length, unpinTo_length]; omega))) (List.getElem?_eq_getElem _)
        have h10 := h9.rowSetN (k * 3 + 2) (.bool false)
        rw [Hset.out] at h10
        generalize ((lineCells (unpinTo k xs))[k * 3 + 2]'(by rw [lineCells_length, unpinTo_length]; omega)) = old at n2
        clear h9 h8
        go_wp2_with fail
        go_roundw
        case rel =>
          refine ⟨k + 1, Z2 * Z, wrap64 (st + 1), hlt, by go_num, ?_⟩
          rw [Hps.out, if_pos trivial, show Z2 * Z * Y = Z2 * (Z * Y) by rw [Assn.mul_assoc']]
          exact h10
        case measure => simp [intOf]; omega
      | false =>
        have hs := hsame rfl
        have Hs := Lib.hid hs
        clear hs hsame hpk
        go_wp2_with fail
        go_roundw
        case rel =>
          refine ⟨k + 1, Z, st, hlt, by go_num, ?_⟩
          rw [Hps.out, if_neg (by decide), List.append_nil, Hs.out]
          exact h6
        case measure => simp [intOf]; omega
    · obtain rfl : k = xs.length := by omega
      obtain ⟨_, _, e8, hgc, _⟩ := h6.rowForm
      simp only [Value.slice.injEq, true_and] at e8
      obtain ⟨-, rfl⟩ := e8
      rw [unpinTo_all] at h6
      have hroom : (pinPuts ((xs.map Prod.snd).take xs.length)).length < 1099511627776 := by
        unfold pinPuts
        rw [List.length_map]
        have := List.length_filter_le (·.pin) ((xs.map Prod.snd).take xs.length)
        rw [List.length_take, List.length_map] at this
        omega
      have hbar := barrier_pins (ws := pinPuts ((xs.map Prod.snd).take xs.length)) (st := st) Hoff.out Hfu.out
      have hsu : settle dr.sure (pinPuts ((xs.map Prod.snd).take xs.length)) = overL dr.sure cm.lines := by
        have hp0 : ∀ z ∈ cm.lines, z.pin = true → 0 ≤ z.at' := fun z hz hzp => (Hp.out z hz hzp).1
        have := settle_pins (f := dr.sure) Hnd.out hp0 cm.lines.length (Nat.le_refl _)
        rw [List.take_length] at this
        rw [Hxs.out, show xs.length = cm.lines.length by rw [← Hxs.out]; simp, List.take_length]
        exact this
      have h7 : Bears wr (refA yd (Z * Y) { dr with waits := pinPuts ((xs.map Prod.snd).take xs.length), steps := st } * ((Z * Y) * (rowA 72 3 (.slice ga xs.length gc) xs.length (lineCells (xs.map unpinX)) *
        (rcObj y yd cm.most cm.misses cm.isOpen (.slice la xs.length lc) g * R)))) := h6.cast (by ac_rfl)
      have hcall := rbarrier_any h7 hroom hbar
      have Hcall := Lib.hid hcall
      have Hsu := Lib.hid hsu
      obtain ⟨c0, _⟩ := h6.pull2.rcCells
      have hul := unpin_snd Hxs.out
      have Hul := Lib.hid hul
      clear hroom hbar hsu h7 hcall h6 hul
      go_wp2_with fail
      refine Hcall.out.mono ?_
      rintro e w8 ⟨rfl, Z2, h8⟩
      have h9 : Bears w8 (rcObj y yd cm.most cm.misses cm.isOpen (.slice la xs.length lc) g * ((rowA 72 3 (.slice ga xs.length gc) xs.length (lineCells (xs.map unpinX)) * (Z2 * (Z * Y))) *
        (refA yd (Z2 * (Z * Y)) { dr with sure := settle dr.sure (pinPuts ((xs.map Prod.snd).take xs.length)), waits := [], steps := wrap64 (st + 1) } * R))) := h8.cast (by ac_rfl)
      obtain ⟨_, _, _, _, _, _, n6, n7, n8, nf⟩ := h9.rcCells
      have f6 := nf 6
      have f7 := nf 7
      have f8 := nf 8
      have h10 : Bears _ (rcObj y yd cm.most cm.misses false (.slice ga xs.length gc) (wrap64 (g + 1)) * ((rowA 72 3 (.slice ga xs.length gc) xs.length (lineCells (xs.map unpinX)) * (Z2 * (Z * Y))) *
        (refA yd (Z2 * (Z * Y)) { dr with sure := settle dr.sure (pinPuts ((xs.map Prod.snd).take xs.length)), waits := [], steps := wrap64 (st + 1) } * R))) :=
        (((h9.setCell (i := 8) (.int .i64 (wrap64 (g + 1)))).setCell (i := 7) (.slice ga xs.length gc)).setCell (i := 6) (.bool false)).cast (by simp)
      have hl2 : LinesOk (rowA 72 3 (.slice ga xs.length gc) xs.length (lineCells (xs.map unpinX)) * (Z2 * (Z * Y))) (xs.map unpinX) (.slice ga xs.length gc) := by
        refine ⟨fun x hx => ?_, rowA_vals, ga, gc, by simp, by simpa using hgc⟩
        obtain ⟨z, hz, rfl⟩ := List.mem_map.1 hx
        exact (Hl.out.rows z hz).right.right.right
      have htrim := rtrim_any h10 hl2 (by simp; omega)
      have Htrim := Lib.hid htrim
      clear htrim hl2 h10 h9 h8 nf
      go_wp2_with fail
      refine Htrim.out.mono ?_
      rintro e w11 ⟨rfl, Z3, xs3, hx3, lv3, hl3, h11⟩
      go_wp2_with fail
      go_ret
      have h12 : Bears w11 (refA yd (Z2 * (Z * Y)) { dr with sure := settle dr.sure (pinPuts ((xs.map Prod.snd).take xs.length)), waits := [], steps := wrap64 (st + 1) } * (rcObj y yd cm.most cm.misses false lv3 (wrap64 (g + 1)) *
        ((Z3 * (rowA 72 3 (.slice ga xs.length gc) xs.length (lineCells (xs.map unpinX)) * (Z2 * (Z * Y)))) * R))) := h11.cast (by ac_rfl)
      have h13 := (h12.refRight (Z := rowA 72 3 (.slice ga xs.length gc) xs.length (lineCells (xs.map unpinX)))).refRight (Z := Z3)
      refine .inl ⟨rfl, Hpins.out, Z3 * (rowA 72 3 (.slice ga xs.length gc) xs.length (lineCells (xs.map unpinX)) * (Z2 * Z)), { dr with sure := settle dr.sure (pinPuts ((xs.map Prod.snd).take xs.length)), waits := [], steps := wrap64 (st + 1) }, Hoff.out, Hfu.out, rfl, rfl, Hsu.out, ?_⟩
      rw [show Z3 * (rowA 72 3 (.slice ga xs.length gc) xs.length (lineCells (xs.map unpinX)) * (Z2 * Z)) * Y = Z3 * (rowA 72 3 (.slice ga xs.length gc) xs.length (lineCells (xs.map unpinX)) * (Z2 * (Z * Y))) by simp only [Assn.mul_assoc']]
      refine Bears.rc.2 ⟨xs3, lv3, wrap64 (g + 1), ?_, hl3, h13.pull2⟩
      rw [hx3, Hul.out, List.length_map]
      unfold CacheM.commits
      simp only
      rw [show xs.length = (unpinL cm.lines).length by rw [← Hul.out]; simp]
end

end Go.Proofs.Ytggbnelbnbaoiaa

/- The cache's contracts, with what they answer named; no condition. -/
namespace Go.Proofs.Ytggbnelbnbaoiaa
open Go.RowKit Go.MapKept

theorem cread_held_to {c p x : Nat} {cm cm' : CacheM} {R : Assn} {w : World} {i : Int} {y : LineM} (h : Bears w (cacheA c p x cm * R)) (hf : findL i cm.lines = some y) (hr : cm.used y = cm') (hlen : cm.lines.length < 1099511627775) :
    Calls Try.prog 25 #[.pointer (some ⟨c, 0, none⟩), .int .i64 i] w fun e w' => ∃ ad cap, e = .returned (.tuple #[.slice ad 64 cap, .int .i64 0]) ∧
      Bears w' (rowA 5 1 (.slice ad 64 cap) 64 (cellsV y.b) * (cacheA c p x cm' * R)) := by
  subst hr
  obtain ⟨_, _, _, _, _, _, hwf, _⟩ := Bears.cache.1 h
  have := cread_held h hf hlen
  rw [hwf.bytes y (findL_mem hf).1] at this
  exact this
theorem cread_disk_to {c p x : Nat} {cm cm' : CacheM} {d : DiskM} {R : Assn} {w : World} {i : Int} {s : Sec} (h : Bears w (cacheA c p x cm * (diskA p d * R))) (hf : findL i cm.lines = none) (hck : d.check i = 0) (hs : d.now i.toNat = s)
    (hr : ({ cm with misses := wrap64 (cm.misses + 1) } : CacheM).used ⟨i, s, false⟩ = cm') (hlen : cm.lines.length < 1099511627775) :
    Calls Try.prog 25 #[.pointer (some ⟨c, 0, none⟩), .int .i64 i] w fun e w' => ∃ ad cap, e = .returned (.tuple #[.slice ad 64 cap, .int .i64 0]) ∧
      Bears w' (rowA 5 1 (.slice ad 64 cap) 64 (cellsV s) * (cacheA c p x cm' * (diskA p d * R))) := by
  subst hr; subst hs
  exact cread_disk h hf hck hlen
theorem cread_no_to {c p x : Nat} {cm : CacheM} {d : DiskM} {R : Assn} {w : World} {i r : Int} (h : Bears w (cacheA c p x cm * (diskA p d * R))) (hf : findL i cm.lines = none) (hck : d.check i = r) (hr : r ≠ 0) :
    Calls Try.prog 25 #[.pointer (some ⟨c, 0, none⟩), .int .i64 i] w fun e w' => e = .returned (.tuple #[.slice none 0 0, .int .i64 r]) ∧ Bears w' (cacheA c p x cm * (diskA p d * R)) := by
  subst hck
  exact (cread_no h hf hr).mono fun e w' h2 => ⟨h2.1, h2.2 ▸ h⟩
theorem cwrite_to {c p x : Nat} {cm cm' : CacheM} {d : DiskM} {R : Assn} {w : World} {i r : Int} {b : Sec} {ad : Option Addr} {n cap : Nat} (h : Bears w (cacheA c p x cm * (diskA p d * R))) (heq : cm.write d.len i b = (r, cm')) (hb : R.Tells (fun w => BytesIn w (.slice ad n cap) b)) (hlen : cm.lines.length < 1099511627775) :
    Calls Try.prog 29 #[.pointer (some ⟨c, 0, none⟩), .int .i64 i, .slice ad n cap] w fun e w' => e = .returned (.int .i64 r) ∧ Bears w' (cacheA c p x cm' * (diskA p d * R)) := by
  have := cwrite_any h hb hlen (i := i)
  rw [heq] at this
  exact this
theorem cbegin_to {c p x : Nat} {cm cm' : CacheM} {R : Assn} {w : World} {r : Int} (h : Bears w (cacheA c p x cm * R)) (heq : cm.begins = (r, cm')) :
    Calls Try.prog 30 #[.pointer (some ⟨c, 0, none⟩)] w fun e w' => e = .returned (.int .i64 r) ∧ Bears w' (cacheA c p x cm' * R) := by
  have := cbegin_any h
  rw [heq] at this
  exact this
theorem cabort_to {c p x : Nat} {cm cm' : CacheM} {R : Assn} {w : World} {r : Int} (h : Bears w (cacheA c p x cm * R)) (heq : cm.abort = (r, cm')) :
    Calls Try.prog 34 #[.pointer (some ⟨c, 0, none⟩)] w fun e w' => e = .returned (.int .i64 r) ∧ Bears w' (cacheA c p x cm' * R) := by
  have := cabort_any h
  rw [heq] at this
  exact this
theorem cheld_to {c p x : Nat} {cm : CacheM} {R : Assn} {w : World} {n : Nat} {l : List Int} (h : Bears w (cacheA c p x cm * R)) (hn : cm.lines.length = n) (hl : cm.lines.map (·.at') = l) (hlen : n < 1099511627776) :
    Calls Try.prog 37 #[.pointer (some ⟨c, 0, none⟩)] w fun e w' => ∃ ad cap, e = .returned (.slice ad n cap) ∧ Bears w' (rowA 3 1 (.slice ad n cap) n (intsV l) * (cacheA c p x cm * R)) := by
  subst hn; subst hl
  refine (cheld_any h hlen).mono ?_
  rintro e w' ⟨v, rfl, h2⟩
  obtain ⟨a, cap, rfl, _⟩ := h2.rowForm
  exact ⟨a, cap, rfl, h2⟩
theorem cpinned_to {c p x : Nat} {cm : CacheM} {R : Assn} {w : World} {n : Nat} (h : Bears w (cacheA c p x cm * R)) (hn : (cm.lines.filter (·.pin)).length = n) :
    Calls Try.prog 38 #[.pointer (some ⟨c, 0, none⟩)] w fun e w' => e = .returned (.int .i64 n) ∧ Bears w' (cacheA c p x cm * R) := by
  subst hn
  exact (cpinned_any h).mono fun e w' h2 => ⟨h2.1, h2.2 ▸ h⟩
theorem cmisses_to {c p x : Nat} {cm : CacheM} {R : Assn} {w : World} {n : Int} (h : Bears w (cacheA c p x cm * R)) (hn : cm.misses = n) :
    Calls Try.prog 40 #[.pointer (some ⟨c, 0, none⟩)] w fun e w' => e = .returned (.int .i64 n) ∧ Bears w' (cacheA c p x cm * R) := by
  subst hn
  exact (cmisses_any h).mono fun e w' h2 => ⟨h2.1, h2.2 ▸ h⟩

end Go.Proofs.Ytggbnelbnbaoiaa

/- The statements of the cache: the document's examples; no condition. -/
namespace Go.Proofs.Ytggbnelbnbaoiaa
open Go.RowKit Go.MapKept

set_option maxRecDepth 100000 in
set_option maxHeartbeats 4000000 in
theorem shown3_any {R : Assn} {w : World} (h : Bears w R) :
    Calls Try.prog 21 #[] w fun e w' => e = .returned (.bool true) ∧ Bears w' R := by
  have f64 := fullB_length 1
  obtain ⟨f1, hf1⟩ : ∃ f1, fullB 1 = f1 := ⟨_, rfl⟩
  have Hf1 := Lib.hid hf1
  rw [hf1] at f64
  have F64 := Lib.hid f64
  clear hf1 f64
  obtain ⟨z, hz⟩ : ∃ z, zeroSec = z := ⟨_, rfl⟩
  go_enter Try.func21, Try.ntmps21
  go_wp2_with fail
  refine (ground3_any h 2 (by decide)).mono ?_
  rintro e w1 ⟨p, c, x, d, rfl, L, hl, hfu, _, _, h1⟩
  rw [hz] at L
  have k : ∀ i : Nat, 40 ≤ i → i < 100 → d.check (i : Int) = 0 := fun i _ h2 => DiskM.on_check L.off (by rw [hl]; exact h2)
  have n : ∀ i : Nat, 40 ≤ i → d.now i = z := fun i h1 => L.now (by omega)
  have K50 := Lib.hid (k 50 (by decide) (by decide))
  have K51 := Lib.hid (k 51 (by decide) (by decide))
  have K52 := Lib.hid (k 52 (by decide) (by decide))
  have N50 := Lib.hid (n 50 (by decide))
  have N51 := Lib.hid (n 51 (by decide))
  have N52 := Lib.hid (n 52 (by decide))
  have L' := Lib.hid L
  have hz' := Lib.hid hz
  have Hl := Lib.hid hl
  have Hfu := Lib.hid hfu
  clear k n L hz hl hfu
  have h1' := h1.pull3
  have h2 : Bears w1 (cacheA c p x ⟨2, 0, false, []⟩ * (diskA p d * (walObj x p 0 40 0 * R))) := h1.c23
  go_wp2_with fail
  refine (cread_disk_to (s := z) (cm' := ⟨2, 1, false, [⟨50, z, false⟩]⟩) h2 (by kernel_rfl) K50.out N50.out (by kernel_rfl) (by simp)).mono ?_
  rintro e w2 ⟨_, _, rfl, h3⟩
  have h4 := h3.right
  go_wp2_with fail
  refine (cread_disk_to (s := z) (cm' := ⟨2, 2, false, [⟨50, z, false⟩, ⟨51, z, false⟩]⟩) h4 (by kernel_rfl) K51.out N51.out (by kernel_rfl) (by simp)).mono ?_
  rintro e w3 ⟨_, _, rfl, h5⟩
  have h6 := h5.right
  go_wp2_with fail
  refine (cread_held_to (y := ⟨50, z, false⟩) (cm' := ⟨2, 2, false, [⟨51, z, false⟩, ⟨50, z, false⟩]⟩) h6 (by kernel_rfl) (by kernel_rfl) (by simp)).mono ?_
  rintro e w4 ⟨_, _, rfl, h7⟩
  have h8 := h7.right
  go_wp2_with fail
  refine (cread_disk_to (s := z) (cm' := ⟨2, 3, false, [⟨50, z, false⟩, ⟨52, z, false⟩]⟩) h8 (by kernel_rfl) K52.out N52.out (by kernel_rfl) (by simp)).mono ?_
  rintro e w5 ⟨_, _, rfl, h9⟩
  have h10 := h9.right
  clear h h1 h1' h2 h3 h4 h5 h6 h7 h8 h9
  go_wp2_with fail
  refine (cheld_to (n := 2) (l := [50, 52]) h10 rfl rfl (by simp)).mono ?_
  rintro e w6 ⟨va, vc, rfl, h11⟩
  have h12 := h11.alloc (.cells #[.int .i64 50, .int .i64 52] 3)
  go_wp2_with fail
  refine (ints_any (a := [50, 52]) (b := [50, 52]) (na := 2) (nb := 2) h12 ((rowA_ints rfl).right) (IntsIn.tells (l := [50, 52]) _ _ rfl) (by decide) (by decide)).mono ?_
  rintro e w7 ⟨rfl, h13⟩
  have h14 := h13.right.right
  go_wp2_with fail
  refine (cmisses_to (n := 3) h14 rfl).mono ?_
  rintro e w8 ⟨rfl, h15⟩
  clear h10 h11 h12 h13 h14
  go_wp2_with fail
  refine (full_any h15 1).mono ?_
  rintro e w20 ⟨g20, rfl, q20⟩
  rw [Hf1.out] at q20
  have e20 := Lib.hid (show CacheM.write ⟨2, 3, false, [⟨50, z, false⟩, ⟨52, z, false⟩]⟩ d.len 60 f1 = (30, ⟨2, 3, false, [⟨50, z, false⟩, ⟨52, z, false⟩]⟩) by simp [CacheM.write])
  go_wp2_with fail
  refine (cwrite_to (n := 64) q20.push3 e20.out (BytesIn.tells _ _ F64.out.symm) (by simp)).mono ?_
  rintro e v20 ⟨rfl, r20⟩
  have h20 := r20.pull3.right
  clear q20 r20
  go_wp2_with fail
  refine (cbegin_to (r := 0) (cm' := ⟨2, 3, true, [⟨50, z, false⟩, ⟨52, z, false⟩]⟩) h20 rfl).mono ?_
  rintro e w21 ⟨rfl, h21⟩
  go_wp2_with fail
  refine (cbegin_to (r := 30) (cm' := ⟨2, 3, true, [⟨50, z, false⟩, ⟨52, z, false⟩]⟩) h21 rfl).mono ?_
  rintro e w22 ⟨rfl, h22⟩
  go_wp2_with fail
  refine (full_any h22 1).mono ?_
  rintro e w23 ⟨g23, rfl, q23⟩
  rw [Hf1.out] at q23
  have e23 := Lib.hid (show CacheM.write ⟨2, 3, true, [⟨50, z, false⟩, ⟨52, z, false⟩]⟩ d.len 60 f1 = (0, ⟨2, 3, true, [⟨50, z, false⟩, ⟨52, z, false⟩, ⟨60, f1, true⟩]⟩) by simp [CacheM.write, Hl.out, F64.out, useL, forgetL])
  go_wp2_with fail
  refine (cwrite_to (n := 64) q23.push3 e23.out (BytesIn.tells _ _ F64.out.symm) (by simp)).mono ?_
  rintro e v23 ⟨rfl, r23⟩
  have h23 := r23.pull3.right
  clear q23 r23
  go_wp2_with fail
  refine (full_any h23 1).mono ?_
  rintro e w24 ⟨g24, rfl, q24⟩
  rw [Hf1.out] at q24
  have e24 := Lib.hid (show CacheM.write ⟨2, 3, true, [⟨50, z, false⟩, ⟨52, z, false⟩, ⟨60, f1, true⟩]⟩ d.len 61 f1 = (0, ⟨2, 3, true, [⟨50, z, false⟩, ⟨52, z, false⟩, ⟨60, f1, true⟩, ⟨61, f1, true⟩]⟩) by simp [CacheM.write, Hl.out, F64.out, useL, forgetL])
  go_wp2_with fail
  refine (cwrite_to (n := 64) q24.push3 e24.out (BytesIn.tells _ _ F64.out.symm) (by simp)).mono ?_
  rintro e v24 ⟨rfl, r24⟩
  have h24 := r24.pull3.right
  clear q24 r24
  go_wp2_with fail
  refine (full_any h24 1).mono ?_
  rintro e w25 ⟨g25, rfl, q25⟩
  rw [Hf1.out] at q25
  have e25 := Lib.hid (show CacheM.write ⟨2, 3, true, [⟨50, z, false⟩, ⟨52, z, false⟩, ⟨60, f1, true⟩, ⟨61, f1, true⟩]⟩ d.len 62 f1 = (0, ⟨2, 3, true, [⟨50, z, false⟩, ⟨52, z, false⟩, ⟨60, f1, true⟩, ⟨61, f1, true⟩, ⟨62, f1, true⟩]⟩) by simp [CacheM.write, Hl.out, F64.out, useL, forgetL])
  go_wp2_with fail
  refine (cwrite_to (n := 64) q25.push3 e25.out (BytesIn.tells _ _ F64.out.symm) (by simp)).mono ?_
  rintro e v25 ⟨rfl, r25⟩
  have h25 := r25.pull3.right
  clear q25 r25
  clear h15 h20 h21 h22 h23 h24
  go_wp2_with fail
  refine (cheld_to (n := 5) (l := [50, 52, 60, 61, 62]) h25 rfl rfl (by simp)).mono ?_
  rintro e w26 ⟨va2, vc2, rfl, h26⟩
  have h27 := h26.alloc (.cells #[.int .i64 50, .int .i64 52, .int .i64 60, .int .i64 61, .int .i64 62] 3)
  go_wp2_with fail
  refine (ints_any (a := [50, 52, 60, 61, 62]) (b := [50, 52, 60, 61, 62]) (na := 5) (nb := 5) h27 ((rowA_ints rfl).right) (IntsIn.tells (l := [50, 52, 60, 61, 62]) _ _ rfl) (by decide) (by decide)).mono ?_
  rintro e w28 ⟨rfl, h28⟩
  have h29 := h28.right.right
  go_wp2_with fail
  refine (cpinned_to (n := 3) h29 rfl).mono ?_
  rintro e w30 ⟨rfl, h30⟩
  have hpins : PinsOk d.len 0 40 [⟨50, z, false⟩, ⟨52, z, false⟩, ⟨60, f1, true⟩, ⟨61, f1, true⟩, ⟨62, f1, true⟩] := by
    refine ⟨fun y hy hp => ?_, by simp; decide⟩
    rw [Hl.out]
    simp only [List.mem_cons, List.not_mem_nil, or_false] at hy
    rcases hy with rfl | rfl | rfl | rfl | rfl <;> first | (simp at hp; done) | (simp only; omega)
  have HP := Lib.hid hpins
  clear hpins h25 h26 h27 h28 h29
  go_wp2_with fail
  refine (ccommit_log (g := 0) (F := fun _ => z) h30.c23 rfl L'.out Hfu.out (by decide) (by simp)).mono ?_
  rintro e w31 (⟨rfl, _, l, d2, _, L2, hfu2, hl2, _, h31⟩ | ⟨_, hno, _⟩)
  case inr => exact absurd HP.out hno
  have hn60 : d2.now 60 = f1 := by rw [L2.now (by omega)]; rfl
  have k60 : d2.check 60 = 0 := DiskM.on_check (i := 60) L2.off (by rw [hl2, Hl.out]; decide)
  have h32 : Bears w31 (cacheA c p x ⟨2, 3, false, [⟨61, f1, false⟩, ⟨62, f1, false⟩]⟩ * (diskA p d2 * (walObj x p 0 40 1 * R))) := h31.c23
  have N60 := Lib.hid hn60
  have K60 := Lib.hid k60
  clear hn60 k60 L2 hfu2 hl2 h31 h30
  go_wp2_with fail
  refine (cheld_to (n := 2) (l := [61, 62]) h32 rfl rfl (by simp)).mono ?_
  rintro e w33 ⟨va3, vc3, rfl, h33⟩
  have h34 := h33.alloc (.cells #[.int .i64 61, .int .i64 62] 3)
  go_wp2_with fail
  refine (ints_any (a := [61, 62]) (b := [61, 62]) (na := 2) (nb := 2) h34 ((rowA_ints rfl).right) (IntsIn.tells (l := [61, 62]) _ _ rfl) (by decide) (by decide)).mono ?_
  rintro e w35 ⟨rfl, h35⟩
  have h36 := h35.right.right
  go_wp2_with fail
  refine (cread_disk_to (s := f1) (cm' := ⟨2, 4, false, [⟨62, f1, false⟩, ⟨60, f1, false⟩]⟩) h36 (by kernel_rfl) K60.out N60.out (by kernel_rfl) (by simp)).mono ?_
  rintro e w37 ⟨ad7, cp7, rfl, h37⟩
  clear h32 h33 h34 h35 h36
  go_wp2_with fail
  have hN : Bears w37 (cacheA c p x ⟨2, 4, false, [⟨62, f1, false⟩, ⟨60, f1, false⟩]⟩ * (diskA p d2 * (walObj x p 0 40 1 * R))) := h37.right
  refine wp_region_L (fun w' => Bears w' (rowA 5 1 (.slice ad7 64 cp7) 64 (cellsV f1) * (cacheA c p x ⟨2, 4, false, [⟨62, f1, false⟩, ⟨60, f1, false⟩]⟩ * (diskA p d2 * (walObj x p 0 40 1 * R))))) 42
    [(true, 0), (true, 1), (true, 2), (true, 3), (true, 4), (true, 5), (true, 6), (true, 7), (true, 8), (true, 9), (true, 10), (true, 11), (true, 12), (true, 13), (true, 14), (true, 15), (true, 16), (true, 17), (true, 18), (true, 19), (true, 20), (true, 21), (true, 22), (true, 23), (true, 24), (true, 25), (true, 26), (true, 27), (true, 28), (true, 29), (true, 30), (true, 31), (true, 32), (true, 33), (true, 34), (true, 35), (true, 36), (true, 37), (false, 38), (false, 39), (true, 40), (true, 41)] [(true, 42)] (by kernel_rfl) (by kernel_rfl) h37.drew ?_
  simp only [pick, List.getElem?_cons_zero, List.getElem?_cons_succ]
  refine wpL_guarded (v := ?_) rfl (fun w' hS => ?_) ?_
  rotate_left
  · (go_simp; try with_reducible rfl)
  simp only [Act.put, List.setIfInBounds_toArray, List.set_cons_zero, List.set_cons_succ]
  refine wpL_guarded (v := ?_) rfl (fun w' hS => ?_) ?_
  rotate_left
  · (go_simp; try with_reducible rfl)
  simp only [Act.put, List.setIfInBounds_toArray, List.set_cons_zero, List.set_cons_succ]
  refine wpL_guarded (v := ?_) rfl (fun w' hS => ?_) ?_
  rotate_left
  · (go_simp; try with_reducible rfl)
  simp only [Act.put, List.setIfInBounds_toArray, List.set_cons_zero, List.set_cons_succ]
  refine wpL_guarded (v := ?_) rfl (fun w' hS => ?_) ?_
  rotate_left
  · (go_simp; try with_reducible rfl)
  simp only [Act.put, List.setIfInBounds_toArray, List.set_cons_zero, List.set_cons_succ]
  refine wpL_guarded (v := ?_) rfl (fun w' hS => ?_) ?_
  rotate_left
  · (go_simp; try with_reducible rfl)
  simp only [Act.put, List.setIfInBounds_toArray, List.set_cons_zero, List.set_cons_succ]
  refine wpL_guarded (v := ?_) rfl (fun w' hS => ?_) ?_
  rotate_left
  · (go_simp; try with_reducible rfl)
  simp only [Act.put, List.setIfInBounds_toArray, List.set_cons_zero, List.set_cons_succ]
  refine wpL_guarded (v := ?_) rfl (fun w' hS => ?_) ?_
  rotate_left
  · (go_simp; try with_reducible rfl)
  simp only [Act.put, List.setIfInBounds_toArray, List.set_cons_zero, List.set_cons_succ]
  refine wpL_guarded (v := ?_) rfl (fun w' hS => ?_) ?_
  rotate_left
  · (go_simp; try with_reducible rfl)
  simp only [Act.put, List.setIfInBounds_toArray, List.set_cons_zero, List.set_cons_succ]
  refine wpL_guarded (v := ?_) rfl (fun w' hS => ?_) ?_
  rotate_left
  · (go_simp; try with_reducible rfl)
  simp only [Act.put, List.setIfInBounds_toArray, List.set_cons_zero, List.set_cons_succ]
  refine wpL_guarded (v := ?_) rfl (fun w' hS => ?_) ?_
  rotate_left
  · (go_simp; try with_reducible rfl)
  simp only [Act.put, List.setIfInBounds_toArray, List.set_cons_zero, List.set_cons_succ]
  refine wpL_guarded (v := ?_) rfl (fun w' hS => ?_) ?_
  rotate_left
  · (go_simp; try with_reducible rfl)
  simp only [Act.put, List.setIfInBounds_toArray, List.set_cons_zero, List.set_cons_succ]
  refine wpL_guarded (v := ?_) rfl (fun w' hS => ?_) ?_
  rotate_left
  · (go_simp; try with_reducible rfl)
  simp only [Act.put, List.setIfInBounds_toArray, List.set_cons_zero, List.set_cons_succ]
  refine wpL_guarded (v := ?_) rfl (fun w' hS => ?_) ?_
  rotate_left
  · (go_simp; try with_reducible rfl)
  simp only [Act.put, List.setIfInBounds_toArray, List.set_cons_zero, List.set_cons_succ]
  refine wpL_guarded (v := ?_) rfl (fun w' hS => ?_) ?_
  rotate_left
  · (go_simp; try with_reducible rfl)
  simp only [Act.put, List.setIfInBounds_toArray, List.set_cons_zero, List.set_cons_succ]
  refine wpL_guarded (v := ?_) rfl (fun w' hS => ?_) ?_
  rotate_left
  · (go_simp; try with_reducible rfl)
  simp only [Act.put, List.setIfInBounds_toArray, List.set_cons_zero, List.set_cons_succ]
  refine wpL_guarded (v := ?_) rfl (fun w' hS => ?_) ?_
  rotate_left
  · (go_simp; try with_reducible rfl)
  simp only [Act.put, List.setIfInBounds_toArray, List.set_cons_zero, List.set_cons_succ]
  refine wpL_guarded (v := ?_) rfl (fun w' hS => ?_) ?_
  rotate_left
  · (go_simp; try with_reducible rfl)
  simp only [Act.put, List.setIfInBounds_toArray, List.set_cons_zero, List.set_cons_succ]
  refine wpL_guarded (v := ?_) rfl (fun w' hS => ?_) ?_
  rotate_left
  · (go_simp; try with_reducible rfl)
  simp only [Act.put, List.setIfInBounds_toArray, List.set_cons_zero, List.set_cons_succ]
  refine wpL_guarded (v := ?_) rfl (fun w' hS => ?_) ?_
  rotate_left
  · (go_simp; try with_reducible rfl)
  simp only [Act.put, List.setIfInBounds_toArray, List.set_cons_zero, List.set_cons_succ]
  refine wpL_guarded (v := ?_) rfl (fun w' hS => ?_) ?_
  rotate_left
  · (go_simp; try with_reducible rfl)
  simp only [Act.put, List.setIfInBounds_toArray, List.set_cons_zero, List.set_cons_succ]
  refine wpL_guarded (v := ?_) rfl (fun w' hS => ?_) ?_
  rotate_left
  · (go_simp; try with_reducible rfl)
  simp only [Act.put, List.setIfInBounds_toArray, List.set_cons_zero, List.set_cons_succ]
  refine wpL_guarded (v := ?_) rfl (fun w' hS => ?_) ?_
  rotate_left
  · (go_simp; try with_reducible rfl)
  simp only [Act.put, List.setIfInBounds_toArray, List.set_cons_zero, List.set_cons_succ]
  refine wpL_guarded (v := ?_) rfl (fun w' hS => ?_) ?_
  rotate_left
  · (go_simp; try with_reducible rfl)
  simp only [Act.put, List.setIfInBounds_toArray, List.set_cons_zero, List.set_cons_succ]
  refine wpL_guarded (v := ?_) rfl (fun w' hS => ?_) ?_
  rotate_left
  · (go_simp; try with_reducible rfl)
  simp only [Act.put, List.setIfInBounds_toArray, List.set_cons_zero, List.set_cons_succ]
  refine wpL_guarded (v := ?_) rfl (fun w' hS => ?_) ?_
  rotate_left
  · (go_simp; try with_reducible rfl)
  simp only [Act.put, List.setIfInBounds_toArray, List.set_cons_zero, List.set_cons_succ]
  refine wpL_guarded (v := ?_) rfl (fun w' hS => ?_) ?_
  rotate_left
  · (go_simp; try with_reducible rfl)
  simp only [Act.put, List.setIfInBounds_toArray, List.set_cons_zero, List.set_cons_succ]
  refine wpL_guarded (v := ?_) rfl (fun w' hS => ?_) ?_
  rotate_left
  · (go_simp; try with_reducible rfl)
  simp only [Act.put, List.setIfInBounds_toArray, List.set_cons_zero, List.set_cons_succ]
  refine wpL_guarded (v := ?_) rfl (fun w' hS => ?_) ?_
  rotate_left
  · (go_simp; try with_reducible rfl)
  simp only [Act.put, List.setIfInBounds_toArray, List.set_cons_zero, List.set_cons_succ]
  refine wpL_guarded (v := ?_) rfl (fun w' hS => ?_) ?_
  rotate_left
  · (go_simp; try with_reducible rfl)
  simp only [Act.put, List.setIfInBounds_toArray, List.set_cons_zero, List.set_cons_succ]
  refine wpL_guarded (v := ?_) rfl (fun w' hS => ?_) ?_
  rotate_left
  · (go_simp; try with_reducible rfl)
  simp only [Act.put, List.setIfInBounds_toArray, List.set_cons_zero, List.set_cons_succ]
  refine wpL_guarded (v := ?_) rfl (fun w' hS => ?_) ?_
  rotate_left
  · (go_simp; try with_reducible rfl)
  simp only [Act.put, List.setIfInBounds_toArray, List.set_cons_zero, List.set_cons_succ]
  refine wpL_guarded (v := ?_) rfl (fun w' hS => ?_) ?_
  rotate_left
  · (go_simp; try with_reducible rfl)
  simp only [Act.put, List.setIfInBounds_toArray, List.set_cons_zero, List.set_cons_succ]
  refine wpL_guarded (v := ?_) rfl (fun w' hS => ?_) ?_
  rotate_left
  · (go_simp; try with_reducible rfl)
  simp only [Act.put, List.setIfInBounds_toArray, List.set_cons_zero, List.set_cons_succ]
  refine wpL_guarded (v := ?_) rfl (fun w' hS => ?_) ?_
  rotate_left
  · (go_simp; try with_reducible rfl)
  simp only [Act.put, List.setIfInBounds_toArray, List.set_cons_zero, List.set_cons_succ]
  refine wpL_guarded (v := ?_) rfl (fun w' hS => ?_) ?_
  rotate_left
  · (go_simp; try with_reducible rfl)
  simp only [Act.put, List.setIfInBounds_toArray, List.set_cons_zero, List.set_cons_succ]
  refine wpL_guarded (v := ?_) rfl (fun w' hS => ?_) ?_
  rotate_left
  · (go_simp; try with_reducible rfl)
  simp only [Act.put, List.setIfInBounds_toArray, List.set_cons_zero, List.set_cons_succ]
  refine wpL_guarded (v := ?_) rfl (fun w' hS => ?_) ?_
  rotate_left
  · (go_simp; try with_reducible rfl)
  simp only [Act.put, List.setIfInBounds_toArray, List.set_cons_zero, List.set_cons_succ]
  refine wpL_guarded rfl (fun w' hS => exec_convert rfl rfl (run_convert_in (rowA_bytes F64.out.symm _ hS))) ?_
  refine wpL_effG rfl ?_
  go_simp
  refine (full_any h37.drew 1).mono ?_
  rintro e w38 ⟨g8, rfl, h38⟩
  rw [Hf1.out] at h38
  refine ⟨h38.right, ?_⟩
  refine wpL_effG rfl (wp_of_run (exec_convert rfl rfl (run_convert_in (BytesIn.tells _ _ F64.out.symm _ h38))) ⟨h38.right, ?_⟩)
  simp only [Act.put, List.setIfInBounds_toArray, List.set_cons_zero, List.set_cons_succ]
  refine wpL_guarded (v := ?_) rfl (fun w' hS => ?_) ?_
  rotate_left
  · (go_simp; try with_reducible rfl)
  simp only [Act.put, List.setIfInBounds_toArray, List.set_cons_zero, List.set_cons_succ]
  refine wpL_guarded (v := ?_) rfl (fun w' hS => ?_) ?_
  rotate_left
  · (go_simp; try with_reducible rfl)
  simp only [Act.put, List.setIfInBounds_toArray, List.set_cons_zero, List.set_cons_succ]
  refine wpL_nil ?_
  refine wpL_yield (v := ?_) rfl (fun w' hS => ?_) ?_
  rotate_left
  · (go_simp; try with_reducible rfl)
  simp only [Act.put, List.setIfInBounds_toArray, List.set_cons_zero]
  refine wpL_nil ?_
  go_wp2
  go_ret
  exact ⟨rfl, h38.right.right.right.right.right⟩

end Go.Proofs.Ytggbnelbnbaoiaa

/- A row of numbers below a bound, none twice, is short; plain; no condition. -/
namespace Go.Proofs.Ytggbnelbnbaoiaa

theorem nodup_bound : ∀ (n : Nat) (l : List Int), l.Nodup → (∀ i ∈ l, 0 ≤ i ∧ i < n) → l.length ≤ n
  | 0, [], _, _ => Nat.le_refl _
  | 0, i :: l, _, h => by have := h i (by simp); omega
  | n + 1, l, hn, h => by
    by_cases hm : (n : Int) ∈ l
    · have h1 := nodup_bound n (l.erase (n : Int)) (hn.erase _) (fun i hi => by
        obtain ⟨h1, h2⟩ := hn.mem_erase_iff.1 hi
        have := h i h2
        omega)
      rw [List.length_erase_of_mem hm] at h1
      omega
    · have := nodup_bound n l hn (fun i hi => by
        have h1 := h i hi
        have : i ≠ (n : Int) := fun e => hm (e ▸ hi)
        omega)
      omega

end Go.Proofs.Ytggbnelbnbaoiaa

/- CachePlays: the cache and the document's go together; no condition. -/
namespace Go.Proofs.Ytggbnelbnbaoiaa
open Go.RowKit Go.MapKept

theorem kindC_lt (c : Int) (m : Nat) (hm : 0 < m) : ∃ s : Nat, s < m ∧ (if c < 0 then (-(c + 1)) % (m : Int) else c % (m : Int)) = (s : Int) := by
  have h : 0 ≤ (if c < 0 then (-(c + 1)) % (m : Int) else c % (m : Int)) ∧ (if c < 0 then (-(c + 1)) % (m : Int) else c % (m : Int)) < (m : Int) := by
    split
    · exact ⟨Int.emod_nonneg _ (by omega), Int.emod_lt_of_pos _ (by omega)⟩
    · exact ⟨Int.emod_nonneg _ (by omega), Int.emod_lt_of_pos _ (by omega)⟩
  exact ⟨(if c < 0 then (-(c + 1)) % (m : Int) else c % (m : Int)).toNat, by omega, by omega⟩

structure SameC (cm : CacheM) (d dr : DiskM) (g : Nat) (F : Nat → Sec) (k : Nat) : Prop where
  log : LogOn d 0 40 g F
  few : g ≤ k
  fuse : d.fuse = -1
  len : d.len = 100
  roff : dr.off = false
  rfuse : dr.fuse = -1
  rquiet : dr.waits = []
  rlen : dr.len = 100
  same : ∀ i, 40 ≤ i → dr.sure i = F i
  range : ∀ y ∈ cm.lines, 0 ≤ y.at' ∧ y.at' < 100
section
variable {cm cm' : CacheM} {d dr : DiskM} {g k : Nat} {F : Nat → Sec}
theorem SameC.length (h : SameC cm d dr g F k) (hnd : (cm.lines.map (·.at')).Nodup) : cm.lines.length ≤ 100 := by
  have := nodup_bound 100 _ hnd (fun i hi => by
    obtain ⟨y, hy, rfl⟩ := List.mem_map.1 hi
    exact h.range y hy)
  simpa using this
theorem SameC.more (h : SameC cm d dr g F k) : SameC cm d dr g F (k + 1) := ⟨h.log, by have := h.few; omega, h.fuse, h.len, h.roff, h.rfuse, h.rquiet, h.rlen, h.same, h.range⟩
theorem SameC.with (h : SameC cm d dr g F k) (hr : ∀ y ∈ cm'.lines, 0 ≤ y.at' ∧ y.at' < 100) : SameC cm' d dr g F k := ⟨h.log, h.few, h.fuse, h.len, h.roff, h.rfuse, h.rquiet, h.rlen, h.same, hr⟩
theorem SameC.check (h : SameC cm d dr g F k) (i : Int) : d.check i = dr.check i := by
  unfold DiskM.check
  rw [h.log.off, h.roff, h.len, h.rlen]
theorem SameC.read (h : SameC cm d dr g F k) {i : Int} (hi : ¬ (0 ≤ i ∧ i < 40)) : cm.read dr i = cm.read d i := by
  unfold CacheM.read
  cases findL i cm.lines with
  | some y => rfl
  | none =>
    simp only
    rw [← h.check]
    by_cases hc : d.check i ≠ 0
    · rw [if_pos hc, if_pos hc]
    · rw [if_neg hc, if_neg hc]
      have h0 := check_range (Decidable.not_not.1 hc)
      obtain ⟨n, rfl⟩ := Int.eq_ofNat_of_zero_le h0.2.1
      have e : dr.now ((n : Int)).toNat = d.now ((n : Int)).toNat := by
        rw [show ((n : Int)).toNat = n from rfl, h.log.now (by omega)]
        have : dr.now n = dr.sure n := by unfold DiskM.now; rw [h.rquiet]; rfl
        rw [this]
        exact h.same n (by omega)
      rw [e]
theorem SameC.readTo (h : SameC cm d dr g F k) {i r : Int} {s : Sec} (hr : cm.read d i = (r, s, cm')) : SameC cm' d dr g F k := by
  unfold CacheM.read at hr
  cases hf : findL i cm.lines with
  | some y =>
    rw [hf] at hr
    simp only [Prod.mk.injEq] at hr
    obtain ⟨_, _, rfl⟩ := hr
    refine h.with (fun z hz => ?_)
    rcases mem_useL ((trimL_sub _ _ _).subset hz) with rfl | hz
    · exact h.range _ (findL_mem hf).1
    · exact h.range z hz
  | none =>
    rw [hf] at hr
    simp only at hr
    by_cases hc : d.check i ≠ 0
    · rw [if_pos hc] at hr
      simp only [Prod.mk.injEq] at hr
      obtain ⟨_, _, rfl⟩ := hr
      exact h
    · rw [if_neg hc] at hr
      simp only [Prod.mk.injEq] at hr
      obtain ⟨_, _, rfl⟩ := hr
      have h0 := check_range (Decidable.not_not.1 hc)
      have hl := h.len
      refine h.with (fun z hz => ?_)
      rcases mem_useL ((trimL_sub _ _ _).subset hz) with rfl | hz
      · simp only; omega
      · exact h.range z hz
theorem SameC.writeTo (h : SameC cm d dr g F k) {i r : Int} {b : Sec} (hr : cm.write 100 i b = (r, cm')) : SameC cm' d dr g F k := by
  unfold CacheM.write at hr
  split at hr
  · simp only [Prod.mk.injEq] at hr; obtain ⟨_, rfl⟩ := hr; exact h
  · split at hr
    · simp only [Prod.mk.injEq] at hr; obtain ⟨_, rfl⟩ := hr; exact h
    · split at hr
      · simp only [Prod.mk.injEq] at hr; obtain ⟨_, rfl⟩ := hr; exact h
      · simp only [Prod.mk.injEq] at hr
        obtain ⟨_, rfl⟩ := hr
        refine h.with (fun z hz => ?_)
        rcases mem_useL hz with rfl | hz
        · simp only; omega
        · exact h.range z hz
theorem SameC.beginTo (h : SameC cm d dr g F k) {r : Int} (hr : cm.begins = (r, cm')) : SameC cm' d dr g F k := by
  unfold CacheM.begins at hr
  split at hr
  · simp only [Prod.mk.injEq] at hr; obtain ⟨_, rfl⟩ := hr; exact h
  · simp only [Prod.mk.injEq] at hr; obtain ⟨_, rfl⟩ := hr; exact h.with h.range
theorem SameC.abortTo (h : SameC cm d dr g F k) {r : Int} (hr : cm.abort = (r, cm')) : SameC cm' d dr g F k := by
  unfold CacheM.abort at hr
  split at hr
  · simp only [Prod.mk.injEq] at hr; obtain ⟨_, rfl⟩ := hr; exact h
  · simp only [Prod.mk.injEq] at hr
    obtain ⟨_, rfl⟩ := hr
    exact h.with (fun z hz => h.range z (List.mem_filter.1 hz).1)
theorem SameC.commitTo (h : SameC cm d dr g F k) {d' dr' : DiskM} (hL : LogOn d' 0 40 (g + 1) (overL F cm.lines)) (hf : d'.fuse = -1) (hl : d'.len = d.len) (h1 : dr'.off = false) (h2 : dr'.fuse = -1) (h3 : dr'.waits = []) (h4 : dr'.len = dr.len) (h5 : dr'.sure = overL dr.sure cm.lines) : SameC cm.commits d' dr' (g + 1) (overL F cm.lines) (k + 1) := by
  refine ⟨hL, by have := h.few; omega, hf, by rw [hl]; exact h.len, h1, h2, h3, by rw [h4]; exact h.rlen, fun i hi => ?_, fun z hz => ?_⟩
  · rw [h5]
    unfold overL
    cases findL (i : Int) cm.lines with
    | none => exact h.same i hi
    | some y =>
      simp only
      split
      · rfl
      · exact h.same i hi
  · have hz := (trimL_sub _ _ _).subset hz
    unfold unpinL at hz
    obtain ⟨y, hy, rfl⟩ := List.mem_map.1 hz
    exact h.range y hy
end

/-- A reading of the program's cache, whatever it finds. -/
theorem cread_one {c p x : Nat} {cm cm' : CacheM} {d : DiskM} {R : Assn} {w : World} {i r : Int} {s : Sec} (h : Bears w (cacheA c p x cm * (diskA p d * R))) (hlen : cm.lines.length < 1099511627775) (hr : cm.read d i = (r, s, cm')) :
    Calls Try.prog 25 #[.pointer (some ⟨c, 0, none⟩), .int .i64 i] w fun e w' => ∃ ad n cap, e = .returned (.tuple #[.slice ad n cap, .int .i64 r]) ∧ Bears w' (bufA (.slice ad n cap) s * (cacheA c p x cm' * (diskA p d * R))) := by
  unfold CacheM.read at hr
  cases hf : findL i cm.lines with
  | some y =>
    rw [hf] at hr
    simp only [Prod.mk.injEq] at hr
    obtain ⟨rfl, rfl, rfl⟩ := hr
    refine (cread_held_to h hf rfl hlen).mono ?_
    rintro e w' ⟨ad, cap, rfl, h2⟩
    exact ⟨ad, 64, cap, rfl, h2.bufRow⟩
  | none =>
    rw [hf] at hr
    simp only at hr
    by_cases hc : d.check i ≠ 0
    · rw [if_pos hc] at hr
      simp only [Prod.mk.injEq] at hr
      obtain ⟨rfl, rfl, rfl⟩ := hr
      refine (cread_no_to h hf rfl hc).mono ?_
      rintro e w' ⟨rfl, h2⟩
      exact ⟨none, 0, 0, rfl, h2.bufNil⟩
    · rw [if_neg hc] at hr
      simp only [Prod.mk.injEq] at hr
      obtain ⟨rfl, rfl, rfl⟩ := hr
      refine (cread_disk_to h hf (Decidable.not_not.1 hc) rfl rfl hlen).mono ?_
      rintro e w' ⟨ad, cap, rfl, h2⟩
      exact ⟨ad, 64, cap, rfl, h2.bufRow⟩

set_option maxHeartbeats 400000 in
theorem plain_any {R : Assn} {w : World} (h : Bears w R) (most : Int) :
    Calls Try.prog 24 #[.int .i64 most] w fun e w' => ∃ y yd Y, e = .returned (.pointer (some ⟨y, 0, none⟩)) ∧ Bears w' (refC y yd Y (CacheM.new most) (DiskM.new 100) * (Y * R)) := by
  go_enter Try.func24, Try.ntmps24
  go_wp2_with fail
  refine (rnew_ok h 100 (by decide) (by decide)).mono ?_
  rintro e w1 ⟨yd, Y, rfl, h1⟩
  go_wp2_with fail
  go_ret
  exact ⟨w1.heap.size, yd, Y, rfl, Bears.rc.2 ⟨[], .slice none 0 0, 0, rfl, LinesOk.nil Y, h1.alloc _⟩⟩

end Go.Proofs.Ytggbnelbnbaoiaa
