/- The statements of the cache: rows of ints that are compared; what a commit lays down; the ground; no condition. -/
import Derived.Test.YtaiobekochhemaaCLawA
namespace Go.Proofs.Ytaiobekochhemaa
open Go.RowKit Go.MapKept

theorem rowA_ints {e : TypeId} {ad : Option Addr} {n cap : Nat} {l : List Int} {R : Assn} (hn : n = l.length) : (rowA e 1 (.slice ad n cap) n (intsV l) * R).Tells (fun w => IntsIn w (.slice ad n cap) l) := by
  intro w h
  subst hn
  refine ⟨ad, cap, rfl, fun hne => ?_⟩
  obtain ⟨g, rfl, _⟩ := h.rowAt (k := 0) (by cases l with | nil => exact absurd rfl hne | cons _ _ => simp)
  refine ⟨g, 0, rfl, fun j v hv => ?_⟩
  have hj : j < l.length := by have := (List.getElem?_eq_some_iff.1 hv).1; simpa using this
  have := h.rowObj' hj
  rw [Nat.zero_add, this]
  simp [hj] at hv
  simp [hj, ← hv]

theorem list_snoc_ne {a b : List Int} {k : Nat} (hk : k < a.length) (h : a.getD k 0 ≠ b.getD k 0) : a ≠ b := by rintro rfl; exact h rfl
theorem list_ext_getD {a b : List Int} (hl : a.length = b.length) (h : ∀ k, k < a.length → a.getD k 0 = b.getD k 0) : a = b := by
  refine List.ext_getElem hl fun k h1 h2 => ?_
  have := h k h1
  simpa [h1, h2] using this

set_option maxRecDepth 100000 in
set_option maxHeartbeats 1000000 in
theorem ints_any {R : Assn} {w : World} (h : Bears w R) {a b : List Int} {aa ba : Option Addr} {na nb ac bc : Nat} (ha : R.Tells (fun w => IntsIn w (.slice aa na ac) a)) (hb : R.Tells (fun w => IntsIn w (.slice ba nb bc) b)) (hl : na ≤ 9223372036854775806) (hl2 : nb ≤ 9223372036854775806) :
    Calls Try.prog 35 #[.slice aa na ac, .slice ba nb bc] w fun e w' => e = .returned (.bool (decide (a = b))) ∧ Bears w' R := by
  obtain ⟨_, _, e1, _⟩ := ha w h
  obtain ⟨_, _, e2, _⟩ := hb w h
  simp only [Value.slice.injEq] at e1 e2
  obtain ⟨-, rfl, -⟩ := e1
  obtain ⟨-, rfl, -⟩ := e2
  by_cases hne : a.length = b.length
  · have hd : ((a.length : Int) != (b.length : Int)) = false := by rw [bne_eq_false_iff_eq]; omega
    have Hne := Lib.hid hne
    have hle : a.length ≤ b.length := by omega
    clear hne
    go_enter Try.func35, Try.ntmps35
    go_wp2_with fail
    go_loopw [5] (fun i wr => ∃ k : Nat, k ≤ a.length ∧ i = .int .i64 k ∧ (∀ j, j < k → a.getD j 0 = b.getD j 0) ∧ Bears wr R) (fun i _ => a.length - (intOf i).toNat)
    case atStart => exact ⟨0, by omega, rfl, fun j hj => absurd hj (by omega), h⟩
    case round =>
      obtain ⟨k, hk, rfl, hall, h1⟩ := hrel
      have Hall := Lib.hid hall
      clear hall
      by_cases hlt : k < a.length
      · have hltb : k < b.length := Nat.lt_of_lt_of_le hlt hle
        obtain ⟨ga, oa, rfl, hra⟩ := (ha wr h1).at (by intro e; rw [e] at hlt; simp at hlt)
        obtain ⟨gb, ob, rfl, hrb⟩ := (hb wr h1).at (by intro e; rw [e] at hltb; simp at hltb)
        have ca : wr.cell? ⟨ga, oa + k, none⟩ = some (.int .i64 (a.getD k 0)) := hra k _ (by simp [hlt])
        have cb : wr.cell? ⟨gb, ob + k, none⟩ = some (.int .i64 (b.getD k 0)) := hrb k _ (by simp [Nat.lt_of_lt_of_le hlt hle])
        obtain ⟨x, hx⟩ : ∃ x, a.getD k 0 = x := ⟨_, rfl⟩
        obtain ⟨y, hy⟩ : ∃ y, b.getD k 0 = y := ⟨_, rfl⟩
        rw [hx] at ca
        rw [hy] at cb
        have Hx := Lib.hid hx
        have Hy := Lib.hid hy
        clear hx hy hra hrb
        have ca' : wr.drew.cell? ⟨ga, oa + k, none⟩ = some (.int .i64 x) := ca
        have cb' : wr.drew.cell? ⟨gb, ob + k, none⟩ = some (.int .i64 y) := cb
        by_cases hxy : x = y
        · have hn : (x != y) = false := by rw [bne_eq_false_iff_eq]; exact hxy
          have Hxy := Lib.hid hxy
          clear hxy
          go_wp2_with fail
          refine wp_region_tail 8 (by kernel_rfl) (by kernel_rfl) ?_
          simp only [List.take_succ_cons, List.take_zero, List.drop_succ_cons, List.drop_zero]
          iterate 8 still_step
          refine wpStill_nil ?_
          go_wp2_with fail
          go_roundw
          case rel =>
            refine ⟨k + 1, hlt, by go_num, fun j hj => ?_, h1.drew⟩
            rcases Nat.lt_succ_iff_lt_or_eq.1 hj with hj | rfl
            · exact Hall.out j hj
            · rw [Hx.out, Hy.out]; exact Hxy.out
          case measure => simp [intOf]; omega
        · have hn : (x != y) = true := by rw [bne_iff_ne]; exact hxy
          have hres : decide (a = b) = false := decide_eq_false (list_snoc_ne hlt (by rw [Hx.out, Hy.out]; exact hxy))
          clear hxy
          go_wp2_with fail
          refine wp_region_tail 8 (by kernel_rfl) (by kernel_rfl) ?_
          simp only [List.take_succ_cons, List.take_zero, List.drop_succ_cons, List.drop_zero]
          iterate 8 still_step
          refine wpStill_nil ?_
          go_wp2_with fail
          go_ret
          exact ⟨by rw [hres]; rfl, h1.drew⟩
      · obtain rfl : k = a.length := by omega
        have hres : decide (a = b) = true := decide_eq_true (list_ext_getD Hne.out Hall.out)
        go_wp2_with fail
        go_ret
        exact ⟨by rw [hres]; rfl, h1⟩
  · have hd : ((a.length : Int) != (b.length : Int)) = true := by rw [bne_iff_ne]; omega
    have hres : decide (a = b) = false := decide_eq_false (by rintro rfl; exact hne rfl)
    clear hne
    go_enter Try.func35, Try.ntmps35
    go_wp2_with fail
    go_ret
    exact ⟨by rw [hres]; rfl, h⟩

/-! ### What a commit lays down -/
def overL (F : Nat → Sec) (ls : List LineM) : Nat → Sec := fun i => match findL (i : Int) ls with | some y => if y.pin = true then y.b else F i | none => F i
theorem PutsOf.apply {l : List PutM} {ls : List LineM} (h : PutsOf l ls) (hn : (ls.map (·.at')).Nodup) (hp : ∀ y ∈ ls, y.pin = true → 0 ≤ y.at') (F : Nat → Sec) : applyPuts F l = overL F ls := by
  funext i
  unfold overL
  rcases applyPuts_or l i with ⟨q, hq, e, h1⟩ | ⟨h1, h2⟩
  · obtain ⟨y, hy, hyp, hya, hyb⟩ := h.bytes q hq
    have h0 := hp y hy hyp
    have : findL (i : Int) ls = some y := by
      have := findL_of_mem hn hy
      rwa [show y.at' = (i : Int) by omega] at this
    rw [h1, this]
    simp only [hyp, if_true, hyb]
  · rw [h2]
    cases hf : findL (i : Int) ls with
    | none => rfl
    | some y =>
      obtain ⟨hy, hya⟩ := findL_mem hf
      simp only
      split
      · rename_i hyp
        exfalso
        have : y.at' ∈ l.map (·.sector) := h.perm.mem_iff.2 (List.mem_map.2 ⟨y, List.mem_filter.2 ⟨hy, hyp⟩, rfl⟩)
        obtain ⟨q, hq, hqs⟩ := List.mem_map.1 this
        exact h1 q hq (by omega)
      · rfl

theorem wMayTo_of {len a s : Nat} : ∀ (l seen : List PutM), ((seen ++ l).map (·.sector)).Nodup → (∀ q ∈ l, ¬ ((a : Int) ≤ q.sector ∧ q.sector < a + s) ∧ 0 ≤ q.sector ∧ q.sector < len ∧ q.bytes.length = 64) → wMayTo len a s seen l = true
  | [], _, _, _ => rfl
  | q :: l, seen, hn, hq => by
    simp only [wMayTo, Bool.and_eq_true]
    refine ⟨?_, wMayTo_of l (seen ++ [q]) (by simpa using hn) (fun p hp => hq p (List.mem_cons_of_mem _ hp))⟩
    obtain ⟨h1, h2, h3, h4⟩ := hq q (by simp)
    unfold wOk
    have h5 : (seen.any fun p => p.sector == q.sector) = false := by
      rw [Bool.eq_false_iff]
      intro h
      obtain ⟨p, hp, he⟩ := List.any_eq_true.1 h
      rw [List.map_append, List.map_cons, List.nodup_append] at hn
      exact hn.2.2 p.sector (List.mem_map.2 ⟨p, hp, rfl⟩) q.sector (by simp) (by simpa using he)
    simp only [h5, Bool.not_false, Bool.true_and, Bool.and_eq_true, Bool.not_eq_true', decide_eq_true_eq, beq_iff_eq, Bool.and_eq_false_iff, decide_eq_false_iff_not]
    refine ⟨⟨⟨?_, h2⟩, h3⟩, h4⟩
    by_cases h : (a : Int) ≤ q.sector
    · exact .inr fun h' => h1 ⟨h, h'⟩
    · exact .inl h
/-- The pinned lines are a group. -/
structure PinsOk (len a s : Nat) (ls : List LineM) : Prop where
  out : ∀ y ∈ ls, y.pin = true → ¬ ((a : Int) ≤ y.at' ∧ y.at' < a + s) ∧ 0 ≤ y.at' ∧ y.at' < len
  few : (ls.filter (·.pin)).length ≤ roomN s
theorem PutsOf.length {l : List PutM} {ls : List LineM} (h : PutsOf l ls) : l.length = (ls.filter (·.pin)).length := by
  have := h.perm.length_eq
  simpa using this
theorem PutsOf.may {l : List PutM} {ls : List LineM} {len a s : Nat} (h : PutsOf l ls) (hn : (ls.map (·.at')).Nodup) (hb : ∀ y ∈ ls, y.b.length = 64) (hp : PinsOk len a s ls) : wMay len a s l = true := by
  unfold wMay
  rw [Bool.and_eq_true, decide_eq_true_eq, h.length]
  refine ⟨wMayTo_of l [] ?_ fun q hq => ?_, hp.few⟩
  · simp only [List.nil_append]
    exact h.perm.nodup_iff.2 ((List.filter_sublist.map _).nodup hn)
  · obtain ⟨y, hy, hyp, hya, hyb⟩ := h.bytes q hq
    obtain ⟨h1, h2, h3⟩ := hp.out y hy hyp
    rw [← hya, ← hyb]
    exact ⟨h1, h2, h3, hb y hy⟩
theorem PutsOf.mayOnly {l : List PutM} {ls : List LineM} {len a s : Nat} (h : PutsOf l ls) (hm : wMay len a s l = true) : PinsOk len a s ls := by
  have hg := GroupOk.of hm
  refine ⟨fun y hy hyp => ?_, by rw [← h.length]; exact hg.room⟩
  have : y.at' ∈ l.map (·.sector) := h.perm.mem_iff.2 (List.mem_map.2 ⟨y, List.mem_filter.2 ⟨hy, hyp⟩, rfl⟩)
  obtain ⟨q, hq, hqs⟩ := List.mem_map.1 this
  obtain ⟨_, h1, h2, h3⟩ := hg.ok q hq
  rw [← hqs]
  exact ⟨h3, h1, h2⟩

set_option maxHeartbeats 400000 in
/-- A commit on a log at rest. -/
theorem ccommit_log {c p x a s g : Nat} {F : Nat → Sec} {cm : CacheM} {d : DiskM} {R : Assn} {w : World} (h : Bears w (cacheA c p x cm * (walObj x p a s (g : Int) * (diskA p d * R)))) (ho : cm.isOpen = true) (hL : LogOn d a s g F) (hf : d.fuse = -1)
    (hg : g < 4611686018427387904) (hlen : cm.lines.length < 1099511627775) :
    Calls Try.prog 31 #[.pointer (some ⟨c, 0, none⟩)] w fun e w' =>
      (e = .returned (.int .i64 0) ∧ PinsOk d.len a s cm.lines ∧ ∃ l d', wCommit d a s g l = (0, ((g + 1 : Nat) : Int), d') ∧ LogOn d' a s (g + 1) (overL F cm.lines) ∧ d'.fuse = -1 ∧ d'.len = d.len ∧ l.length = (cm.lines.filter (·.pin)).length ∧
        Bears w' (cacheA c p x cm.commits * (walObj x p a s ((g + 1 : Nat) : Int) * (diskA p d' * R)))) ∨
      (e = .returned (.int .i64 20) ∧ ¬ PinsOk d.len a s cm.lines ∧ Bears w' (cacheA c p x cm * (walObj x p a s (g : Int) * (diskA p d * R)))) := by
  obtain ⟨_, _, _, _, _, _, hwf, _⟩ := Bears.cache.1 h
  refine (ccommit_open h ho (by have := hL.place; have := hL.len; omega) (by have := hL.place; have := hL.len; omega) (hL.few _ (by decide)) hlen).mono ?_
  rintro e w' ⟨l, r, g', d', hP, hc, rfl, h2⟩
  cases hm : wMay d.len a s l with
  | true =>
    left
    have hok := hP.mayOnly hm
    obtain ⟨d2, h3, h4, h5, h6⟩ := hL.commits hf (by omega) hm
    rw [h3] at hc
    obtain ⟨rfl, rfl, rfl⟩ : (0 : Int) = r ∧ ((g + 1 : Nat) : Int) = g' ∧ d2 = d' := by simpa using hc
    rw [hP.apply hwf.nodup (fun y hy hp => (hok.out y hy hp).2.1)] at h4
    exact ⟨rfl, hok, l, d2, h3, h4, h5, h6, hP.length, by simpa using h2⟩
  | false =>
    right
    rw [wCommit_no hm] at hc
    obtain ⟨rfl, rfl, rfl⟩ : (20 : Int) = r ∧ (g : Int) = g' ∧ d = d' := by simpa using hc
    refine ⟨rfl, fun hok => ?_, by simpa using h2⟩
    rw [hP.may hwf.nodup hwf.bytes hok] at hm
    cases hm

set_option maxRecDepth 100000 in
set_option maxHeartbeats 400000 in
theorem ground3_any {R : Assn} {w : World} (h : Bears w R) (most : Int) (hm : 1 ≤ most ∧ most ≤ 9223372036854775807) :
    Calls Try.prog 22 #[.int .i64 most] w fun e w' => ∃ p c x d, e = .returned (.tuple #[.pointer (some ⟨p, 0, none⟩), .pointer (some ⟨c, 0, none⟩)]) ∧
      LogOn d 0 40 0 (fun _ => zeroSec) ∧ d.len = 100 ∧ d.fuse = -1 ∧ 0 ≤ d.steps ∧ d.steps ≤ 1000 ∧ Bears w' (cacheA c p x (CacheM.new most) * (walObj x p 0 40 0 * (diskA p d * R))) := by
  obtain ⟨d1, f1, l1, u1, n1⟩ := formats (d := DiskM.new 100) (a := 0) (s := 40) (F := fun _ => zeroSec) rfl rfl (by decide) (by decide) (by decide) (fun i _ => rfl)
  obtain ⟨f2, f3⟩ := l1.opens (by decide)
  have hst : 0 ≤ d1.steps ∧ d1.steps ≤ 1000 := by
    have : d1 = (wFormat (DiskM.new 100) 0 40).2 := by
      have := congrArg Prod.snd f1
      exact this.symm
    subst this
    simp [wFormat, wThere, wBoth, DiskM.new, DiskM.barrier, DiskM.write, DiskM.step, DiskM.check, headB_length, wrap64]
  have F1 := Lib.hid f1
  have F2 := Lib.hid f2
  have F3 := Lib.hid f3
  clear f1 f2 f3
  obtain ⟨m1, m2⟩ := hm
  go_enter Try.func22, Try.ntmps22
  go_wp2_with fail
  refine (new_ok h 100 (by omega) (by omega)).mono ?_
  rintro e w1 ⟨p, rfl, h1⟩
  go_wp2_with fail
  refine (format_to h1 F1.out (by omega) (by omega) (by decide)).mono ?_
  rintro e w2 ⟨rfl, h2⟩
  go_wp2_with fail
  refine (open_yes h2 F2.out F3.out (by omega) (by omega) (l1.few _ (by decide))).mono ?_
  rintro e w3 ⟨x, rfl, h3⟩
  go_wp2_with fail
  refine (cnew_ok h3 p x most m1 m2).mono ?_
  rintro e w4 ⟨c, rfl, h4⟩
  go_wp2_with fail
  go_ret2
  exact ⟨p, c, x, d1, rfl, l1, n1, u1, hst.1, hst.2, h4⟩

end Go.Proofs.Ytaiobekochhemaa
