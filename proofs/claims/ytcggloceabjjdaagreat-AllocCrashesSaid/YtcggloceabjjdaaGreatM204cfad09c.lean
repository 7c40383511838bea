/- Texts of this claim, put together: WalW5, WalW6; no condition. -/
import Derived.Test.YtcggloceabjjdaaGreatMaed18c983c
import Derived.Deep.DeepCutAuto
import Derived.Deep.CutBlock

set_option linter.unusedSimpArgs false
set_option linter.unusedVariables false

/- The log: what a group may be; no condition. -/
namespace Go.Proofs.YtcggloceabjjdaaGreat
open Go.RowKit Go.MapKept

/-- A slice of puts. -/
def PutsIn (w : World) (v : Value) (l : List PutM) : Prop :=
  ∃ ad cap, v = .slice ad l.length cap ∧ l.length ≤ cap ∧ (l ≠ [] → ∃ b o, ad = some ⟨b, o, none⟩ ∧ ∀ k, k < l.length → w.cell? ⟨b, o + k * 2, none⟩ = some (.int .i64 (l.getD k default).sector) ∧
    w.cell? ⟨b, o + k * 2 + 1, none⟩ = some (l.getD k default).val ∧ BytesIn w (l.getD k default).val (l.getD k default).bytes)
theorem PutsIn.len {w : World} {ad : Option Addr} {n cap : Nat} {l : List PutM} (h : PutsIn w (.slice ad n cap) l) : n = l.length := by
  obtain ⟨_, _, hv, _⟩ := h
  simp only [Value.slice.injEq] at hv
  exact hv.2.1
theorem PutsIn.le {w : World} {ad : Option Addr} {n cap : Nat} {l : List PutM} (h : PutsIn w (.slice ad n cap) l) : l.length ≤ cap := by
  obtain ⟨_, _, hv, hle, _⟩ := h
  simp only [Value.slice.injEq] at hv
  obtain ⟨_, _, rfl⟩ := hv
  exact hle
theorem PutsIn.cells {w : World} {ad : Option Addr} {n cap : Nat} {l : List PutM} (h : PutsIn w (.slice ad n cap) l) {k : Nat} (hk : k < l.length) :
    ∃ b o, ad = some ⟨b, o, none⟩ ∧ w.cell? ⟨b, o + k * 2, none⟩ = some (.int .i64 (l.getD k default).sector) ∧ w.cell? ⟨b, o + k * 2 + 1, none⟩ = some (l.getD k default).val ∧
      BytesIn w (l.getD k default).val (l.getD k default).bytes := by
  obtain ⟨_, _, hv, _, hr⟩ := h
  simp only [Value.slice.injEq] at hv
  obtain ⟨rfl, _, _⟩ := hv
  obtain ⟨b, o, e, hc⟩ := hr (by intro e; simp [e] at hk)
  exact ⟨b, o, e, hc k hk⟩
theorem PutsIn.bytes {R : Assn} {ad : Option Addr} {n cap : Nat} {l : List PutM} (h : R.Tells (fun w => PutsIn w (.slice ad n cap) l)) {k : Nat} (hk : k < l.length) : R.Tells (fun w => BytesIn w (l.getD k default).val (l.getD k default).bytes) := by
  intro w hw
  obtain ⟨_, _, _, _, _, h3⟩ := (h w hw).cells hk
  exact h3

theorem wMayTo_true {len a s : Nat} : ∀ (l seen : List PutM), wMayTo len a s seen l = true ↔ ∀ k, k < l.length → wOk len a s (seen ++ l.take k) (l.getD k default) = true
  | [], seen => by simp [wMayTo]
  | p :: r, seen => by
    simp only [wMayTo, Bool.and_eq_true]
    rw [wMayTo_true r (seen ++ [p])]
    constructor
    · rintro ⟨h1, h2⟩ k hk
      cases k with
      | zero => simpa using h1
      | succ k => simpa using h2 k (by simpa using hk)
    · intro h
      refine ⟨by simpa using h 0 (by simp), fun k hk => ?_⟩
      simpa using h (k + 1) (by simpa using hk)

/-- The sectors that were seen. -/
def Seen (m : List (Int × Value)) (l : List PutM) : Prop := ∀ x : Int, (getL x m).isSome = l.any fun q => q.sector == x
theorem Seen.put {m : List (Int × Value)} {l : List PutM} (h : Seen m l) (p : PutM) (v : Value) : Seen (putL p.sector v m) (l ++ [p]) := by
  intro x
  rw [getL_putL, List.any_append]
  by_cases e : x = p.sector
  · rw [if_pos e]; simp [e]
  · rw [if_neg e, h x]
    have : (p.sector == x) = false := by rw [beq_eq_false_iff_ne]; exact Ne.symm e
    simp [this]

/-- A look-up that tells whether there is one. -/
theorem wpList_lookup_ok_bears {P : Program} {ops : Array Oper} {rest : List Oper} {o : Oper} {a : Act} {Q : Exit → Act → World → Prop} {w : World} {R : Assn} {m x : Operand} {t kt et : TypeId} {b : Nat} {l : List (Int × Value)} {key : Int} {z : Value} (h : Bears w (mapA b l * R)) (hg : o.guard = none) (hop : o.op = .lookup t m x true)
    (ht : P.underlying t = some (.map kt et)) (hk : P.underlying kt = some (.int .i64)) (hz : (zeroValue et).run P w = .ok z w)
    (hm : a.eval m = .map (some b)) (hx : a.eval x = .int .i64 key)
    (hK : wpList P ops Q rest (a.put o.dst (.tuple #[(getL key l).getD z, .bool (getL key l).isSome])) w) : wpList P ops Q (o :: rest) a w := by
  obtain ⟨es, clock, hm', h'⟩ := h.ofMapA
  have hrun := run_lookup_int_ok ht hk hz h'.obj hm' key
  refine wpList_plain hg fun _ hK' => ?_
  unfold Oper.wp
  simp [execOp, hop, hm, hx, hrun, Result.andThen]
  exact hK' _ _ hK

theorem put_cells {w : World} {c : Nat} {sec : Int} {v : Value} {t : TypeId} {R : Assn} (h : Bears w (Assn.obj c (.cells #[.int .i64 sec, v] t (0, 0)) * R)) : w.cell? ⟨c, 0, none⟩ = some (.int .i64 sec) ∧ w.cell? ⟨c, 1, none⟩ = some v :=
  ⟨cell_of_obj h.obj 0, cell_of_obj h.obj 1⟩

theorem wMay_no {len a s k : Nat} {l : List PutM} {q : PutM} (hk : k < l.length) (hq : l.getD k default = q) (h : wOk len a s (l.take k) q = false) : wMay len a s l = false := by
  unfold wMay
  rw [Bool.and_eq_false_iff]
  left
  rw [← Bool.not_eq_true]
  intro h'
  have := (wMayTo_true l []).1 h' k hk
  rw [hq] at this
  rw [List.nil_append, h] at this
  cases this

set_option maxRecDepth 100000 in
set_option maxHeartbeats 1600000 in
theorem may_any {x p at' size : Nat} {g : Int} {d : DiskM} {R : Assn} {w : World} (h : Bears w (walObj x p at' size g * (diskA p d * R))) (l : List PutM) (ad : Option Addr) (cap : Nat) (hl : R.Tells (fun w => PutsIn w (.slice ad l.length cap) l))
    (hlen : l.length ≤ 9223372036854775807) (ha : at' ≤ 100000) (hs : size ≤ 100000) :
    Calls Tryz.prog 105 #[.pointer (some ⟨x, 0, none⟩), .slice ad l.length cap] w fun e w' => e = .returned (.bool (wMay d.len at' size l)) ∧ Bears w' (walObj x p at' size g * (diskA p d * R)) := by
  have hmm := @run_makeMap Tryz.prog
  go_enter Tryz.func105, Tryz.ntmps105
  go_wp2_with fail
  have h2 := (h.alloc (.map #[] 0)).toMapA (l := []) ⟨rfl, stamped_empty 0⟩
  go_loopw [14] (fun i wr => ∃ k : Nat, k ≤ l.length ∧ i = .int .i64 k ∧ (∀ j, j < k → wOk d.len at' size (l.take j) (l.getD j default) = true) ∧ ∃ m, Seen m (l.take k) ∧ Bears wr (mapA w.heap.size m * (walObj x p at' size g * (diskA p d * R))))
    (fun i _ => l.length - (intOf i).toNat)
  case atStart => exact ⟨0, by omega, rfl, fun j hj => absurd hj (by omega), [], fun _ => rfl, h2⟩
  case round =>
    obtain ⟨k, hk, rfl, hok, m, hm, h3⟩ := hrel
    by_cases hlt : k < l.length
    · obtain ⟨b, o, rfl, q1, q2, q3⟩ := (hl _ h3.right.right.right).cells hlt
      have hwn := wMay_no (len := d.len) (a := at') (s := size) hlt rfl
      have hdl : d.len ≤ 8192 := by obtain ⟨_, _, _, _, _, hwf, _⟩ := Bears.disk.1 h3.pull3; exact hwf.len
      generalize hc : l.getD k default = pt at q1 q2 hwn
      obtain ⟨sec, bs, ad', cap'⟩ := pt
      simp only [PutM.val] at q1 q2
      have h4 := h3.alloc (.cells #[.int .i64 sec, .slice ad' bs.length cap'] 115)
      have hsn := hm sec
      obtain ⟨tw, htw⟩ : ∃ tw, ((l.take k).any fun q => q.sector == sec) = tw := ⟨_, rfl⟩
      rw [htw] at hsn
      have Htw := Lib.hid htw
      clear htw
      have hz : ∀ w, (zeroValue 3).run Tryz.prog w = .ok (.int .i64 0) w := fun _ => by kernel_rfl
      have Hc := Lib.hid hc
      have Hwn := Lib.hid hwn
      have Hok := Lib.hid hok
      clear hc q3 hwn hok
      go_wp2_with (refine wpList_lookup_ok_bears h4.pull2 rfl rfl Tryz.underlying103 Tryz.underlying3 (hz _) rfl rfl ?_)
      generalize wr.alloc (.cells #[.int .i64 sec, .slice ad' bs.length cap'] 115) = w4 at h4
      generalize wr.heap.size = c at h4
      have h5 : Bears w4 (Assn.obj c (.cells #[.int .i64 sec, .slice ad' bs.length cap'] 115 (0, 0)) * (walObj x p at' size g * (diskA p d * (mapA w.heap.size m * R)))) := h4.cast (by ac_rfl)
      clear h3 h4 hsn
      go_cut [10] (fun s10 wr => s10 = .bool (decide ((at' : Int) ≤ sec) && decide (sec < at' + size)) ∧ Bears wr (Assn.obj c (.cells #[.int .i64 sec, .slice ad' bs.length cap'] 115 (0, 0)) * (walObj x p at' size g * (diskA p d * (mapA w.heap.size m * R)))))
      case first =>
        have w1 : IntKind.i64.wrap ((at' : Int) + size) = (at' : Int) + size := IntWalk.i64_in _ (by omega)
        by_cases c1 : (at' : Int) ≤ sec
        · have d1 : decide ((at' : Int) ≤ sec) = true := by simpa using c1
          refine wp_region_L (fun w' => ∃ Q, Bears w' (Assn.obj c (.cells #[.int .i64 sec, .slice ad' bs.length cap'] 115 (0, 0)) * (walObj x p at' size g * Q))) 21
            [(true, 0), (true, 1), (true, 2), (true, 3), (true, 4), (true, 5), (true, 6), (true, 7), (true, 8), (true, 9), (true, 10), (true, 11), (true, 12), (true, 13), (true, 14), (true, 15), (true, 16), (true, 17), (true, 18), (true, 19), (true, 20)] [(true, 21)] (by kernel_rfl) (by kernel_rfl) ⟨_, h5.drew⟩ ?_
          simp only [pick, List.getElem?_cons_zero, List.getElem?_cons_succ]
          refine wpL_yield (v := ?_) rfl (fun w' hS => ?_) ?_
          rotate_left
          · (obtain ⟨_, hS⟩ := hS; obtain ⟨p0, p1⟩ := put_cells hS; obtain ⟨c0, c1', c2, c3, _⟩ := wal_cells hS.pull2; go_simp; try with_reducible rfl)
          simp only [Act.put, List.setIfInBounds_toArray, List.set_cons_zero, List.set_cons_succ]
          refine wpL_yield (v := ?_) rfl (fun w' hS => ?_) ?_
          rotate_left
          · (obtain ⟨_, hS⟩ := hS; obtain ⟨p0, p1⟩ := put_cells hS; obtain ⟨c0, c1', c2, c3, _⟩ := wal_cells hS.pull2; go_simp; try with_reducible rfl)
          simp only [Act.put, List.setIfInBounds_toArray, List.set_cons_zero, List.set_cons_succ]
          refine wpL_yield (v := ?_) rfl (fun w' hS => ?_) ?_
          rotate_left
          · (obtain ⟨_, hS⟩ := hS; obtain ⟨p0, p1⟩ := put_cells hS; obtain ⟨c0, c1', c2, c3, _⟩ := wal_cells hS.pull2; go_simp; try with_reducible rfl)
          simp only [Act.put, List.setIfInBounds_toArray, List.set_cons_zero, List.set_cons_succ]
          refine wpL_yield (v := ?_) rfl (fun w' hS => ?_) ?_
          rotate_left
          · (obtain ⟨_, hS⟩ := hS; obtain ⟨p0, p1⟩ := put_cells hS; obtain ⟨c0, c1', c2, c3, _⟩ := wal_cells hS.pull2; go_simp; try with_reducible rfl)
          simp only [Act.put, List.setIfInBounds_toArray, List.set_cons_zero, List.set_cons_succ]
          refine wpL_yield (v := ?_) rfl (fun w' hS => ?_) ?_
          rotate_left
          · (obtain ⟨_, hS⟩ := hS; obtain ⟨p0, p1⟩ := put_cells hS; obtain ⟨c0, c1', c2, c3, _⟩ := wal_cells hS.pull2; go_simp; try with_reducible rfl)
          simp only [Act.put, List.setIfInBounds_toArray, List.set_cons_zero, List.set_cons_succ]
          refine wpL_yield (v := ?_) rfl (fun w' hS => ?_) ?_
          rotate_left
          · (obtain ⟨_, hS⟩ := hS; obtain ⟨p0, p1⟩ := put_cells hS; obtain ⟨c0, c1', c2, c3, _⟩ := wal_cells hS.pull2; go_simp; try with_reducible rfl)
          simp only [Act.put, List.setIfInBounds_toArray, List.set_cons_zero, List.set_cons_succ]
          refine wpL_yield (v := ?_) rfl (fun w' hS => ?_) ?_
          rotate_left
          · (obtain ⟨_, hS⟩ := hS; obtain ⟨p0, p1⟩ := put_cells hS; obtain ⟨c0, c1', c2, c3, _⟩ := wal_cells hS.pull2; go_simp; try with_reducible rfl)
          simp only [Act.put, List.setIfInBounds_toArray, List.set_cons_zero, List.set_cons_succ]
          refine wpL_yield (v := ?_) rfl (fun w' hS => ?_) ?_
          rotate_left
          · (obtain ⟨_, hS⟩ := hS; obtain ⟨p0, p1⟩ := put_cells hS; obtain ⟨c0, c1', c2, c3, _⟩ := wal_cells hS.pull2; go_simp; try with_reducible rfl)
          simp only [Act.put, List.setIfInBounds_toArray, List.set_cons_zero, List.set_cons_succ]
          refine wpL_guarded (v := ?_) rfl (fun w' hS => ?_) ?_
          rotate_left
          · (obtain ⟨_, hS⟩ := hS; obtain ⟨p0, p1⟩ := put_cells hS; obtain ⟨c0, c1', c2, c3, _⟩ := wal_cells hS.pull2; go_simp; try with_reducible rfl)
          simp only [Act.put, List.setIfInBounds_toArray, List.set_cons_zero, List.set_cons_succ]
          refine wpL_guarded (v := ?_) rfl (fun w' hS => ?_) ?_
          rotate_left
          · (obtain ⟨_, hS⟩ := hS; obtain ⟨p0, p1⟩ := put_cells hS; obtain ⟨c0, c1', c2, c3, _⟩ := wal_cells hS.pull2; go_simp; try with_reducible rfl)
          simp only [Act.put, List.setIfInBounds_toArray, List.set_cons_zero, List.set_cons_succ]
          refine wpL_guarded (v := ?_) rfl (fun w' hS => ?_) ?_
          rotate_left
          · (obtain ⟨_, hS⟩ := hS; obtain ⟨p0, p1⟩ := put_cells hS; obtain ⟨c0, c1', c2, c3, _⟩ := wal_cells hS.pull2; go_simp; try with_reducible rfl)
          simp only [Act.put, List.setIfInBounds_toArray, List.set_cons_zero, List.set_cons_succ]
          refine wpL_guarded (v := ?_) rfl (fun w' hS => ?_) ?_
          rotate_left
          · (obtain ⟨_, hS⟩ := hS; obtain ⟨p0, p1⟩ := put_cells hS; obtain ⟨c0, c1', c2, c3, _⟩ := wal_cells hS.pull2; go_simp; try with_reducible rfl)
          simp only [Act.put, List.setIfInBounds_toArray, List.set_cons_zero, List.set_cons_succ]
          refine wpL_guarded (v := ?_) rfl (fun w' hS => ?_) ?_
          rotate_left
          · (obtain ⟨_, hS⟩ := hS; obtain ⟨p0, p1⟩ := put_cells hS; obtain ⟨c0, c1', c2, c3, _⟩ := wal_cells hS.pull2; go_simp; try with_reducible rfl)
          simp only [Act.put, List.setIfInBounds_toArray, List.set_cons_zero, List.set_cons_succ]
          refine wpL_guarded (v := ?_) rfl (fun w' hS => ?_) ?_
          rotate_left
          · (obtain ⟨_, hS⟩ := hS; obtain ⟨p0, p1⟩ := put_cells hS; obtain ⟨c0, c1', c2, c3, _⟩ := wal_cells hS.pull2; go_simp; try with_reducible rfl)
          simp only [Act.put, List.setIfInBounds_toArray, List.set_cons_zero, List.set_cons_succ]
          refine wpL_guarded (v := ?_) rfl (fun w' hS => ?_) ?_
          rotate_left
          · (obtain ⟨_, hS⟩ := hS; obtain ⟨p0, p1⟩ := put_cells hS; obtain ⟨c0, c1', c2, c3, _⟩ := wal_cells hS.pull2; go_simp; try with_reducible rfl)
          simp only [Act.put, List.setIfInBounds_toArray, List.set_cons_zero, List.set_cons_succ]
          refine wpL_guarded (v := ?_) rfl (fun w' hS => ?_) ?_
          rotate_left
          · (obtain ⟨_, hS⟩ := hS; obtain ⟨p0, p1⟩ := put_cells hS; obtain ⟨c0, c1', c2, c3, _⟩ := wal_cells hS.pull2; go_simp; try with_reducible rfl)
          simp only [Act.put, List.setIfInBounds_toArray, List.set_cons_zero, List.set_cons_succ]
          refine wpL_guarded (v := ?_) rfl (fun w' hS => ?_) ?_
          rotate_left
          · (obtain ⟨_, hS⟩ := hS; obtain ⟨p0, p1⟩ := put_cells hS; obtain ⟨c0, c1', c2, c3, _⟩ := wal_cells hS.pull2; go_simp; try with_reducible rfl)
          simp only [Act.put, List.setIfInBounds_toArray, List.set_cons_zero, List.set_cons_succ]
          refine wpL_guarded (v := ?_) rfl (fun w' hS => ?_) ?_
          rotate_left
          · (obtain ⟨_, hS⟩ := hS; obtain ⟨p0, p1⟩ := put_cells hS; obtain ⟨c0, c1', c2, c3, _⟩ := wal_cells hS.pull2; go_simp; try with_reducible rfl)
          simp only [Act.put, List.setIfInBounds_toArray, List.set_cons_zero, List.set_cons_succ]
          refine wpL_guarded (v := ?_) rfl (fun w' hS => ?_) ?_
          rotate_left
          · (obtain ⟨_, hS⟩ := hS; obtain ⟨p0, p1⟩ := put_cells hS; obtain ⟨c0, c1', c2, c3, _⟩ := wal_cells hS.pull2; go_simp; try with_reducible rfl)
          simp only [Act.put, List.setIfInBounds_toArray, List.set_cons_zero, List.set_cons_succ]
          refine wpL_guarded (v := ?_) rfl (fun w' hS => ?_) ?_
          rotate_left
          · (obtain ⟨_, hS⟩ := hS; obtain ⟨p0, p1⟩ := put_cells hS; obtain ⟨c0, c1', c2, c3, _⟩ := wal_cells hS.pull2; go_simp; try with_reducible rfl)
          simp only [Act.put, List.setIfInBounds_toArray, List.set_cons_zero, List.set_cons_succ]
          refine wpL_yield (v := ?_) rfl (fun w' hS => ?_) ?_
          rotate_left
          · (go_simp; try with_reducible rfl)
          simp only [Act.put, List.setIfInBounds_toArray, List.set_cons_zero, List.set_cons_succ]
          refine wpL_nil ?_
          refine wpL_yield (v := ?_) rfl (fun w' hS => ?_) ?_
          rotate_left
          · (go_simp; try with_reducible rfl)
          simp only [Act.put, List.setIfInBounds_toArray, List.set_cons_zero, List.set_cons_succ]
          refine wpL_nil ?_
          go_wp2_with fail
          go_meet
          case rel => exact ⟨by simp [d1], h5.drew⟩
        · have d1 : decide ((at' : Int) ≤ sec) = false := by simpa using c1
          refine wp_region_L (fun w' => ∃ Q, Bears w' (Assn.obj c (.cells #[.int .i64 sec, .slice ad' bs.length cap'] 115 (0, 0)) * (walObj x p at' size g * Q))) 21
            [(true, 0), (true, 1), (true, 2), (true, 3), (true, 4), (true, 5), (true, 6), (true, 7), (true, 8), (true, 9), (true, 10), (true, 11), (true, 12), (true, 13), (true, 14), (true, 15), (true, 16), (true, 17), (true, 18), (true, 19), (true, 20)] [(true, 21)] (by kernel_rfl) (by kernel_rfl) ⟨_, h5.drew⟩ ?_
          simp only [pick, List.getElem?_cons_zero, List.getElem?_cons_succ]
          refine wpL_yield (v := ?_) rfl (fun w' hS => ?_) ?_
          rotate_left
          · (obtain ⟨_, hS⟩ := hS; obtain ⟨p0, p1⟩ := put_cells hS; obtain ⟨c0, c1', c2, c3, _⟩ := wal_cells hS.pull2; go_simp; try with_reducible rfl)
          simp only [Act.put, List.setIfInBounds_toArray, List.set_cons_zero, List.set_cons_succ]
          refine wpL_yield (v := ?_) rfl (fun w' hS => ?_) ?_
          rotate_left
          · (obtain ⟨_, hS⟩ := hS; obtain ⟨p0, p1⟩ := put_cells hS; obtain ⟨c0, c1', c2, c3, _⟩ := wal_cells hS.pull2; go_simp; try with_reducible rfl)
          simp only [Act.put, List.setIfInBounds_toArray, List.set_cons_zero, List.set_cons_succ]
          refine wpL_yield (v := ?_) rfl (fun w' hS => ?_) ?_
          rotate_left
          · (obtain ⟨_, hS⟩ := hS; obtain ⟨p0, p1⟩ := put_cells hS; obtain ⟨c0, c1', c2, c3, _⟩ := wal_cells hS.pull2; go_simp; try with_reducible rfl)
          simp only [Act.put, List.setIfInBounds_toArray, List.set_cons_zero, List.set_cons_succ]
          refine wpL_yield (v := ?_) rfl (fun w' hS => ?_) ?_
          rotate_left
          · (obtain ⟨_, hS⟩ := hS; obtain ⟨p0, p1⟩ := put_cells hS; obtain ⟨c0, c1', c2, c3, _⟩ := wal_cells hS.pull2; go_simp; try with_reducible rfl)
          simp only [Act.put, List.setIfInBounds_toArray, List.set_cons_zero, List.set_cons_succ]
          refine wpL_yield (v := ?_) rfl (fun w' hS => ?_) ?_
          rotate_left
          · (obtain ⟨_, hS⟩ := hS; obtain ⟨p0, p1⟩ := put_cells hS; obtain ⟨c0, c1', c2, c3, _⟩ := wal_cells hS.pull2; go_simp; try with_reducible rfl)
          simp only [Act.put, List.setIfInBounds_toArray, List.set_cons_zero, List.set_cons_succ]
          refine wpL_yield (v := ?_) rfl (fun w' hS => ?_) ?_
          rotate_left
          · (obtain ⟨_, hS⟩ := hS; obtain ⟨p0, p1⟩ := put_cells hS; obtain ⟨c0, c1', c2, c3, _⟩ := wal_cells hS.pull2; go_simp; try with_reducible rfl)
          simp only [Act.put, List.setIfInBounds_toArray, List.set_cons_zero, List.set_cons_succ]
          refine wpL_yield (v := ?_) rfl (fun w' hS => ?_) ?_
          rotate_left
          · (obtain ⟨_, hS⟩ := hS; obtain ⟨p0, p1⟩ := put_cells hS; obtain ⟨c0, c1', c2, c3, _⟩ := wal_cells hS.pull2; go_simp; try with_reducible rfl)
          simp only [Act.put, List.setIfInBounds_toArray, List.set_cons_zero, List.set_cons_succ]
          refine wpL_yield (v := ?_) rfl (fun w' hS => ?_) ?_
          rotate_left
          · (obtain ⟨_, hS⟩ := hS; obtain ⟨p0, p1⟩ := put_cells hS; obtain ⟨c0, c1', c2, c3, _⟩ := wal_cells hS.pull2; go_simp; try with_reducible rfl)
          simp only [Act.put, List.setIfInBounds_toArray, List.set_cons_zero, List.set_cons_succ]
          refine wpL_skip rfl ?_
          simp only [Act.put, List.setIfInBounds_toArray, List.set_cons_zero, List.set_cons_succ]
          refine wpL_skip rfl ?_
          simp only [Act.put, List.setIfInBounds_toArray, List.set_cons_zero, List.set_cons_succ]
          refine wpL_skip rfl ?_
          simp only [Act.put, List.setIfInBounds_toArray, List.set_cons_zero, List.set_cons_succ]
          refine wpL_skip rfl ?_
          simp only [Act.put, List.setIfInBounds_toArray, List.set_cons_zero, List.set_cons_succ]
          refine wpL_skip rfl ?_
          simp only [Act.put, List.setIfInBounds_toArray, List.set_cons_zero, List.set_cons_succ]
          refine wpL_skip rfl ?_
          simp only [Act.put, List.setIfInBounds_toArray, List.set_cons_zero, List.set_cons_succ]
          refine wpL_skip rfl ?_
          simp only [Act.put, List.setIfInBounds_toArray, List.set_cons_zero, List.set_cons_succ]
          refine wpL_skip rfl ?_
          simp only [Act.put, List.setIfInBounds_toArray, List.set_cons_zero, List.set_cons_succ]
          refine wpL_skip rfl ?_
          simp only [Act.put, List.setIfInBounds_toArray, List.set_cons_zero, List.set_cons_succ]
          refine wpL_skip rfl ?_
          simp only [Act.put, List.setIfInBounds_toArray, List.set_cons_zero, List.set_cons_succ]
          refine wpL_skip rfl ?_
          simp only [Act.put, List.setIfInBounds_toArray, List.set_cons_zero, List.set_cons_succ]
          refine wpL_skip rfl ?_
          simp only [Act.put, List.setIfInBounds_toArray, List.set_cons_zero, List.set_cons_succ]
          refine wpL_yield (v := ?_) rfl (fun w' hS => ?_) ?_
          rotate_left
          · (go_simp; try with_reducible rfl)
          simp only [Act.put, List.setIfInBounds_toArray, List.set_cons_zero, List.set_cons_succ]
          refine wpL_nil ?_
          refine wpL_yield (v := ?_) rfl (fun w' hS => ?_) ?_
          rotate_left
          · (go_simp; try with_reducible rfl)
          simp only [Act.put, List.setIfInBounds_toArray, List.set_cons_zero, List.set_cons_succ]
          refine wpL_nil ?_
          go_wp2_with fail
          go_meet
          case rel => exact ⟨by simp [d1], h5.drew⟩
      case rest =>
        obtain ⟨rfl, h6⟩ := hcut
        obtain ⟨ow, how⟩ : ∃ ow, (decide ((at' : Int) ≤ sec) && decide (sec < at' + size)) = ow := ⟨_, rfl⟩
        rw [how]
        have How := Lib.hid how
        clear how
        cases tw with
        | true =>
          have Hno := Lib.hid (Hwn.out (by simp [wOk, Htw.out, How.out]))
          go_wp2_with fail
          refine wp_region_L (fun w' => ∃ Q, Bears w' (Assn.obj c (.cells #[.int .i64 sec, .slice ad' bs.length cap'] 115 (0, 0)) * (walObj x p at' size g * Q))) 25 [(true, 0), (true, 1), (true, 2), (true, 3), (true, 4), (true, 5), (true, 6), (true, 7), (true, 8), (true, 9), (true, 10), (true, 11), (true, 12), (true, 13), (true, 14), (true, 15), (true, 16), (true, 17), (true, 18), (true, 19), (true, 20), (true, 21), (true, 22), (true, 23), (true, 24)] [] (by kernel_rfl) (by kernel_rfl) ⟨_, h6.drew⟩ ?_
          simp only [pick, List.getElem?_cons_zero, List.getElem?_cons_succ]
          refine wpL_yield (v := ?_) rfl (fun w' hS => ?_) ?_
          rotate_left
          · (go_simp; try with_reducible rfl)
          simp only [Act.put, List.setIfInBounds_toArray, List.set_cons_zero, List.set_cons_succ]
          refine wpL_yield (v := ?_) rfl (fun w' hS => ?_) ?_
          rotate_left
          · (go_simp; try with_reducible rfl)
          simp only [Act.put, List.setIfInBounds_toArray, List.set_cons_zero, List.set_cons_succ]
          refine wpL_skip rfl ?_
          simp only [Act.put, List.setIfInBounds_toArray, List.set_cons_zero, List.set_cons_succ]
          refine wpL_yield (v := ?_) rfl (fun w' hS => ?_) ?_
          rotate_left
          · (go_simp; try with_reducible rfl)
          simp only [Act.put, List.setIfInBounds_toArray, List.set_cons_zero, List.set_cons_succ]
          refine wpL_yield (v := ?_) rfl (fun w' hS => ?_) ?_
          rotate_left
          · (go_simp; try with_reducible rfl)
          simp only [Act.put, List.setIfInBounds_toArray, List.set_cons_zero, List.set_cons_succ]
          refine wpL_skip rfl ?_
          simp only [Act.put, List.setIfInBounds_toArray, List.set_cons_zero, List.set_cons_succ]
          refine wpL_skip rfl ?_
          simp only [Act.put, List.setIfInBounds_toArray, List.set_cons_zero, List.set_cons_succ]
          refine wpL_skip rfl ?_
          simp only [Act.put, List.setIfInBounds_toArray, List.set_cons_zero, List.set_cons_succ]
          refine wpL_yield (v := ?_) rfl (fun w' hS => ?_) ?_
          rotate_left
          · (go_simp; try with_reducible rfl)
          simp only [Act.put, List.setIfInBounds_toArray, List.set_cons_zero, List.set_cons_succ]
          refine wpL_yield (v := ?_) rfl (fun w' hS => ?_) ?_
          rotate_left
          · (go_simp; try with_reducible rfl)
          simp only [Act.put, List.setIfInBounds_toArray, List.set_cons_zero, List.set_cons_succ]
          refine wpL_skip rfl ?_
          simp only [Act.put, List.setIfInBounds_toArray, List.set_cons_zero, List.set_cons_succ]
          refine wpL_skip rfl ?_
          simp only [Act.put, List.setIfInBounds_toArray, List.set_cons_zero, List.set_cons_succ]
          refine wpL_skip rfl ?_
          simp only [Act.put, List.setIfInBounds_toArray, List.set_cons_zero, List.set_cons_succ]
          refine wpL_skip rfl ?_
          simp only [Act.put, List.setIfInBounds_toArray, List.set_cons_zero, List.set_cons_succ]
          refine wpL_skip rfl ?_
          simp only [Act.put, List.setIfInBounds_toArray, List.set_cons_zero, List.set_cons_succ]
          refine wpL_skip rfl ?_
          simp only [Act.put, List.setIfInBounds_toArray, List.set_cons_zero, List.set_cons_succ]
          refine wpL_skip rfl ?_
          simp only [Act.put, List.setIfInBounds_toArray, List.set_cons_zero, List.set_cons_succ]
          refine wpL_skip rfl ?_
          simp only [Act.put, List.setIfInBounds_toArray, List.set_cons_zero, List.set_cons_succ]
          refine wpL_yield (v := ?_) rfl (fun w' hS => ?_) ?_
          rotate_left
          · (go_simp; try with_reducible rfl)
          simp only [Act.put, List.setIfInBounds_toArray, List.set_cons_zero, List.set_cons_succ]
          refine wpL_yield (v := ?_) rfl (fun w' hS => ?_) ?_
          rotate_left
          · (go_simp; try with_reducible rfl)
          simp only [Act.put, List.setIfInBounds_toArray, List.set_cons_zero, List.set_cons_succ]
          refine wpL_skip rfl ?_
          simp only [Act.put, List.setIfInBounds_toArray, List.set_cons_zero, List.set_cons_succ]
          refine wpL_skip rfl ?_
          simp only [Act.put, List.setIfInBounds_toArray, List.set_cons_zero, List.set_cons_succ]
          refine wpL_skip rfl ?_
          simp only [Act.put, List.setIfInBounds_toArray, List.set_cons_zero, List.set_cons_succ]
          refine wpL_skip rfl ?_
          simp only [Act.put, List.setIfInBounds_toArray, List.set_cons_zero, List.set_cons_succ]
          refine wpL_yield (v := ?_) rfl (fun w' hS => ?_) ?_
          rotate_left
          · (go_simp; try with_reducible rfl)
          simp only [Act.put, List.setIfInBounds_toArray, List.set_cons_zero, List.set_cons_succ]
          refine wpL_nil ?_
          refine wpL_nil ?_
          go_wp2_with fail
          go_ret
          rw [Hno.out]
          exact ⟨rfl, h6.drew.right.pull3.right⟩
        | false =>
          cases ow with
          | true =>
            have Hno := Lib.hid (Hwn.out (by simp [wOk, Htw.out, How.out]))
            go_wp2_with fail
            refine wp_region_L (fun w' => ∃ Q, Bears w' (Assn.obj c (.cells #[.int .i64 sec, .slice ad' bs.length cap'] 115 (0, 0)) * (walObj x p at' size g * Q))) 25 [(true, 0), (true, 1), (true, 2), (true, 3), (true, 4), (true, 5), (true, 6), (true, 7), (true, 8), (true, 9), (true, 10), (true, 11), (true, 12), (true, 13), (true, 14), (true, 15), (true, 16), (true, 17), (true, 18), (true, 19), (true, 20), (true, 21), (true, 22), (true, 23), (true, 24)] [] (by kernel_rfl) (by kernel_rfl) ⟨_, h6.drew⟩ ?_
            simp only [pick, List.getElem?_cons_zero, List.getElem?_cons_succ]
            refine wpL_yield (v := ?_) rfl (fun w' hS => ?_) ?_
            rotate_left
            · (go_simp; try with_reducible rfl)
            simp only [Act.put, List.setIfInBounds_toArray, List.set_cons_zero, List.set_cons_succ]
            refine wpL_yield (v := ?_) rfl (fun w' hS => ?_) ?_
            rotate_left
            · (go_simp; try with_reducible rfl)
            simp only [Act.put, List.setIfInBounds_toArray, List.set_cons_zero, List.set_cons_succ]
            refine wpL_guarded (v := ?_) rfl (fun w' hS => ?_) ?_
            rotate_left
            · (go_simp; try with_reducible rfl)
            simp only [Act.put, List.setIfInBounds_toArray, List.set_cons_zero, List.set_cons_succ]
            refine wpL_yield (v := ?_) rfl (fun w' hS => ?_) ?_
            rotate_left
            · (go_simp; try with_reducible rfl)
            simp only [Act.put, List.setIfInBounds_toArray, List.set_cons_zero, List.set_cons_succ]
            refine wpL_yield (v := ?_) rfl (fun w' hS => ?_) ?_
            rotate_left
            · (go_simp; try with_reducible rfl)
            simp only [Act.put, List.setIfInBounds_toArray, List.set_cons_zero, List.set_cons_succ]
            refine wpL_skip rfl ?_
            simp only [Act.put, List.setIfInBounds_toArray, List.set_cons_zero, List.set_cons_succ]
            refine wpL_skip rfl ?_
            simp only [Act.put, List.setIfInBounds_toArray, List.set_cons_zero, List.set_cons_succ]
            refine wpL_skip rfl ?_
            simp only [Act.put, List.setIfInBounds_toArray, List.set_cons_zero, List.set_cons_succ]
            refine wpL_yield (v := ?_) rfl (fun w' hS => ?_) ?_
            rotate_left
            · (go_simp; try with_reducible rfl)
            simp only [Act.put, List.setIfInBounds_toArray, List.set_cons_zero, List.set_cons_succ]
            refine wpL_yield (v := ?_) rfl (fun w' hS => ?_) ?_
            rotate_left
            · (go_simp; try with_reducible rfl)
            simp only [Act.put, List.setIfInBounds_toArray, List.set_cons_zero, List.set_cons_succ]
            refine wpL_skip rfl ?_
            simp only [Act.put, List.setIfInBounds_toArray, List.set_cons_zero, List.set_cons_succ]
            refine wpL_skip rfl ?_
            simp only [Act.put, List.setIfInBounds_toArray, List.set_cons_zero, List.set_cons_succ]
            refine wpL_skip rfl ?_
            simp only [Act.put, List.setIfInBounds_toArray, List.set_cons_zero, List.set_cons_succ]
            refine wpL_skip rfl ?_
            simp only [Act.put, List.setIfInBounds_toArray, List.set_cons_zero, List.set_cons_succ]
            refine wpL_skip rfl ?_
            simp only [Act.put, List.setIfInBounds_toArray, List.set_cons_zero, List.set_cons_succ]
            refine wpL_skip rfl ?_
            simp only [Act.put, List.setIfInBounds_toArray, List.set_cons_zero, List.set_cons_succ]
            refine wpL_skip rfl ?_
            simp only [Act.put, List.setIfInBounds_toArray, List.set_cons_zero, List.set_cons_succ]
            refine wpL_skip rfl ?_
            simp only [Act.put, List.setIfInBounds_toArray, List.set_cons_zero, List.set_cons_succ]
            refine wpL_yield (v := ?_) rfl (fun w' hS => ?_) ?_
            rotate_left
            · (go_simp; try with_reducible rfl)
            simp only [Act.put, List.setIfInBounds_toArray, List.set_cons_zero, List.set_cons_succ]
            refine wpL_yield (v := ?_) rfl (fun w' hS => ?_) ?_
            rotate_left
            · (go_simp; try with_reducible rfl)
            simp only [Act.put, List.setIfInBounds_toArray, List.set_cons_zero, List.set_cons_succ]
            refine wpL_skip rfl ?_
            simp only [Act.put, List.setIfInBounds_toArray, List.set_cons_zero, List.set_cons_succ]
            refine wpL_skip rfl ?_
            simp only [Act.put, List.setIfInBounds_toArray, List.set_cons_zero, List.set_cons_succ]
            refine wpL_skip rfl ?_
            simp only [Act.put, List.setIfInBounds_toArray, List.set_cons_zero, List.set_cons_succ]
            refine wpL_skip rfl ?_
            simp only [Act.put, List.setIfInBounds_toArray, List.set_cons_zero, List.set_cons_succ]
            refine wpL_yield (v := ?_) rfl (fun w' hS => ?_) ?_
            rotate_left
            · (go_simp; try with_reducible rfl)
            simp only [Act.put, List.setIfInBounds_toArray, List.set_cons_zero, List.set_cons_succ]
            refine wpL_nil ?_
            refine wpL_nil ?_
            go_wp2_with fail
            go_ret
            rw [Hno.out]
            exact ⟨rfl, h6.drew.right.pull3.right⟩
          | false =>
            by_cases h0 : sec < 0
            · have Hno := Lib.hid (Hwn.out (by simp [wOk, Htw.out, How.out, Int.not_le.2 h0]))
              go_wp2_with fail
              refine wp_region_L (fun w' => ∃ Q, Bears w' (Assn.obj c (.cells #[.int .i64 sec, .slice ad' bs.length cap'] 115 (0, 0)) * (walObj x p at' size g * Q))) 25 [(true, 0), (true, 1), (true, 2), (true, 3), (true, 4), (true, 5), (true, 6), (true, 7), (true, 8), (true, 9), (true, 10), (true, 11), (true, 12), (true, 13), (true, 14), (true, 15), (true, 16), (true, 17), (true, 18), (true, 19), (true, 20), (true, 21), (true, 22), (true, 23), (true, 24)] [] (by kernel_rfl) (by kernel_rfl) ⟨_, h6.drew⟩ ?_
              simp only [pick, List.getElem?_cons_zero, List.getElem?_cons_succ]
              refine wpL_yield (v := ?_) rfl (fun w' hS => ?_) ?_
              rotate_left
              · (go_simp; try with_reducible rfl)
              simp only [Act.put, List.setIfInBounds_toArray, List.set_cons_zero, List.set_cons_succ]
              refine wpL_yield (v := ?_) rfl (fun w' hS => ?_) ?_
              rotate_left
              · (go_simp; try with_reducible rfl)
              simp only [Act.put, List.setIfInBounds_toArray, List.set_cons_zero, List.set_cons_succ]
              refine wpL_guarded (v := ?_) rfl (fun w' hS => ?_) ?_
              rotate_left
              · (go_simp; try with_reducible rfl)
              simp only [Act.put, List.setIfInBounds_toArray, List.set_cons_zero, List.set_cons_succ]
              refine wpL_yield (v := ?_) rfl (fun w' hS => ?_) ?_
              rotate_left
              · (go_simp; try with_reducible rfl)
              simp only [Act.put, List.setIfInBounds_toArray, List.set_cons_zero, List.set_cons_succ]
              refine wpL_yield (v := ?_) rfl (fun w' hS => ?_) ?_
              rotate_left
              · (go_simp; try with_reducible rfl)
              simp only [Act.put, List.setIfInBounds_toArray, List.set_cons_zero, List.set_cons_succ]
              refine wpL_guarded (v := ?_) rfl (fun w' hS => ?_) ?_
              rotate_left
              · (obtain ⟨_, hS⟩ := hS; obtain ⟨p0, p1⟩ := put_cells hS; go_simp; try with_reducible rfl)
              simp only [Act.put, List.setIfInBounds_toArray, List.set_cons_zero, List.set_cons_succ]
              refine wpL_guarded (v := ?_) rfl (fun w' hS => ?_) ?_
              rotate_left
              · (obtain ⟨_, hS⟩ := hS; obtain ⟨p0, p1⟩ := put_cells hS; go_simp; try with_reducible rfl)
              simp only [Act.put, List.setIfInBounds_toArray, List.set_cons_zero, List.set_cons_succ]
              refine wpL_guarded (v := ?_) rfl (fun w' hS => ?_) ?_
              rotate_left
              · (obtain ⟨_, hS⟩ := hS; obtain ⟨p0, p1⟩ := put_cells hS; go_simp; try with_reducible rfl)
              simp only [Act.put, List.setIfInBounds_toArray, List.set_cons_zero, List.set_cons_succ]
              refine wpL_yield (v := ?_) rfl (fun w' hS => ?_) ?_
              rotate_left
              · (go_simp; try with_reducible rfl)
              simp only [Act.put, List.setIfInBounds_toArray, List.set_cons_zero, List.set_cons_succ]
              refine wpL_yield (v := ?_) rfl (fun w' hS => ?_) ?_
              rotate_left
              · (go_simp; try with_reducible rfl)
              simp only [Act.put, List.setIfInBounds_toArray, List.set_cons_zero, List.set_cons_succ]
              refine wpL_skip rfl ?_
              simp only [Act.put, List.setIfInBounds_toArray, List.set_cons_zero, List.set_cons_succ]
              refine wpL_skip rfl ?_
              simp only [Act.put, List.setIfInBounds_toArray, List.set_cons_zero, List.set_cons_succ]
              refine wpL_skip rfl ?_
              simp only [Act.put, List.setIfInBounds_toArray, List.set_cons_zero, List.set_cons_succ]
              refine wpL_skip rfl ?_
              simp only [Act.put, List.setIfInBounds_toArray, List.set_cons_zero, List.set_cons_succ]
              refine wpL_skip rfl ?_
              simp only [Act.put, List.setIfInBounds_toArray, List.set_cons_zero, List.set_cons_succ]
              refine wpL_skip rfl ?_
              simp only [Act.put, List.setIfInBounds_toArray, List.set_cons_zero, List.set_cons_succ]
              refine wpL_skip rfl ?_
              simp only [Act.put, List.setIfInBounds_toArray, List.set_cons_zero, List.set_cons_succ]
              refine wpL_skip rfl ?_
              simp only [Act.put, List.setIfInBounds_toArray, List.set_cons_zero, List.set_cons_succ]
              refine wpL_yield (v := ?_) rfl (fun w' hS => ?_) ?_
              rotate_left
              · (go_simp; try with_reducible rfl)
              simp only [Act.put, List.setIfInBounds_toArray, List.set_cons_zero, List.set_cons_succ]
              refine wpL_yield (v := ?_) rfl (fun w' hS => ?_) ?_
              rotate_left
              · (go_simp; try with_reducible rfl)
              simp only [Act.put, List.setIfInBounds_toArray, List.set_cons_zero, List.set_cons_succ]
              refine wpL_skip rfl ?_
              simp only [Act.put, List.setIfInBounds_toArray, List.set_cons_zero, List.set_cons_succ]
              refine wpL_skip rfl ?_
              simp only [Act.put, List.setIfInBounds_toArray, List.set_cons_zero, List.set_cons_succ]
              refine wpL_skip rfl ?_
              simp only [Act.put, List.setIfInBounds_toArray, List.set_cons_zero, List.set_cons_succ]
              refine wpL_skip rfl ?_
              simp only [Act.put, List.setIfInBounds_toArray, List.set_cons_zero, List.set_cons_succ]
              refine wpL_yield (v := ?_) rfl (fun w' hS => ?_) ?_
              rotate_left
              · (go_simp; try with_reducible rfl)
              simp only [Act.put, List.setIfInBounds_toArray, List.set_cons_zero, List.set_cons_succ]
              refine wpL_nil ?_
              refine wpL_nil ?_
              go_wp2_with fail
              go_ret
              rw [Hno.out]
              exact ⟨rfl, h6.drew.right.pull3.right⟩
            · have n0 : decide (sec < 0) = false := by simpa using h0
              by_cases h1 : sec < (d.len : Int)
              · have n1 : decide ((d.len : Int) ≤ sec) = false := by simpa using h1
                go_wp2_with fail
                refine wp_region_L (fun w' => ∃ Q, Bears w' (Assn.obj c (.cells #[.int .i64 sec, .slice ad' bs.length cap'] 115 (0, 0)) * (walObj x p at' size g * Q))) 25 [(true, 0), (true, 1), (true, 2), (true, 3), (true, 4), (true, 5), (true, 6), (true, 7), (true, 8), (true, 9), (true, 10), (true, 11), (true, 12), (true, 13), (true, 14), (true, 15), (false, 16), (true, 17), (true, 18), (true, 19), (true, 20), (true, 21), (true, 22), (true, 23), (true, 24)] [] (by kernel_rfl) (by kernel_rfl) ⟨_, h6.drew⟩ ?_
                simp only [pick, List.getElem?_cons_zero, List.getElem?_cons_succ]
                refine wpL_yield (v := ?_) rfl (fun w' hS => ?_) ?_
                rotate_left
                · (go_simp; try with_reducible rfl)
                simp only [Act.put, List.setIfInBounds_toArray, List.set_cons_zero, List.set_cons_succ]
                refine wpL_yield (v := ?_) rfl (fun w' hS => ?_) ?_
                rotate_left
                · (go_simp; try with_reducible rfl)
                simp only [Act.put, List.setIfInBounds_toArray, List.set_cons_zero, List.set_cons_succ]
                refine wpL_guarded (v := ?_) rfl (fun w' hS => ?_) ?_
                rotate_left
                · (go_simp; try with_reducible rfl)
                simp only [Act.put, List.setIfInBounds_toArray, List.set_cons_zero, List.set_cons_succ]
                refine wpL_yield (v := ?_) rfl (fun w' hS => ?_) ?_
                rotate_left
                · (go_simp; try with_reducible rfl)
                simp only [Act.put, List.setIfInBounds_toArray, List.set_cons_zero, List.set_cons_succ]
                refine wpL_yield (v := ?_) rfl (fun w' hS => ?_) ?_
                rotate_left
                · (go_simp; try with_reducible rfl)
                simp only [Act.put, List.setIfInBounds_toArray, List.set_cons_zero, List.set_cons_succ]
                refine wpL_guarded (v := ?_) rfl (fun w' hS => ?_) ?_
                rotate_left
                · (obtain ⟨_, hS⟩ := hS; obtain ⟨p0, p1⟩ := put_cells hS; go_simp; try with_reducible rfl)
                simp only [Act.put, List.setIfInBounds_toArray, List.set_cons_zero, List.set_cons_succ]
                refine wpL_guarded (v := ?_) rfl (fun w' hS => ?_) ?_
                rotate_left
                · (obtain ⟨_, hS⟩ := hS; obtain ⟨p0, p1⟩ := put_cells hS; go_simp; try with_reducible rfl)
                simp only [Act.put, List.setIfInBounds_toArray, List.set_cons_zero, List.set_cons_succ]
                refine wpL_guarded (v := ?_) rfl (fun w' hS => ?_) ?_
                rotate_left
                · (obtain ⟨_, hS⟩ := hS; obtain ⟨p0, p1⟩ := put_cells hS; go_simp; try with_reducible rfl)
                simp only [Act.put, List.setIfInBounds_toArray, List.set_cons_zero, List.set_cons_succ]
                refine wpL_yield (v := ?_) rfl (fun w' hS => ?_) ?_
                rotate_left
                · (go_simp; try with_reducible rfl)
                simp only [Act.put, List.setIfInBounds_toArray, List.set_cons_zero, List.set_cons_succ]
                refine wpL_yield (v := ?_) rfl (fun w' hS => ?_) ?_
                rotate_left
                · (go_simp; try with_reducible rfl)
                simp only [Act.put, List.setIfInBounds_toArray, List.set_cons_zero, List.set_cons_succ]
                refine wpL_guarded (v := ?_) rfl (fun w' hS => ?_) ?_
                rotate_left
                · (obtain ⟨_, hS⟩ := hS; obtain ⟨p0, p1⟩ := put_cells hS; obtain ⟨c0, c1, c2, c3, _⟩ := wal_cells hS.pull2; go_simp; try with_reducible rfl)
                simp only [Act.put, List.setIfInBounds_toArray, List.set_cons_zero, List.set_cons_succ]
                refine wpL_guarded (v := ?_) rfl (fun w' hS => ?_) ?_
                rotate_left
                · (obtain ⟨_, hS⟩ := hS; obtain ⟨p0, p1⟩ := put_cells hS; obtain ⟨c0, c1, c2, c3, _⟩ := wal_cells hS.pull2; go_simp; try with_reducible rfl)
                simp only [Act.put, List.setIfInBounds_toArray, List.set_cons_zero, List.set_cons_succ]
                refine wpL_guarded (v := ?_) rfl (fun w' hS => ?_) ?_
                rotate_left
                · (obtain ⟨_, hS⟩ := hS; obtain ⟨p0, p1⟩ := put_cells hS; obtain ⟨c0, c1, c2, c3, _⟩ := wal_cells hS.pull2; go_simp; try with_reducible rfl)
                simp only [Act.put, List.setIfInBounds_toArray, List.set_cons_zero, List.set_cons_succ]
                refine wpL_guarded (v := ?_) rfl (fun w' hS => ?_) ?_
                rotate_left
                · (obtain ⟨_, hS⟩ := hS; obtain ⟨p0, p1⟩ := put_cells hS; obtain ⟨c0, c1, c2, c3, _⟩ := wal_cells hS.pull2; go_simp; try with_reducible rfl)
                simp only [Act.put, List.setIfInBounds_toArray, List.set_cons_zero, List.set_cons_succ]
                refine wpL_guarded (v := ?_) rfl (fun w' hS => ?_) ?_
                rotate_left
                · (obtain ⟨_, hS⟩ := hS; obtain ⟨p0, p1⟩ := put_cells hS; obtain ⟨c0, c1, c2, c3, _⟩ := wal_cells hS.pull2; go_simp; try with_reducible rfl)
                simp only [Act.put, List.setIfInBounds_toArray, List.set_cons_zero, List.set_cons_succ]
                refine wpL_guarded (v := ?_) rfl (fun w' hS => ?_) ?_
                rotate_left
                · (obtain ⟨_, hS⟩ := hS; obtain ⟨p0, p1⟩ := put_cells hS; obtain ⟨c0, c1, c2, c3, _⟩ := wal_cells hS.pull2; go_simp; try with_reducible rfl)
                simp only [Act.put, List.setIfInBounds_toArray, List.set_cons_zero, List.set_cons_succ]
                refine wpL_effG rfl ?_
                go_simp
                refine (len_any h6.drew.pull3).mono ?_
                rintro e w7 ⟨rfl, rfl⟩
                refine ⟨⟨_, h6.drew⟩, ?_⟩
                refine wpL_guarded (v := ?_) rfl (fun w' hS => ?_) ?_
                rotate_left
                · (go_simp; try with_reducible rfl)
                simp only [Act.put, List.setIfInBounds_toArray, List.set_cons_zero, List.set_cons_succ]
                refine wpL_yield (v := ?_) rfl (fun w' hS => ?_) ?_
                rotate_left
                · (go_simp; try with_reducible rfl)
                simp only [Act.put, List.setIfInBounds_toArray, List.set_cons_zero, List.set_cons_succ]
                refine wpL_yield (v := ?_) rfl (fun w' hS => ?_) ?_
                rotate_left
                · (go_simp; try with_reducible rfl)
                simp only [Act.put, List.setIfInBounds_toArray, List.set_cons_zero, List.set_cons_succ]
                refine wpL_guarded (v := ?_) rfl (fun w' hS => ?_) ?_
                rotate_left
                · (obtain ⟨_, hS⟩ := hS; obtain ⟨p0, p1⟩ := put_cells hS; go_simp; try with_reducible rfl)
                simp only [Act.put, List.setIfInBounds_toArray, List.set_cons_zero, List.set_cons_succ]
                refine wpL_guarded (v := ?_) rfl (fun w' hS => ?_) ?_
                rotate_left
                · (obtain ⟨_, hS⟩ := hS; obtain ⟨p0, p1⟩ := put_cells hS; go_simp; try with_reducible rfl)
                simp only [Act.put, List.setIfInBounds_toArray, List.set_cons_zero, List.set_cons_succ]
                refine wpL_guarded (v := ?_) rfl (fun w' hS => ?_) ?_
                rotate_left
                · (obtain ⟨_, hS⟩ := hS; obtain ⟨p0, p1⟩ := put_cells hS; go_simp; try with_reducible rfl)
                simp only [Act.put, List.setIfInBounds_toArray, List.set_cons_zero, List.set_cons_succ]
                refine wpL_guarded (v := ?_) rfl (fun w' hS => ?_) ?_
                rotate_left
                · (obtain ⟨_, hS⟩ := hS; obtain ⟨p0, p1⟩ := put_cells hS; go_simp; try with_reducible rfl)
                simp only [Act.put, List.setIfInBounds_toArray, List.set_cons_zero, List.set_cons_succ]
                refine wpL_yield (v := ?_) rfl (fun w' hS => ?_) ?_
                rotate_left
                · (go_simp; try with_reducible rfl)
                simp only [Act.put, List.setIfInBounds_toArray, List.set_cons_zero, List.set_cons_succ]
                refine wpL_nil ?_
                refine wpL_nil ?_
                by_cases h64 : bs.length = 64
                · have Hw1 := Lib.hid (show wOk d.len at' size (l.take k) (PutM.mk sec bs ad' cap') = true by simp [wOk, Htw.out, How.out, h1, h64, show (0 : Int) ≤ sec by omega])
                  have h7 : Bears wc.drew (mapA w.heap.size m * (Assn.obj c (.cells #[.int .i64 sec, .slice ad' bs.length cap'] 115 (0, 0)) * (walObj x p at' size g * (diskA p d * R)))) := h6.drew.cast (by ac_rfl)
                  have hm2 := hm.put ⟨sec, bs, ad', cap'⟩ (.int .i64 k)
                  have htake : l.take (k + 1) = l.take k ++ [⟨sec, bs, ad', cap'⟩] := by
                    rw [← Hc.out, List.take_succ_eq_append_getElem hlt]
                    simp [hlt]
                  rw [← htake] at hm2
                  have Hm2 := Lib.hid hm2
                  obtain ⟨p0, p1⟩ := put_cells h6.drew
                  clear hm2 htake hm h6
                  go_wp2_with (refine wpList_mapUpdate_bears h7 rfl rfl Tryz.underlying103 Tryz.underlying3 rfl rfl rfl ?_)
                  intro w8 h8
                  go_wp2_with fail
                  go_roundw
                  case rel =>
                    refine ⟨k + 1, hlt, by go_num, fun j hj => ?_, _, Hm2.out, h8.pull2.right⟩
                    rcases Nat.lt_succ_iff_lt_or_eq.1 hj with hj | rfl
                    · exact Hok.out j hj
                    · rw [Hc.out]; exact Hw1.out
                  case measure => simp [intOf]; omega
                · have Hno := Lib.hid (Hwn.out (by simp [wOk, Htw.out, How.out, h64]))
                  go_wp2_with fail
                  go_ret
                  rw [Hno.out]
                  exact ⟨rfl, h6.drew.right.pull3.right⟩
              · have n1 : decide ((d.len : Int) ≤ sec) = true := by simpa using h1
                have Hno := Lib.hid (Hwn.out (by simp [wOk, Htw.out, How.out, h1]))
                go_wp2_with fail
                refine wp_region_L (fun w' => ∃ Q, Bears w' (Assn.obj c (.cells #[.int .i64 sec, .slice ad' bs.length cap'] 115 (0, 0)) * (walObj x p at' size g * Q))) 25 [(true, 0), (true, 1), (true, 2), (true, 3), (true, 4), (true, 5), (true, 6), (true, 7), (true, 8), (true, 9), (true, 10), (true, 11), (true, 12), (true, 13), (true, 14), (true, 15), (false, 16), (true, 17), (true, 18), (true, 19), (true, 20), (true, 21), (true, 22), (true, 23), (true, 24)] [] (by kernel_rfl) (by kernel_rfl) ⟨_, h6.drew⟩ ?_
                simp only [pick, List.getElem?_cons_zero, List.getElem?_cons_succ]
                refine wpL_yield (v := ?_) rfl (fun w' hS => ?_) ?_
                rotate_left
                · (go_simp; try with_reducible rfl)
                simp only [Act.put, List.setIfInBounds_toArray, List.set_cons_zero, List.set_cons_succ]
                refine wpL_yield (v := ?_) rfl (fun w' hS => ?_) ?_
                rotate_left
                · (go_simp; try with_reducible rfl)
                simp only [Act.put, List.setIfInBounds_toArray, List.set_cons_zero, List.set_cons_succ]
                refine wpL_guarded (v := ?_) rfl (fun w' hS => ?_) ?_
                rotate_left
                · (go_simp; try with_reducible rfl)
                simp only [Act.put, List.setIfInBounds_toArray, List.set_cons_zero, List.set_cons_succ]
                refine wpL_yield (v := ?_) rfl (fun w' hS => ?_) ?_
                rotate_left
                · (go_simp; try with_reducible rfl)
                simp only [Act.put, List.setIfInBounds_toArray, List.set_cons_zero, List.set_cons_succ]
                refine wpL_yield (v := ?_) rfl (fun w' hS => ?_) ?_
                rotate_left
                · (go_simp; try with_reducible rfl)
                simp only [Act.put, List.setIfInBounds_toArray, List.set_cons_zero, List.set_cons_succ]
                refine wpL_guarded (v := ?_) rfl (fun w' hS => ?_) ?_
                rotate_left
                · (obtain ⟨_, hS⟩ := hS; obtain ⟨p0, p1⟩ := put_cells hS; go_simp; try with_reducible rfl)
                simp only [Act.put, List.setIfInBounds_toArray, List.set_cons_zero, List.set_cons_succ]
                refine wpL_guarded (v := ?_) rfl (fun w' hS => ?_) ?_
                rotate_left
                · (obtain ⟨_, hS⟩ := hS; obtain ⟨p0, p1⟩ := put_cells hS; go_simp; try with_reducible rfl)
                simp only [Act.put, List.setIfInBounds_toArray, List.set_cons_zero, List.set_cons_succ]
                refine wpL_guarded (v := ?_) rfl (fun w' hS => ?_) ?_
                rotate_left
                · (obtain ⟨_, hS⟩ := hS; obtain ⟨p0, p1⟩ := put_cells hS; go_simp; try with_reducible rfl)
                simp only [Act.put, List.setIfInBounds_toArray, List.set_cons_zero, List.set_cons_succ]
                refine wpL_yield (v := ?_) rfl (fun w' hS => ?_) ?_
                rotate_left
                · (go_simp; try with_reducible rfl)
                simp only [Act.put, List.setIfInBounds_toArray, List.set_cons_zero, List.set_cons_succ]
                refine wpL_yield (v := ?_) rfl (fun w' hS => ?_) ?_
                rotate_left
                · (go_simp; try with_reducible rfl)
                simp only [Act.put, List.setIfInBounds_toArray, List.set_cons_zero, List.set_cons_succ]
                refine wpL_guarded (v := ?_) rfl (fun w' hS => ?_) ?_
                rotate_left
                · (obtain ⟨_, hS⟩ := hS; obtain ⟨p0, p1⟩ := put_cells hS; obtain ⟨c0, c1, c2, c3, _⟩ := wal_cells hS.pull2; go_simp; try with_reducible rfl)
                simp only [Act.put, List.setIfInBounds_toArray, List.set_cons_zero, List.set_cons_succ]
                refine wpL_guarded (v := ?_) rfl (fun w' hS => ?_) ?_
                rotate_left
                · (obtain ⟨_, hS⟩ := hS; obtain ⟨p0, p1⟩ := put_cells hS; obtain ⟨c0, c1, c2, c3, _⟩ := wal_cells hS.pull2; go_simp; try with_reducible rfl)
                simp only [Act.put, List.setIfInBounds_toArray, List.set_cons_zero, List.set_cons_succ]
                refine wpL_guarded (v := ?_) rfl (fun w' hS => ?_) ?_
                rotate_left
                · (obtain ⟨_, hS⟩ := hS; obtain ⟨p0, p1⟩ := put_cells hS; obtain ⟨c0, c1, c2, c3, _⟩ := wal_cells hS.pull2; go_simp; try with_reducible rfl)
                simp only [Act.put, List.setIfInBounds_toArray, List.set_cons_zero, List.set_cons_succ]
                refine wpL_guarded (v := ?_) rfl (fun w' hS => ?_) ?_
                rotate_left
                · (obtain ⟨_, hS⟩ := hS; obtain ⟨p0, p1⟩ := put_cells hS; obtain ⟨c0, c1, c2, c3, _⟩ := wal_cells hS.pull2; go_simp; try with_reducible rfl)
                simp only [Act.put, List.setIfInBounds_toArray, List.set_cons_zero, List.set_cons_succ]
                refine wpL_guarded (v := ?_) rfl (fun w' hS => ?_) ?_
                rotate_left
                · (obtain ⟨_, hS⟩ := hS; obtain ⟨p0, p1⟩ := put_cells hS; obtain ⟨c0, c1, c2, c3, _⟩ := wal_cells hS.pull2; go_simp; try with_reducible rfl)
                simp only [Act.put, List.setIfInBounds_toArray, List.set_cons_zero, List.set_cons_succ]
                refine wpL_guarded (v := ?_) rfl (fun w' hS => ?_) ?_
                rotate_left
                · (obtain ⟨_, hS⟩ := hS; obtain ⟨p0, p1⟩ := put_cells hS; obtain ⟨c0, c1, c2, c3, _⟩ := wal_cells hS.pull2; go_simp; try with_reducible rfl)
                simp only [Act.put, List.setIfInBounds_toArray, List.set_cons_zero, List.set_cons_succ]
                refine wpL_effG rfl ?_
                go_simp
                refine (len_any h6.drew.pull3).mono ?_
                rintro e w7 ⟨rfl, rfl⟩
                refine ⟨⟨_, h6.drew⟩, ?_⟩
                refine wpL_guarded (v := ?_) rfl (fun w' hS => ?_) ?_
                rotate_left
                · (go_simp; try with_reducible rfl)
                simp only [Act.put, List.setIfInBounds_toArray, List.set_cons_zero, List.set_cons_succ]
                refine wpL_yield (v := ?_) rfl (fun w' hS => ?_) ?_
                rotate_left
                · (go_simp; try with_reducible rfl)
                simp only [Act.put, List.setIfInBounds_toArray, List.set_cons_zero, List.set_cons_succ]
                refine wpL_yield (v := ?_) rfl (fun w' hS => ?_) ?_
                rotate_left
                · (go_simp; try with_reducible rfl)
                simp only [Act.put, List.setIfInBounds_toArray, List.set_cons_zero, List.set_cons_succ]
                refine wpL_skip rfl ?_
                simp only [Act.put, List.setIfInBounds_toArray, List.set_cons_zero, List.set_cons_succ]
                refine wpL_skip rfl ?_
                simp only [Act.put, List.setIfInBounds_toArray, List.set_cons_zero, List.set_cons_succ]
                refine wpL_skip rfl ?_
                simp only [Act.put, List.setIfInBounds_toArray, List.set_cons_zero, List.set_cons_succ]
                refine wpL_skip rfl ?_
                simp only [Act.put, List.setIfInBounds_toArray, List.set_cons_zero, List.set_cons_succ]
                refine wpL_yield (v := ?_) rfl (fun w' hS => ?_) ?_
                rotate_left
                · (go_simp; try with_reducible rfl)
                simp only [Act.put, List.setIfInBounds_toArray, List.set_cons_zero, List.set_cons_succ]
                refine wpL_nil ?_
                refine wpL_nil ?_
                go_wp2_with fail
                go_ret
                rw [Hno.out]
                exact ⟨rfl, h6.drew.right.pull3.right⟩
    · obtain rfl : k = l.length := by omega
      have hall : wMayTo d.len at' size [] l = true := (wMayTo_true l []).2 (fun j hj => by rw [List.nil_append]; exact hok j hj)
      obtain ⟨c0, c1, c2, c3, _⟩ := wal_cells h3.right
      have Hall := Lib.hid hall
      clear hall hok
      go_wp2_with fail
      refine (room_any wr size (by omega)).mono ?_
      rintro e w2 ⟨rfl, rfl⟩
      go_wp2_with fail
      go_ret
      refine ⟨?_, h3.right⟩
      unfold wMay
      rw [Hall.out]
      simp

end Go.Proofs.YtcggloceabjjdaaGreat

/- The log: a group is done; no condition. -/
namespace Go.Proofs.YtcggloceabjjdaaGreat
open Go.RowKit Go.MapKept

/-! ### The model, step by step -/
theorem wBytes_succ {d dk : DiskM} {a s k : Nat} {l : List PutM} (h : wBytes d a s l k = (0, dk)) : wBytes d a s l (k + 1) = dk.write ((wFirst a s + k : Nat) : Int) (l.getD k default).bytes := by
  simp only [wBytes, h]; rw [if_neg (by simp)]
theorem wBytes_stop {d : DiskM} {a s k : Nat} {l : List PutM} (h : (wBytes d a s l k).1 ≠ 0) : ∀ n, wBytes d a s l (k + n) = wBytes d a s l k
  | 0 => rfl
  | n + 1 => by
    have e := wBytes_stop h n
    show (if (wBytes d a s l (k + n)).1 ≠ 0 then wBytes d a s l (k + n) else _) = _
    rw [e, if_pos h]
theorem wBytes_waits (d : DiskM) (a s : Nat) (l : List PutM) : ∀ k, (wBytes d a s l k).2.waits.length ≤ d.waits.length + k
  | 0 => Nat.le_refl _
  | k + 1 => by
    have := wBytes_waits d a s l k
    simp only [wBytes]
    split
    · omega
    · have := write_waits (wBytes d a s l k).2 ((wFirst a s + k : Nat) : Int) (l.getD k default).bytes
      omega
theorem wLists_succ {d dk : DiskM} {a k : Nat} {l : List PutM} (h : wLists d a l k = (0, dk)) : wLists d a l (k + 1) = dk.write ((a + 1 + k : Nat) : Int) (wList l k) := by
  simp only [wLists, h]; rw [if_neg (by simp)]
theorem wLists_stop {d : DiskM} {a k : Nat} {l : List PutM} (h : (wLists d a l k).1 ≠ 0) : ∀ n, wLists d a l (k + n) = wLists d a l k
  | 0 => rfl
  | n + 1 => by
    have e := wLists_stop h n
    show (if (wLists d a l (k + n)).1 ≠ 0 then wLists d a l (k + n) else _) = _
    rw [e, if_pos h]
theorem wLists_waits (d : DiskM) (a : Nat) (l : List PutM) : ∀ k, (wLists d a l k).2.waits.length ≤ d.waits.length + k
  | 0 => Nat.le_refl _
  | k + 1 => by
    have := wLists_waits d a l k
    simp only [wLists]
    split
    · omega
    · have := write_waits (wLists d a l k).2 ((a + 1 + k : Nat) : Int) (wList l k)
      omega

theorem wCommit_no {d : DiskM} {a s : Nat} {g : Int} {l : List PutM} (h : wMay d.len a s l = false) : wCommit d a s g l = (20, g, d) := by
  unfold wCommit; rw [if_pos h]
theorem wCommit_bytes {d dk : DiskM} {a s k : Nat} {g r : Int} {l : List PutM} (h : wMay d.len a s l = true) (hb : wBytes d a s l k = (r, dk)) (hr : r ≠ 0) (hk : k ≤ l.length) : wCommit d a s g l = (r, g, dk) := by
  obtain ⟨m, hm⟩ := Nat.exists_eq_add_of_le hk
  have e : wBytes d a s l l.length = (r, dk) := by rw [hm, wBytes_stop (by rw [hb]; exact hr) m, hb]
  unfold wCommit
  rw [if_neg (by simp [h]), e, if_pos hr]
theorem wCommit_lists {d dn dk : DiskM} {a s k : Nat} {g r : Int} {l : List PutM} (h : wMay d.len a s l = true) (hb : wBytes d a s l l.length = (0, dn)) (hl : wLists dn a l k = (r, dk)) (hr : r ≠ 0) (hk : k ≤ listsN l.length) : wCommit d a s g l = (r, g, dk) := by
  obtain ⟨m, hm⟩ := Nat.exists_eq_add_of_le hk
  have e : wLists dn a l (listsN l.length) = (r, dk) := by rw [hm, wLists_stop (by rw [hl]; exact hr) m, hl]
  unfold wCommit
  rw [if_neg (by simp [h]), hb, if_neg (by simp)]
  simp only [e]
  rw [if_pos hr]
theorem wCommit_both {d dn dm db : DiskM} {a s : Nat} {g r : Int} {l : List PutM} (h : wMay d.len a s l = true) (hb : wBytes d a s l l.length = (0, dn)) (hl : wLists dn a l (listsN l.length) = (0, dm)) (ho : wBoth dm a s (wrap64 (g + 1)) l.length = (r, db)) :
    wCommit d a s g l = if r ≠ 0 ∨ l.length = 0 then (r, wrap64 (g + 1), db) else ((wFinish db a s (wrap64 (g + 1)) l.length).1, wrap64 (g + 1), (wFinish db a s (wrap64 (g + 1)) l.length).2) := by
  unfold wCommit
  rw [if_neg (by simp [h]), hb, if_neg (by simp)]
  simp only [hl]
  rw [if_neg (by simp)]
  simp only [ho]

/-- So many of the places of a group's sectors, the rest noughts. -/
def wListTo (l : List PutM) (c k : Nat) : Sec := (((l.drop (32 * c)).take k).flatMap fun p => numB 2 p.sector) ++ List.replicate (64 - 2 * k) 0
theorem flatMap_numB (l : List PutM) : (l.flatMap fun p => numB 2 p.sector).length = 2 * l.length := by
  induction l with
  | nil => rfl
  | cons p l ih => simp [numB_length, ih]; omega
theorem wListTo_length {l : List PutM} {c k : Nat} (hk : k ≤ 32) (hl : 32 * c + k ≤ l.length) : (wListTo l c k).length = 64 := by
  unfold wListTo
  rw [List.length_append, flatMap_numB]
  simp; omega
theorem wListTo_succ {l : List PutM} {c k : Nat} (hk : k < 32) (hl : 32 * c + k < l.length) : putAt (wListTo l c k) (2 * k) (numB 2 (l.getD (32 * c + k) default).sector) = wListTo l c (k + 1) := by
  have h1 : (((l.drop (32 * c)).take k).flatMap fun p => numB 2 p.sector).length = 2 * k := by rw [flatMap_numB]; simp; omega
  have h2 : (l.drop (32 * c)).take (k + 1) = (l.drop (32 * c)).take k ++ [l.getD (32 * c + k) default] := by
    rw [List.take_succ_eq_append_getElem (by simp; omega)]
    simp [hl]
  unfold putAt wListTo
  rw [h2, List.flatMap_append, numB_length]
  simp only [List.flatMap_cons, List.flatMap_nil, List.append_nil]
  generalize ((l.drop (32 * c)).take k).flatMap (fun p => numB 2 p.sector) = F at h1
  rw [List.take_append_of_le_length (by omega), List.take_of_length_le (by omega), List.drop_append, List.drop_of_length_le (by omega), h1]
  simp only [List.nil_append, List.drop_replicate]
  congr 2
  omega
theorem wList_eq {l : List PutM} {c k : Nat} (hk : k = min 32 (l.length - 32 * c)) : wListTo l c k = wList l c := by
  have h2 : (l.drop (32 * c)).take 32 = (l.drop (32 * c)).take k := by
    by_cases h : 32 * c + 32 ≤ l.length
    · rw [show k = 32 by omega]
    · rw [List.take_of_length_le (by simp; omega), List.take_of_length_le (by simp; omega)]
  have h1 : (((l.drop (32 * c)).take k).flatMap fun p => numB 2 p.sector).length = 2 * k := by rw [flatMap_numB]; simp; omega
  unfold wList wListTo
  rw [h2]
  simp only [h1]

end Go.Proofs.YtcggloceabjjdaaGreat
