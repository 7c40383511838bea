/- Loops over a map that the round does not write; no condition. -/
import Derived.Test.YtaiobekochhemaaMaps2
import Derived.Maps.RangeRun
import Derived.Maps.RangeWalk
namespace Go.Proofs.Ytaiobekochhemaa
open Go.RowKit Go.MapKept

/-- An iterator over a map: which keys have come. -/
structure IterIs (es : Array MapEntry) (clock since c0 : Nat) (seen : Array Nat) (l : List (Int × Value)) (done : List Int) (left : Nat) : Prop where
  map : MapIs es clock l
  hold : ∀ x ∈ es.toList, x.born < since
  le : since ≤ c0
  le2 : since ≤ clock
  saw : ∀ x ∈ es.toList, ∀ k : Int, x.key = .int .i64 k → (seen.contains x.born = true ↔ k ∈ done)
  left : (leftOf es seen).size = left

/-- A map in block b, and an iterator over it in block r. -/
def rangeA (b r : Nat) (l : List (Int × Value)) (done : List Int) (left : Nat) : Assn :=
  Assn.ex fun (z : Array MapEntry × Nat × Nat × Nat × Array Nat) => Assn.fact (IterIs z.1 z.2.1 z.2.2.1 z.2.2.2.1 z.2.2.2.2 l done left) *
    (Assn.obj b (.map z.1 z.2.1) * Assn.obj r (.mapIter (some b) z.2.2.1 z.2.2.2.2 z.2.2.2.1))

theorem Bears.range {w : World} {b r : Nat} {l : List (Int × Value)} {done : List Int} {left : Nat} {R : Assn} : Bears w (rangeA b r l done left * R) ↔
    ∃ es clock since c0 seen, IterIs es clock since c0 seen l done left ∧ Bears w (Assn.obj b (.map es clock) * (Assn.obj r (.mapIter (some b) since seen c0) * R)) := by
  unfold rangeA
  rw [Bears.ex]
  simp only [Assn.mul_assoc']
  constructor
  · rintro ⟨⟨es, clock, since, c0, seen⟩, h⟩
    obtain ⟨h1, h⟩ := Bears.fact.1 h
    exact ⟨es, clock, since, c0, seen, h1, h⟩
  · rintro ⟨es, clock, since, c0, seen, h1, h⟩
    exact ⟨⟨es, clock, since, c0, seen⟩, Bears.fact.2 ⟨h1, h⟩⟩

theorem Bears.rangeLeft {w : World} {b r : Nat} {l : List (Int × Value)} {done : List Int} {left : Nat} {R : Assn} (h : Bears w (rangeA b r l done left * R)) : w.rangeLeft b r = left := by
  obtain ⟨es, clock, since, c0, seen, hi, h⟩ := Bears.range.1 h
  unfold World.rangeLeft
  rw [h.obj, h.pull2.obj]
  exact hi.left

/-- The loop is over. -/
theorem Bears.rangeEnd {w : World} {b r : Nat} {l : List (Int × Value)} {done : List Int} {left : Nat} {R : Assn} (h : Bears w (rangeA b r l done left * R)) : Bears w (mapA b l * R) := by
  obtain ⟨es, clock, since, c0, seen, hi, h⟩ := Bears.range.1 h
  exact (h.pull2.right).toMapA hi.map

theorem mem_of_getL {α : Type} {k : Int} {v : α} : ∀ {l : List (Int × α)}, getL k l = some v → (k, v) ∈ l
  | [], h => by simp [getL] at h
  | p :: l, h => by
    simp only [getL] at h
    split at h
    · rename_i e
      simp only [Option.some.injEq] at h
      subst e; subst h
      simp
    · exact List.mem_cons_of_mem _ (mem_of_getL h)
theorem getL_of_mem {α : Type} {k : Int} {v : α} : ∀ {l : List (Int × α)}, (l.map Prod.fst).Nodup → (k, v) ∈ l → getL k l = some v
  | p :: l, hn, h => by
    simp only [List.map_cons, List.nodup_cons] at hn
    simp only [getL]
    rcases List.mem_cons.1 h with rfl | h
    · simp
    · rw [if_neg, getL_of_mem hn.2 h]
      intro e
      exact hn.1 (by rw [e]; exact List.mem_map.2 ⟨(k, v), h, rfl⟩)
theorem MapIs.entry {es : Array MapEntry} {clock : Nat} {l : List (Int × Value)} (h : MapIs es clock l) {e : MapEntry} (he : e ∈ es.toList) : ∃ k v, e.key = .int .i64 k ∧ e.val = v ∧ getL k l = some v := by
  have : (e.key, e.val) ∈ es.toList.map (fun e => (e.key, e.val)) := List.mem_map.2 ⟨e, he, rfl⟩
  rw [h.list] at this
  obtain ⟨⟨k, v⟩, hm, e1⟩ := List.mem_map.1 this
  simp only [Prod.mk.injEq] at e1
  exact ⟨k, v, e1.1.symm, e1.2.symm, getL_of_mem h.nodup hm⟩
theorem MapIs.has {es : Array MapEntry} {clock : Nat} {l : List (Int × Value)} (h : MapIs es clock l) {k : Int} {v : Value} (hk : getL k l = some v) : ∃ e ∈ es.toList, e.key = .int .i64 k ∧ e.val = v := by
  have : (Value.int .i64 k, v) ∈ l.map (fun p => (Value.int .i64 p.1, p.2)) := List.mem_map.2 ⟨(k, v), mem_of_getL hk, rfl⟩
  rw [← h.list] at this
  obtain ⟨e, he, e1⟩ := List.mem_map.1 this
  simp only [Prod.mk.injEq] at e1
  exact ⟨e, he, e1.1, e1.2⟩
theorem MapIs.inj {es : Array MapEntry} {clock : Nat} {l : List (Int × Value)} (h : MapIs es clock l) {x y : MapEntry} (hx : x ∈ es.toList) (hy : y ∈ es.toList) (hk : x.key = y.key) : x = y :=
  entry_eq_of_key ((stamped_iff es clock).1 h.stamped).2.2 hx hy hk
theorem MapIs.inj2 {es : Array MapEntry} {clock : Nat} {l : List (Int × Value)} (h : MapIs es clock l) {x y : MapEntry} (hx : x ∈ es.toList) (hy : y ∈ es.toList) (hk : x.born = y.born) : x = y := by
  have hn := ((stamped_iff es clock).1 h.stamped).2.1
  obtain ⟨i, hi, rfl⟩ := List.mem_iff_getElem.1 hx
  obtain ⟨j, hj, rfl⟩ := List.mem_iff_getElem.1 hy
  have h1 : (es.toList.map (·.born))[i]'(by simpa using hi) = (es.toList.map (·.born))[j]'(by simpa using hj) := by simpa using hk
  have := (List.getElem_inj hn).1 h1
  subst this
  rfl

section
variable {P : Program} {R : Assn}

theorem run_range_bears {w : World} {t k e : TypeId} {b : Nat} {l : List (Int × Value)} (ht : P.underlying t = some (.map k e)) (h : Bears w (mapA b l * R)) :
    ∃ w' left, (Instr.range t (.map (some b))).run P w = .ok (.pointer (some ⟨w.heap.size, 0, none⟩)) w' ∧ Bears w' (rangeA b w.heap.size l [] left * R) := by
  obtain ⟨es, clock, hm, h⟩ := h.ofMapA
  have h1 := h.alloc (.mapIter (some b) clock #[] clock)
  exact ⟨_, _, run_range_map w t k e b es clock ht h.obj, Bears.range.2 ⟨es, clock, clock, clock, #[], ⟨hm, ((stamped_iff es clock).1 hm.stamped).1, Nat.le_refl _, Nat.le_refl _, fun x _ k _ => by simp, rfl⟩, h1.pull2⟩⟩

theorem run_next_bears {w : World} {b r : Nat} {l : List (Int × Value)} {done : List Int} {left : Nat} (ty : TypeId) (h : Bears w (rangeA b r l done left * R)) :
    ((∀ k v, getL k l = some v → k ∈ done) ∧ (Instr.next (.pointer (some ⟨r, 0, none⟩)) false ty).run P w = .ok (.tuple #[.bool false]) w) ∨
    ∃ k v w' left', getL k l = some v ∧ k ∉ done ∧ left' < left ∧ (Instr.next (.pointer (some ⟨r, 0, none⟩)) false ty).run P w = .ok (.tuple #[.bool true, .int .i64 k, v]) w' ∧ Bears w' (rangeA b r l (k :: done) left' * R) ∧
      (Instr.entry (.pointer (some ⟨r, 0, none⟩))).run P w' = .ok (.tuple #[.int .i64 k, v]) w' := by
  obtain ⟨es, clock, since, c0, seen, hi, h⟩ := Bears.range.1 h
  rcases run_next_at (P := P) w ty r b since c0 seen es clock h.pull2.obj h.obj hi.hold hi.le with ⟨h0, hrun⟩ | ⟨e, he, w1, hal, hrun⟩
  · refine .inl ⟨fun k v hk => ?_, hrun⟩
    obtain ⟨x, hx, hxk, _⟩ := hi.map.has hk
    refine (hi.saw x hx k hxk).1 ?_
    cases hc : seen.contains x.born with
    | true => rfl
    | false =>
      exfalso
      have : x ∈ (leftOf es seen).toList := by
        unfold leftOf
        have hx' : x ∈ es := Array.mem_toList_iff.1 hx
        simp only [Array.mem_toList_iff, Array.mem_filter]
        exact ⟨hx', by rw [hc]; rfl⟩
      have h2 : (leftOf es seen) = #[] := Array.eq_empty_of_size_eq_zero h0
      rw [h2] at this
      simp at this
  · obtain ⟨hem, hes⟩ := mem_left he
    obtain ⟨k, v, hk, hv, hg⟩ := hi.map.entry hem
    have h1 : Bears w1 (Assn.obj r (.mapIter (some b) since seen c0) * (Assn.obj b (.map es clock) * R)) := by
      rcases hal with rfl | rfl
      · exact h.pull2
      · exact h.drew.pull2
    have h2 : Bears (ChangeMaps.setBlock w1 r (.mapIter (some b) since (seen.push e.born) clock)) (Assn.obj r (.mapIter (some b) since (seen.push e.born) clock) * (Assn.obj b (.map es clock) * R)) := h1.setObj _
    refine .inr ⟨k, v, _, _, hg, fun hd => ?_, ?_, by rw [hrun, hk, hv], Bears.range.2 ⟨es, clock, since, clock, seen.push e.born, ⟨hi.map, hi.hold, hi.le2, hi.le2, fun x hx j hj => ?_, rfl⟩, h2.pull2⟩, ?_⟩
    · rw [(hi.saw e hem k hk).2 hd] at hes
      cases hes
    · rw [← hi.left]
      exact left_shrinks es seen e he
    · rw [contains_push, Bool.or_eq_true, hi.saw x hx j hj, List.mem_cons, beq_iff_eq]
      constructor
      · rintro (h3 | h3)
        · exact .inr h3
        · have := hi.map.inj2 hx hem h3
          subst this
          rw [hk] at hj
          simp only [Value.int.injEq, true_and] at hj
          exact .inl hj.symm
      · rintro (rfl | h3)
        · exact .inr (by rw [hi.map.inj hx hem (hj.trans hk.symm)])
        · exact .inl h3
    · have := run_entry_at (P := P) (ChangeMaps.setBlock w1 r (.mapIter (some b) since (seen.push e.born) clock)) r b since seen es clock e h2.obj h2.pull2.obj hem ((stamped_iff es clock).1 hi.map.stamped).2.1
      rw [this, hk, hv]
end

section
variable {P : Program} {w : World} {ops : Array Oper} {rest : List Oper} {o : Oper} {a : Act} {Q : Exit → Act → World → Prop} {R : Assn}

theorem wpList_range_bears {m : Operand} {t k e : TypeId} {b : Nat} {l : List (Int × Value)} (h : Bears w (mapA b l * R)) (hg : o.guard = none) (hop : o.op = .range t m) (ht : P.underlying t = some (.map k e))
    (hm : a.eval m = .map (some b))
    (hK : ∀ w' left, Bears w' (rangeA b w.heap.size l [] left * R) → wpList P ops Q rest (a.put o.dst (.pointer (some ⟨w.heap.size, 0, none⟩))) w') : wpList P ops Q (o :: rest) a w := by
  obtain ⟨w', left, hrun, h'⟩ := run_range_bears (P := P) ht h
  refine wpList_plain hg fun _ hK' => ?_
  unfold Oper.wp
  simp [execOp, hop, hm, hrun, Result.andThen]
  exact hK' _ _ (hK _ _ h')

theorem wpList_next_bears {it : Operand} {b r : Nat} {l : List (Int × Value)} {done : List Int} {left : Nat} (h : Bears w (rangeA b r l done left * R)) (hg : o.guard = none) (hop : o.op = .next it false)
    (hit : a.eval it = .pointer (some ⟨r, 0, none⟩))
    (hDone : (∀ k v, getL k l = some v → k ∈ done) → wpList P ops Q rest (a.put o.dst (.tuple #[.bool false])) w)
    (hMore : ∀ k v w' left', getL k l = some v → k ∉ done → left' < left → Bears w' (rangeA b r l (k :: done) left' * R) → (Instr.entry (.pointer (some ⟨r, 0, none⟩))).run P w' = .ok (.tuple #[.int .i64 k, v]) w' →
      wpList P ops Q rest (a.put o.dst (.tuple #[.bool true, .int .i64 k, v])) w') : wpList P ops Q (o :: rest) a w := by
  refine wpList_plain hg fun _ hK' => ?_
  unfold Oper.wp
  rcases run_next_bears (P := P) o.type h with ⟨hd, hrun⟩ | ⟨k, v, w', left', hk, hn, hlt, hrun, h', hen⟩
  · simp [execOp, hop, hit, hrun, Result.andThen]
    exact hK' _ _ (hDone hd)
  · simp [execOp, hop, hit, hrun, Result.andThen]
    exact hK' _ _ (hMore k v w' left' hk hn hlt h' hen)
end

end Go.Proofs.Ytaiobekochhemaa
