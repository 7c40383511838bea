/- Maps keyed by ints, as association lists; what the operations on them do; no condition. -/
import Derived.Test.YtaiobekochhemaaSep
import Derived.MapKept
import Derived.Maps.Own
namespace Go.Proofs.Ytaiobekochhemaa
open Go.RowKit Go.MapKept

/-- The value at a key. -/
def getL {α : Type} (k : Int) : List (Int × α) → Option α
  | [] => none
  | p :: r => if p.1 = k then some p.2 else getL k r
/-- The value at a key, written. -/
def putL {α : Type} (k : Int) (v : α) : List (Int × α) → List (Int × α)
  | [] => [(k, v)]
  | p :: r => if p.1 = k then (k, v) :: r else p :: putL k v r
/-- A key, taken out. -/
def delL {α : Type} (k : Int) : List (Int × α) → List (Int × α)
  | [] => []
  | p :: r => if p.1 = k then r else p :: delL k r

theorem getL_putL {α : Type} (k j : Int) (v : α) (l : List (Int × α)) : getL j (putL k v l) = if j = k then some v else getL j l := by
  induction l with
  | nil =>
    simp only [putL, getL]
    by_cases h : j = k
    · subst h; simp
    · simp [h, Ne.symm h]
  | cons p r ih =>
    simp only [putL]
    by_cases h : p.1 = k
    · simp only [h, if_true, getL]
      by_cases hj : j = k
      · subst hj; simp
      · simp [hj, Ne.symm hj]
    · simp only [h, if_false, getL, ih]
      by_cases hj : j = k
      · subst hj; simp [h]
      · simp [hj]

/-- How a map's entries stand in memory. -/
structure MapIs (es : Array MapEntry) (clock : Nat) (l : List (Int × Value)) : Prop where
  list : es.toList.map (fun e => (e.key, e.val)) = l.map (fun p => (Value.int .i64 p.1, p.2))
  stamped : Stamped es clock

theorem MapIs.keys {es : Array MapEntry} {clock : Nat} {l : List (Int × Value)} (h : MapIs es clock l) : ∀ x ∈ es.toList, IsKey (.int .i64) x.key := by
  intro x hx
  have : (x.key, x.val) ∈ es.toList.map (fun e => (e.key, e.val)) := List.mem_map.2 ⟨x, hx, rfl⟩
  rw [h.list] at this
  obtain ⟨p, _, hp⟩ := List.mem_map.1 this
  have : x.key = .int .i64 p.1 := (congrArg Prod.fst hp).symm
  rw [this]
  exact rfl

theorem findNow_list (x : Int) : ∀ (es : List MapEntry) (l : List (Int × Value)) (i : Nat), es.map (fun e => (e.key, e.val)) = l.map (fun p => (Value.int .i64 p.1, p.2)) →
    (getL x l = none ∧ Instr.findNow (.int .i64) (.int .i64 x) es i = some none ∧ ∀ e ∈ es, e.key ≠ .int .i64 x) ∨
    ∃ j v e, getL x l = some v ∧ Instr.findNow (.int .i64) (.int .i64 x) es i = some (some (i + j, v)) ∧ es[j]? = some e ∧ e.key = .int .i64 x ∧ e.val = v
  | [], l, i, h => by
    have : l = [] := by simpa using h.symm
    subst this
    exact .inl ⟨rfl, rfl, by simp⟩
  | e :: es, l, i, h => by
    cases l with
    | nil => simp at h
    | cons p l =>
      simp only [List.map_cons, List.cons.injEq, Prod.mk.injEq] at h
      obtain ⟨⟨hk, hv⟩, h⟩ := h
      by_cases hp : p.1 = x
      · refine .inr ⟨0, p.2, e, by simp [getL, hp], ?_, rfl, by rw [hk, hp], hv⟩
        simp [Instr.findNow, hk, hp, Instr.sameNow, hv]
      · have hne : e.key ≠ .int .i64 x := by
          rw [hk]
          intro he
          simp only [Value.int.injEq, true_and] at he
          exact hp he
        have hs : Instr.sameNow (.int .i64) (.int .i64 x) e.key = some false := by
          rw [hk]
          simp [Instr.sameNow, Ne.symm hp]
        rcases findNow_list x es l (i + 1) h with ⟨h1, h2, h3⟩ | ⟨j, v, e', h1, h2, h3, h4, h5⟩
        · exact .inl ⟨by simp [getL, hp, h1], by simp [Instr.findNow, hs, h2], fun e' he' => by
            cases he' with
            | head => exact hne
            | tail _ he' => exact h3 _ he'⟩
        · exact .inr ⟨j + 1, v, e', by simp [getL, hp, h1], by simp [Instr.findNow, hs, h2]; omega, by simpa using h3, h4, h5⟩

section
variable {P : Program} {w : World} {t kt et : TypeId} {b : Nat} {es : Array MapEntry} {clock : Nat} {l : List (Int × Value)}

theorem run_lookup_int (ht : P.underlying t = some (.map kt et)) (hk : P.underlying kt = some (.int .i64)) {z : Value} (hz : (zeroValue et).run P w = .ok z w)
    (hb : w.heap[b]? = some (.map es clock)) (h : MapIs es clock l) (x : Int) :
    (Instr.lookup t (.map (some b)) (.int .i64 x) false).run P w = .ok ((getL x l).getD z) w := by
  have hc := run_checkKey (P := P) (w := w) hk (show IsKey (.int .i64) (.int .i64 x) from rfl) es.isEmpty 9999
  rcases findNow_list x es.toList l 0 h.list with ⟨h1, h2, _⟩ | ⟨j, v, e, h1, h2, _⟩
  · have hf := run_findKey (P := P) (w := w) hk h2
    simp [Instr.lookup, run_underlying ht, MapKept.run_getObj_map hb, hc, hf, h1, hz, Result.andThen]
  · have hf := run_findKey (P := P) (w := w) hk h2
    simp [Instr.lookup, run_underlying ht, MapKept.run_getObj_map hb, hc, hf, h1, Result.andThen]

theorem run_lookup_int_ok (ht : P.underlying t = some (.map kt et)) (hk : P.underlying kt = some (.int .i64)) {z : Value} (hz : (zeroValue et).run P w = .ok z w)
    (hb : w.heap[b]? = some (.map es clock)) (h : MapIs es clock l) (x : Int) :
    (Instr.lookup t (.map (some b)) (.int .i64 x) true).run P w = .ok (.tuple #[(getL x l).getD z, .bool (getL x l).isSome]) w := by
  have hc := run_checkKey (P := P) (w := w) hk (show IsKey (.int .i64) (.int .i64 x) from rfl) es.isEmpty 9999
  rcases findNow_list x es.toList l 0 h.list with ⟨h1, h2, _⟩ | ⟨j, v, e, h1, h2, _⟩
  · have hf := run_findKey (P := P) (w := w) hk h2
    simp [Instr.lookup, run_underlying ht, MapKept.run_getObj_map hb, hc, hf, h1, hz, Result.andThen]
  · have hf := run_findKey (P := P) (w := w) hk h2
    simp [Instr.lookup, run_underlying ht, MapKept.run_getObj_map hb, hc, hf, h1, Result.andThen]

theorem set_putL (x : Int) (v : Value) : ∀ (es : List MapEntry) (l : List (Int × Value)) (j : Nat) (e : MapEntry), es.map (fun e => (e.key, e.val)) = l.map (fun p => (Value.int .i64 p.1, p.2)) →
    es[j]? = some e → e.key = .int .i64 x → (∀ i e', i < j → es[i]? = some e' → e'.key ≠ .int .i64 x) →
    (es.set j { e with key := .int .i64 x, val := v }).map (fun e => (e.key, e.val)) = (putL x v l).map (fun p => (Value.int .i64 p.1, p.2))
  | [], l, j, e, _, hj, _, _ => by simp at hj
  | e0 :: es, l, j, e, h, hj, hk, hlt => by
    cases l with
    | nil => simp at h
    | cons p l =>
      simp only [List.map_cons, List.cons.injEq, Prod.mk.injEq] at h
      obtain ⟨⟨hk0, hv0⟩, h⟩ := h
      cases j with
      | zero =>
        obtain rfl : e0 = e := by simpa using hj
        have hp : p.1 = x := by rw [hk0] at hk; simpa using hk
        simp [putL, hp, h]
      | succ j =>
        have hne : p.1 ≠ x := fun hp => hlt 0 e0 (by omega) rfl (by rw [hk0, hp])
        simp only [List.set_cons_succ, List.map_cons, putL, hne, if_false, hk0, hv0]
        congr 1
        exact set_putL x v es l j e h (by simpa using hj) hk (fun i e' hi he' => hlt (i + 1) e' (by omega) (by simpa using he'))

theorem push_putL (x : Int) (v : Value) : ∀ (es : List MapEntry) (l : List (Int × Value)) (n : MapEntry), es.map (fun e => (e.key, e.val)) = l.map (fun p => (Value.int .i64 p.1, p.2)) →
    (∀ e ∈ es, e.key ≠ .int .i64 x) → n.key = .int .i64 x → n.val = v → (es ++ [n]).map (fun e => (e.key, e.val)) = (putL x v l).map (fun p => (Value.int .i64 p.1, p.2))
  | [], l, n, h, _, hk, hv => by
    have : l = [] := by simpa using h.symm
    subst this
    simp [putL, hk, hv]
  | e0 :: es, l, n, h, hne, hk, hv => by
    cases l with
    | nil => simp at h
    | cons p l =>
      simp only [List.map_cons, List.cons.injEq, Prod.mk.injEq] at h
      obtain ⟨⟨hk0, hv0⟩, h⟩ := h
      have hp : p.1 ≠ x := fun hp => hne e0 (by simp) (by rw [hk0, hp])
      simp only [List.cons_append, List.map_cons, putL, hp, if_false, hk0, hv0]
      congr 1
      exact push_putL x v es l n h (fun e he => hne e (by simp [he])) hk hv

theorem run_mapUpdate_int (ht : P.underlying t = some (.map kt et)) (hk : P.underlying kt = some (.int .i64))
    (hb : w.heap[b]? = some (.map es clock)) (h : MapIs es clock l) (x : Int) (v : Value) :
    ∃ es' clock', (Instr.mapUpdate t (.map (some b)) (.int .i64 x) v).run P w = .ok () { w with heap := w.heap.setIfInBounds b (.map es' clock') } ∧ MapIs es' clock' (putL x v l) := by
  have hc := run_checkKey (P := P) (w := w) hk (show IsKey (.int .i64) (.int .i64 x) from rfl) false 9999
  rcases findNow_spec (show IsKey (.int .i64) (.int .i64 x) from rfl) es.toList 0 h.keys with ⟨h2, h3⟩ | ⟨j, e, h2, h3, h4⟩
  · have hf := run_findKey (P := P) (w := w) hk h2
    refine ⟨es.push ⟨.int .i64 x, v, clock⟩, clock + 1, ?_, ?_, stamped_push h.stamped h3⟩
    · simp [Instr.mapUpdate, run_underlying ht, MapKept.run_getObj_map hb, hc, hf, MapKept.run_setObj_map _ hb, Result.andThen]
    · rw [Array.toList_push]
      exact push_putL x v es.toList l _ h.list h3 rfl rfl
  · simp only [Nat.zero_add] at h2
    have hf := run_findKey (P := P) (w := w) hk h2
    have hj : es[j]? = some e := by simpa using h3
    have hkeyf : ∀ e', es[j]? = some e' → ({ e' with key := .int .i64 x, val := v } : MapEntry).key = e'.key := fun e' he' => by
      rw [hj] at he'; cases he'; exact h4.symm
    have hlist : (es.modify j (fun e' => { e' with key := .int .i64 x, val := v })).toList = es.toList.set j { e with key := .int .i64 x, val := v } := by
      rw [Array.toList_modify, ChangeMaps.modify_eq_set _ _ _ _ h3]
    refine ⟨es.modify j (fun e' => { e' with key := .int .i64 x, val := v }), clock, ?_, ?_, stamped_modify h.stamped _ _ (fun _ _ => rfl) (fun e' _ he' => hkeyf e' he')⟩
    · have hst := run_keyThatStays (P := P) (w := w) (show IsKey (.int .i64) (.int .i64 x) from rfl)
      simp [Instr.mapUpdate, run_underlying ht, MapKept.run_getObj_map hb, hc, hf, hj, h4, hst, MapKept.run_setObj_map _ hb, Result.andThen]
    · rw [hlist]
      refine set_putL x v es.toList l j e h.list h3 h4 (fun i e' hi he' hke => ?_)
      have hnd := h.stamped.2.2
      have hi' : i < es.toList.length := (List.getElem?_eq_some_iff.1 he').1
      have hj' : j < es.toList.length := (List.getElem?_eq_some_iff.1 h3).1
      have e1 : (es.toList.map (·.key))[i]'(by simpa using hi') = (es.toList.map (·.key))[j]'(by simpa using hj') := by
        have a1 := (List.getElem?_eq_some_iff.1 he').2
        have a2 := (List.getElem?_eq_some_iff.1 h3).2
        simp only [List.getElem_map, a1, a2, hke, h4]
      rw [List.nodup_iff_pairwise_ne, List.pairwise_iff_getElem] at hnd
      exact hnd i j (by simpa using hi') (by simpa using hj') hi e1

end

/-- The map in block b. -/
def mapA (b : Nat) (l : List (Int × Value)) : Assn := Assn.ex fun es => Assn.ex fun clock => Assn.fact (MapIs es clock l) * Assn.obj b (.map es clock)

theorem Bears.ofMapA {w : World} {b : Nat} {l : List (Int × Value)} {R : Assn} (h : Bears w (mapA b l * R)) : ∃ es clock, MapIs es clock l ∧ Bears w (Assn.obj b (.map es clock) * R) := by
  unfold mapA at h
  obtain ⟨es, h⟩ := Bears.ex.1 h
  obtain ⟨clock, h⟩ := Bears.ex.1 h
  rw [Assn.mul_assoc'] at h
  obtain ⟨h1, h2⟩ := Bears.fact.1 h
  exact ⟨es, clock, h1, h2⟩

theorem Bears.toMapA {w : World} {b : Nat} {l : List (Int × Value)} {R : Assn} {es : Array MapEntry} {clock : Nat} (h : Bears w (Assn.obj b (.map es clock) * R)) (hm : MapIs es clock l) : Bears w (mapA b l * R) := by
  unfold mapA
  refine Bears.ex.2 ⟨es, Bears.ex.2 ⟨clock, ?_⟩⟩
  rw [Assn.mul_assoc']
  exact Bears.fact.2 ⟨hm, h⟩

end Go.Proofs.Ytaiobekochhemaa
