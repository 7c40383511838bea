/- Maps keyed by ints: delete, clear, len; no condition. -/
import Derived.Test.YtaiobekochhemaaLaws
namespace Go.Proofs.Ytaiobekochhemaa
open Go.RowKit Go.MapKept

theorem MapIs.nodup {es : Array MapEntry} {clock : Nat} {l : List (Int × Value)} (h : MapIs es clock l) : (l.map Prod.fst).Nodup := by
  have h1 := h.stamped.2.2
  have h2 : es.toList.map (·.key) = l.map (fun p => Value.int .i64 p.1) := by
    have := congrArg (List.map Prod.fst) h.list
    simpa [List.map_map, Function.comp_def] using this
  rw [h2] at h1
  have h3 : (l.map Prod.fst).map (Value.int .i64) = l.map (fun p => Value.int .i64 p.1) := by simp [List.map_map, Function.comp_def]
  rw [← h3] at h1
  exact List.Pairwise.of_map (Value.int .i64) (fun a b h e => h (by rw [e])) h1
theorem getL_none {α : Type} {k : Int} : ∀ {l : List (Int × α)}, getL k l = none ↔ k ∉ l.map Prod.fst
  | [] => by simp [getL]
  | p :: l => by
    simp only [getL]
    by_cases h : p.1 = k
    · simp [h]
    · rw [if_neg h, getL_none (l := l)]
      simp [Ne.symm h]
theorem delL_none {α : Type} {k : Int} : ∀ {l : List (Int × α)}, getL k l = none → delL k l = l
  | [], _ => rfl
  | p :: l, h => by
    simp only [getL] at h
    split at h
    · cases h
    · rename_i hp
      simp only [delL]
      rw [if_neg hp, delL_none h]
theorem getL_delL {α : Type} (k j : Int) : ∀ {l : List (Int × α)}, (l.map Prod.fst).Nodup → getL j (delL k l) = if j = k then none else getL j l
  | [], _ => by simp [delL, getL]
  | p :: l, h => by
    simp only [List.map_cons, List.nodup_cons] at h
    simp only [delL]
    by_cases hp : p.1 = k
    · rw [if_pos hp]
      by_cases hj : j = k
      · subst hj
        rw [if_pos rfl, getL_none]
        rw [← hp]
        exact h.1
      · rw [if_neg hj]
        simp only [getL]
        rw [if_neg (by rw [hp]; exact Ne.symm hj)]
    · rw [if_neg hp]
      simp only [getL]
      by_cases hj : p.1 = j
      · rw [if_pos hj, if_neg (by rw [← hj]; exact hp), if_pos hj]
      · rw [if_neg hj, getL_delL k j h.2, if_neg hj]
theorem delL_length {α : Type} {k : Int} : ∀ {l : List (Int × α)}, (getL k l).isSome = true → (delL k l).length + 1 = l.length
  | [], h => by simp [getL] at h
  | p :: l, h => by
    simp only [getL] at h
    simp only [delL]
    by_cases hp : p.1 = k
    · rw [if_pos hp]; rfl
    · rw [if_neg hp] at h ⊢
      have := delL_length h
      simp only [List.length_cons]
      omega

theorem erase_delL (x : Int) : ∀ (es : List MapEntry) (l : List (Int × Value)) (j : Nat) (e : MapEntry), es.map (fun e => (e.key, e.val)) = l.map (fun p => (Value.int .i64 p.1, p.2)) →
    es[j]? = some e → e.key = .int .i64 x → (∀ i e', i < j → es[i]? = some e' → e'.key ≠ .int .i64 x) →
    (es.eraseIdx j).map (fun e => (e.key, e.val)) = (delL x l).map (fun p => (Value.int .i64 p.1, p.2))
  | [], l, j, e, _, hj, _, _ => by simp at hj
  | e0 :: es, l, j, e, h, hj, hk, hlt => by
    cases l with
    | nil => simp at h
    | cons p l =>
      simp only [List.map_cons, List.cons.injEq, Prod.mk.injEq] at h
      obtain ⟨⟨hk0, hv0⟩, h⟩ := h
      cases j with
      | zero =>
        obtain rfl : e0 = e := by simpa using hj
        have hp : p.1 = x := by rw [hk0] at hk; simpa using hk
        simp [delL, hp, h]
      | succ j =>
        have hne : p.1 ≠ x := fun hp => hlt 0 e0 (by omega) rfl (by rw [hk0, hp])
        simp only [List.eraseIdx_cons_succ, List.map_cons, delL, hne, if_false, hk0, hv0]
        congr 1
        exact erase_delL x es l j e h (by simpa using hj) hk (fun i e' hi he' => hlt (i + 1) e' (by omega) (by simpa using he'))

section
variable {P : Program} {w : World} {t kt et : TypeId} {b : Nat} {es : Array MapEntry} {clock : Nat} {l : List (Int × Value)}

theorem run_delete_int (ht : P.underlying t = some (.map kt et)) (hk : P.underlying kt = some (.int .i64)) (hb : w.heap[b]? = some (.map es clock)) (h : MapIs es clock l) (x : Int) (ty : TypeId) :
    ∃ es' clock', (Builtin.delete_ #[t, kt] ty #[.map (some b), .int .i64 x]).run P w = .ok (.tuple #[]) { w with heap := w.heap.setIfInBounds b (.map es' clock') } ∧ MapIs es' clock' (delL x l) := by
  have hc := run_checkKey (P := P) (w := w) hk (show IsKey (.int .i64) (.int .i64 x) from rfl) es.isEmpty 9999
  rcases findNow_spec (show IsKey (.int .i64) (.int .i64 x) from rfl) es.toList 0 h.keys with ⟨h2, h3⟩ | ⟨j, e, h2, h3, h4⟩
  · have hf := run_findKey (P := P) (w := w) hk h2
    refine ⟨es, clock, ?_, ?_⟩
    · simp [Builtin.delete_, run_underlying ht, MapKept.run_getObj_map hb, hc, hf, MapKept.run_setObj_map _ hb, Result.andThen]
    · have hn : getL x l = none := by
        rcases findNow_list x es.toList l 0 h.list with ⟨h1, _⟩ | ⟨j, v, e, _, h5, _⟩
        · exact h1
        · rw [h2] at h5; cases h5
      rw [delL_none hn]
      exact h
  · simp only [Nat.zero_add] at h2
    have hf := run_findKey (P := P) (w := w) hk h2
    have hjl : j < es.size := by have := (List.getElem?_eq_some_iff.1 h3).1; simpa using this
    have hlist : (es.eraseIdxIfInBounds j).toList = es.toList.eraseIdx j := by
      unfold Array.eraseIdxIfInBounds
      rw [dif_pos hjl]
      simp
    refine ⟨es.eraseIdxIfInBounds j, clock, ?_, ?_, stamped_erase h.stamped _⟩
    · simp [Builtin.delete_, run_underlying ht, MapKept.run_getObj_map hb, hc, hf, MapKept.run_setObj_map _ hb, Result.andThen]
    · rw [hlist]
      refine erase_delL x es.toList l j e h.list h3 h4 (fun i e' hi he' hke => ?_)
      have hnd := h.stamped.2.2
      have hi' : i < es.toList.length := (List.getElem?_eq_some_iff.1 he').1
      have hj' : j < es.toList.length := (List.getElem?_eq_some_iff.1 h3).1
      have e1 : (es.toList.map (·.key))[i]'(by simpa using hi') = (es.toList.map (·.key))[j]'(by simpa using hj') := by
        have a1 := (List.getElem?_eq_some_iff.1 he').2
        have a2 := (List.getElem?_eq_some_iff.1 h3).2
        simp only [List.getElem_map, a1, a2, hke, h4]
      rw [List.nodup_iff_pairwise_ne, List.pairwise_iff_getElem] at hnd
      exact hnd i j (by simpa using hi') (by simpa using hj') hi e1

theorem run_clear_int (ht : P.underlying t = some (.map kt et)) (hb : w.heap[b]? = some (.map es clock)) (ty : TypeId) :
    ∃ clock', (Builtin.clear_ #[t] ty #[.map (some b)]).run P w = .ok (.tuple #[]) { w with heap := w.heap.setIfInBounds b (.map #[] clock') } ∧ MapIs #[] clock' [] := by
  refine ⟨clock, ?_, rfl, stamped_empty _⟩
  simp [Builtin.clear_, run_underlying ht, MapKept.run_getObj_map hb, MapKept.run_setObj_map _ hb, Result.andThen]

theorem run_len_int (ht : P.underlying t = some (.map kt et)) (hb : w.heap[b]? = some (.map es clock)) (h : MapIs es clock l) (ty : TypeId) :
    (Builtin.len_ #[t] ty #[.map (some b)]).run P w = .ok (.int .i64 l.length) w := by
  have hs : es.size = l.length := by have := congrArg List.length h.list; simpa using this
  simp [Builtin.len_, run_underlying ht, MapKept.run_getObj_map hb, Result.andThen, hs, goInt]
end

section
variable {P : Program} {w : World} {ops : Array Oper} {rest : List Oper} {o : Oper} {a : Act} {Q : Exit → Act → World → Prop} {R : Assn}

theorem wpList_delete_bears {m x : Operand} {t kt et : TypeId} {b : Nat} {l : List (Int × Value)} {key : Int} (h : Bears w (mapA b l * R)) (hg : o.guard = none)
    (ho : o.op = .call { callee := .builtin .delete, args := #[m, x], argTypes := #[t, kt] }) (ht : P.underlying t = some (.map kt et)) (hk : P.underlying kt = some (.int .i64))
    (hm : a.eval m = .map (some b)) (hx : a.eval x = .int .i64 key)
    (hK : ∀ w', Bears w' (mapA b (delL key l) * R) → wpList P ops Q rest (a.put o.dst (.tuple #[])) w') : wpList P ops Q (o :: rest) a w := by
  obtain ⟨es, clock, hmi, hb⟩ := h.ofMapA
  obtain ⟨es', clock', hrun, hm'⟩ := run_delete_int ht hk hb.obj hmi key o.type
  refine wpList_plain hg fun _ hK' => ?_
  unfold Oper.wp execOp
  simp only [ho, resolve, invoke, builtin, Sem.run_bind, Sem.run_pure, Result.andThen_ok, List.map_toArray, List.map_cons, List.map_nil, hm, hx, hrun]
  exact hK' _ _ (hK _ ((hb.setObj _).toMapA hm'))

theorem wpList_clear_bears {m : Operand} {t kt et : TypeId} {b : Nat} {l : List (Int × Value)} (h : Bears w (mapA b l * R)) (hg : o.guard = none)
    (ho : o.op = .call { callee := .builtin .clear, args := #[m], argTypes := #[t] }) (ht : P.underlying t = some (.map kt et))
    (hm : a.eval m = .map (some b))
    (hK : ∀ w', Bears w' (mapA b [] * R) → wpList P ops Q rest (a.put o.dst (.tuple #[])) w') : wpList P ops Q (o :: rest) a w := by
  obtain ⟨es, clock, hmi, hb⟩ := h.ofMapA
  obtain ⟨clock', hrun, hm'⟩ := run_clear_int ht hb.obj o.type
  refine wpList_plain hg fun _ hK' => ?_
  unfold Oper.wp execOp
  simp only [ho, resolve, invoke, builtin, Sem.run_bind, Sem.run_pure, Result.andThen_ok, List.map_toArray, List.map_cons, List.map_nil, hm, hrun]
  exact hK' _ _ (hK _ ((hb.setObj _).toMapA hm'))

theorem wpList_lenMap_bears {m : Operand} {t kt et : TypeId} {b : Nat} {l : List (Int × Value)} (h : Bears w (mapA b l * R)) (hg : o.guard = none)
    (ho : o.op = .call { callee := .builtin .len, args := #[m], argTypes := #[t] }) (ht : P.underlying t = some (.map kt et))
    (hm : a.eval m = .map (some b))
    (hK : wpList P ops Q rest (a.put o.dst (.int .i64 l.length)) w) : wpList P ops Q (o :: rest) a w := by
  obtain ⟨es, clock, hmi, hb⟩ := h.ofMapA
  have hrun := run_len_int ht hb.obj hmi o.type
  refine wpList_plain hg fun _ hK' => ?_
  unfold Oper.wp execOp
  simp only [ho, resolve, invoke, builtin, Sem.run_bind, Sem.run_pure, Result.andThen_ok, List.map_toArray, List.map_cons, List.map_nil, hm, hrun]
  exact hK' _ _ hK
end

end Go.Proofs.Ytaiobekochhemaa
