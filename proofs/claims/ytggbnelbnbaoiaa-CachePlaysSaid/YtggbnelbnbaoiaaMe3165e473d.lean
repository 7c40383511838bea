/- Texts of this claim, put together: Maps2, CacheM, RCD, RCW1, RCW2, WalM, WalW1, WalW2; no condition. -/
import Derived.Test.YtggbnelbnbaoiaaM29bf9127e5
import Derived.Laws.BitsAllLaws
import Derived.Lib.LazyBuf

set_option linter.unusedSimpArgs false
set_option linter.unusedVariables false

/- Maps keyed by ints: delete, clear, len; no condition. -/
namespace Go.Proofs.Ytggbnelbnbaoiaa
open Go.RowKit Go.MapKept

theorem MapIs.nodup {es : Array MapEntry} {clock : Nat} {l : List (Int × Value)} (h : MapIs es clock l) : (l.map Prod.fst).Nodup := by
  have h1 := h.stamped.2.2
  have h2 : es.toList.map (·.key) = l.map (fun p => Value.int .i64 p.1) := by
    have := congrArg (List.map Prod.fst) h.list
    simpa [List.map_map, Function.comp_def] using this
  rw [h2] at h1
  have h3 : (l.map Prod.fst).map (Value.int .i64) = l.map (fun p => Value.int .i64 p.1) := by simp [List.map_map, Function.comp_def]
  rw [← h3] at h1
  exact List.Pairwise.of_map (Value.int .i64) (fun a b h e => h (by rw [e])) h1
theorem getL_none {α : Type} {k : Int} : ∀ {l : List (Int × α)}, getL k l = none ↔ k ∉ l.map Prod.fst
  | [] => by simp [getL]
  | p :: l => by
    simp only [getL]
    by_cases h : p.1 = k
    · simp [h]
    · rw [if_neg h, getL_none (l := l)]
      simp [Ne.symm h]
theorem delL_none {α : Type} {k : Int} : ∀ {l : List (Int × α)}, getL k l = none → delL k l = l
  | [], _ => rfl
  | p :: l, h => by
    simp only [getL] at h
    split at h
    · cases h
    · rename_i hp
      simp only [delL]
      rw [if_neg hp, delL_none h]
theorem getL_delL {α : Type} (k j : Int) : ∀ {l : List (Int × α)}, (l.map Prod.fst).Nodup → getL j (delL k l) = if j = k then none else getL j l
  | [], _ => by simp [delL, getL]
  | p :: l, h => by
    simp only [List.map_cons, List.nodup_cons] at h
    simp only [delL]
    by_cases hp : p.1 = k
    · rw [if_pos hp]
      by_cases hj : j = k
      · subst hj
        rw [if_pos rfl, getL_none]
        rw [← hp]
        exact h.1
      · rw [if_neg hj]
        simp only [getL]
        rw [if_neg (by rw [hp]; exact Ne.symm hj)]
    · rw [if_neg hp]
      simp only [getL]
      by_cases hj : p.1 = j
      · rw [if_pos hj, if_neg (by rw [← hj]; exact hp), if_pos hj]
      · rw [if_neg hj, getL_delL k j h.2, if_neg hj]
theorem delL_length {α : Type} {k : Int} : ∀ {l : List (Int × α)}, (getL k l).isSome = true → (delL k l).length + 1 = l.length
  | [], h => by simp [getL] at h
  | p :: l, h => by
    simp only [getL] at h
    simp only [delL]
    by_cases hp : p.1 = k
    · rw [if_pos hp]; rfl
    · rw [if_neg hp] at h ⊢
      have := delL_length h
      simp only [List.length_cons]
      omega

theorem erase_delL (x : Int) : ∀ (es : List MapEntry) (l : List (Int × Value)) (j : Nat) (e : MapEntry), es.map (fun e => (e.key, e.val)) = l.map (fun p => (Value.int .i64 p.1, p.2)) →
    es[j]? = some e → e.key = .int .i64 x → (∀ i e', i < j → es[i]? = some e' → e'.key ≠ .int .i64 x) →
    (es.eraseIdx j).map (fun e => (e.key, e.val)) = (delL x l).map (fun p => (Value.int .i64 p.1, p.2))
  | [], l, j, e, _, hj, _, _ => by simp at hj
  | e0 :: es, l, j, e, h, hj, hk, hlt => by
    cases l with
    | nil => simp at h
    | cons p l =>
      simp only [List.map_cons, List.cons.injEq, Prod.mk.injEq] at h
      obtain ⟨⟨hk0, hv0⟩, h⟩ := h
      cases j with
      | zero =>
        obtain rfl : e0 = e := by simpa using hj
        have hp : p.1 = x := by rw [hk0] at hk; simpa using hk
        simp [delL, hp, h]
      | succ j =>
        have hne : p.1 ≠ x := fun hp => hlt 0 e0 (by omega) rfl (by rw [hk0, hp])
        simp only [List.eraseIdx_cons_succ, List.map_cons, delL, hne, if_false, hk0, hv0]
        congr 1
        exact erase_delL x es l j e h (by simpa using hj) hk (fun i e' hi he' => hlt (i + 1) e' (by omega) (by simpa using he'))

section
variable {P : Program} {w : World} {t kt et : TypeId} {b : Nat} {es : Array MapEntry} {clock : Nat} {l : List (Int × Value)}

theorem run_delete_int (ht : P.underlying t = some (.map kt et)) (hk : P.underlying kt = some (.int .i64)) (hb : w.heap[b]? = some (.map es clock)) (h : MapIs es clock l) (x : Int) (ty : TypeId) :
    ∃ es' clock', (Builtin.delete_ #[t, kt] ty #[.map (some b), .int .i64 x]).run P w = .ok (.tuple #[]) { w with heap := w.heap.setIfInBounds b (.map es' clock') } ∧ MapIs es' clock' (delL x l) := by
  have hc := run_checkKey (P := P) (w := w) hk (show IsKey (.int .i64) (.int .i64 x) from rfl) es.isEmpty 9999
  rcases findNow_spec (show IsKey (.int .i64) (.int .i64 x) from rfl) es.toList 0 h.keys with ⟨h2, h3⟩ | ⟨j, e, h2, h3, h4⟩
  · have hf := run_findKey (P := P) (w := w) hk h2
    refine ⟨es, clock, ?_, ?_⟩
    · simp [Builtin.delete_, run_underlying ht, MapKept.run_getObj_map hb, hc, hf, MapKept.run_setObj_map _ hb, Result.andThen]
    · have hn : getL x l = none := by
        rcases findNow_list x es.toList l 0 h.list with ⟨h1, _⟩ | ⟨j, v, e, _, h5, _⟩
        · exact h1
        · rw [h2] at h5; cases h5
      rw [delL_none hn]
      exact h
  · simp only [Nat.zero_add] at h2
    have hf := run_findKey (P := P) (w := w) hk h2
    have hjl : j < es.size := by have := (List.getElem?_eq_some_iff.1 h3).1; simpa using this
    have hlist : (es.eraseIdxIfInBounds j).toList = es.toList.eraseIdx j := by
      unfold Array.eraseIdxIfInBounds
      rw [dif_pos hjl]
      simp
    refine ⟨es.eraseIdxIfInBounds j, clock, ?_, ?_, stamped_erase h.stamped _⟩
    · simp [Builtin.delete_, run_underlying ht, MapKept.run_getObj_map hb, hc, hf, MapKept.run_setObj_map _ hb, Result.andThen]
    · rw [hlist]
      refine erase_delL x es.toList l j e h.list h3 h4 (fun i e' hi he' hke => ?_)
      have hnd := h.stamped.2.2
      have hi' : i < es.toList.length := (List.getElem?_eq_some_iff.1 he').1
      have hj' : j < es.toList.length := (List.getElem?_eq_some_iff.1 h3).1
      have e1 : (es.toList.map (·.key))[i]'(by simpa using hi') = (es.toList.map (·.key))[j]'(by simpa using hj') := by
        have a1 := (List.getElem?_eq_some_iff.1 he').2
        have a2 := (List.getElem?_eq_some_iff.1 h3).2
        simp only [List.getElem_map, a1, a2, hke, h4]
      rw [List.nodup_iff_pairwise_ne, List.pairwise_iff_getElem] at hnd
      exact hnd i j (by simpa using hi') (by simpa using hj') hi e1

theorem run_clear_int (ht : P.underlying t = some (.map kt et)) (hb : w.heap[b]? = some (.map es clock)) (ty : TypeId) :
    ∃ clock', (Builtin.clear_ #[t] ty #[.map (some b)]).run P w = .ok (.tuple #[]) { w with heap := w.heap.setIfInBounds b (.map #[] clock') } ∧ MapIs #[] clock' [] := by
  refine ⟨clock, ?_, rfl, stamped_empty _⟩
  simp [Builtin.clear_, run_underlying ht, MapKept.run_getObj_map hb, MapKept.run_setObj_map _ hb, Result.andThen]

theorem run_len_int (ht : P.underlying t = some (.map kt et)) (hb : w.heap[b]? = some (.map es clock)) (h : MapIs es clock l) (ty : TypeId) :
    (Builtin.len_ #[t] ty #[.map (some b)]).run P w = .ok (.int .i64 l.length) w := by
  have hs : es.size = l.length := by have := congrArg List.length h.list; simpa using this
  simp [Builtin.len_, run_underlying ht, MapKept.run_getObj_map hb, Result.andThen, hs, goInt]
end

section
variable {P : Program} {w : World} {ops : Array Oper} {rest : List Oper} {o : Oper} {a : Act} {Q : Exit → Act → World → Prop} {R : Assn}

theorem wpList_delete_bears {m x : Operand} {t kt et : TypeId} {b : Nat} {l : List (Int × Value)} {key : Int} (h : Bears w (mapA b l * R)) (hg : o.guard = none)
    (ho : o.op = .call { callee := .builtin .delete, args := #[m, x], argTypes := #[t, kt] }) (ht : P.underlying t = some (.map kt et)) (hk : P.underlying kt = some (.int .i64))
    (hm : a.eval m = .map (some b)) (hx : a.eval x = .int .i64 key)
    (hK : ∀ w', Bears w' (mapA b (delL key l) * R) → wpList P ops Q rest (a.put o.dst (.tuple #[])) w') : wpList P ops Q (o :: rest) a w := by
  obtain ⟨es, clock, hmi, hb⟩ := h.ofMapA
  obtain ⟨es', clock', hrun, hm'⟩ := run_delete_int ht hk hb.obj hmi key o.type
  refine wpList_plain hg fun _ hK' => ?_
  unfold Oper.wp execOp
  simp only [ho, resolve, invoke, builtin, Sem.run_bind, Sem.run_pure, Result.andThen_ok, List.map_toArray, List.map_cons, List.map_nil, hm, hx, hrun]
  exact hK' _ _ (hK _ ((hb.setObj _).toMapA hm'))

theorem wpList_clear_bears {m : Operand} {t kt et : TypeId} {b : Nat} {l : List (Int × Value)} (h : Bears w (mapA b l * R)) (hg : o.guard = none)
    (ho : o.op = .call { callee := .builtin .clear, args := #[m], argTypes := #[t] }) (ht : P.underlying t = some (.map kt et))
    (hm : a.eval m = .map (some b))
    (hK : ∀ w', Bears w' (mapA b [] * R) → wpList P ops Q rest (a.put o.dst (.tuple #[])) w') : wpList P ops Q (o :: rest) a w := by
  obtain ⟨es, clock, hmi, hb⟩ := h.ofMapA
  obtain ⟨clock', hrun, hm'⟩ := run_clear_int ht hb.obj o.type
  refine wpList_plain hg fun _ hK' => ?_
  unfold Oper.wp execOp
  simp only [ho, resolve, invoke, builtin, Sem.run_bind, Sem.run_pure, Result.andThen_ok, List.map_toArray, List.map_cons, List.map_nil, hm, hrun]
  exact hK' _ _ (hK _ ((hb.setObj _).toMapA hm'))

theorem wpList_lenMap_bears {m : Operand} {t kt et : TypeId} {b : Nat} {l : List (Int × Value)} (h : Bears w (mapA b l * R)) (hg : o.guard = none)
    (ho : o.op = .call { callee := .builtin .len, args := #[m], argTypes := #[t] }) (ht : P.underlying t = some (.map kt et))
    (hm : a.eval m = .map (some b))
    (hK : wpList P ops Q rest (a.put o.dst (.int .i64 l.length)) w) : wpList P ops Q (o :: rest) a w := by
  obtain ⟨es, clock, hmi, hb⟩ := h.ofMapA
  have hrun := run_len_int ht hb.obj hmi o.type
  refine wpList_plain hg fun _ hK' => ?_
  unfold Oper.wp execOp
  simp only [ho, resolve, invoke, builtin, Sem.run_bind, Sem.run_pure, Result.andThen_ok, List.map_toArray, List.map_cons, List.map_nil, hm, hrun]
  exact hK' _ _ hK
end

end Go.Proofs.Ytggbnelbnbaoiaa

/- The cache: a plain model of it; no condition. -/
namespace Go.Proofs.Ytggbnelbnbaoiaa
open Go.RowKit Go.MapKept

/-- A sector that is held. -/
structure LineM where
  at' : Int
  b : Sec
  pin : Bool
instance : Inhabited LineM := ⟨⟨0, [], false⟩⟩
/-- The lines, the one that was used the longest ago first. -/
structure CacheM where
  most : Int
  misses : Int
  isOpen : Bool
  lines : List LineM

def findL (i : Int) : List LineM → Option LineM
  | [] => none
  | x :: r => if x.at' = i then some x else findL i r
def forgetL (i : Int) : List LineM → List LineM
  | [] => []
  | x :: r => if x.at' = i then r else x :: forgetL i r
def useL (x : LineM) (ls : List LineM) : List LineM := forgetL x.at' ls ++ [x]
/-- The first line that is not pinned, taken out. -/
def dropFree : List LineM → Option (List LineM)
  | [] => none
  | x :: r => if x.pin = false then some r else (dropFree r).map (x :: ·)
def trimL (most : Int) : Nat → List LineM → List LineM
  | 0, ls => ls
  | n + 1, ls => if (ls.length : Int) ≤ most then ls else match dropFree ls with
    | none => ls
    | some r => trimL most n r
def CacheM.trim (c : CacheM) : CacheM := { c with lines := trimL c.most c.lines.length c.lines }

structure CacheM.WF (c : CacheM) : Prop where
  nodup : (c.lines.map (·.at')).Nodup
  bytes : ∀ x ∈ c.lines, x.b.length = 64
  most : 1 ≤ c.most ∧ c.most ≤ 9223372036854775807
  misses : -9223372036854775808 ≤ c.misses ∧ c.misses ≤ 9223372036854775807
  closed : c.isOpen = false → ∀ x ∈ c.lines, x.pin = false
  place : ∀ x ∈ c.lines, x.pin = true → 0 ≤ x.at' ∧ x.at' ≤ 8192

theorem forgetL_sub (i : Int) : ∀ (ls : List LineM), (forgetL i ls).Sublist ls
  | [] => by simp [forgetL]
  | x :: r => by
    simp only [forgetL]
    split
    · exact List.sublist_cons_self x r
    · exact (forgetL_sub i r).cons_cons x
theorem forgetL_not {i : Int} : ∀ {ls : List LineM}, (ls.map (·.at')).Nodup → i ∉ (forgetL i ls).map (·.at')
  | [], _ => by simp [forgetL]
  | x :: r, h => by
    simp only [List.map_cons, List.nodup_cons] at h
    simp only [forgetL]
    split
    · rename_i e
      rw [← e]
      exact h.1
    · rename_i e
      simp only [List.map_cons, List.mem_cons, not_or]
      exact ⟨Ne.symm e, forgetL_not h.2⟩
theorem forgetL_none {i : Int} : ∀ {ls : List LineM}, findL i ls = none → forgetL i ls = ls
  | [], _ => rfl
  | x :: r, h => by
    simp only [findL] at h
    split at h
    · cases h
    · rename_i e
      simp only [forgetL]
      rw [if_neg e, forgetL_none h]
theorem findL_forgetL (i j : Int) : ∀ {ls : List LineM}, (ls.map (·.at')).Nodup → findL j (forgetL i ls) = if j = i then none else findL j ls
  | [], _ => by simp [forgetL, findL]
  | x :: r, h => by
    have h' := h
    simp only [List.map_cons, List.nodup_cons] at h
    simp only [forgetL]
    by_cases e : x.at' = i
    · rw [if_pos e]
      by_cases hj : j = i
      · subst hj
        rw [if_pos rfl]
        have hn : j ∉ r.map (·.at') := by rw [← e]; exact h.1
        clear h h' e
        induction r with
        | nil => rfl
        | cons y r ih =>
          simp only [List.map_cons, List.mem_cons, not_or] at hn
          simp only [findL]
          rw [if_neg (Ne.symm hn.1)]
          exact ih hn.2
      · rw [if_neg hj]
        simp only [findL]
        rw [if_neg (by rw [e]; exact Ne.symm hj)]
    · rw [if_neg e]
      simp only [findL]
      by_cases hx : x.at' = j
      · rw [if_pos hx, if_neg (by rw [← hx]; exact e), if_pos hx]
      · rw [if_neg hx, findL_forgetL i j h.2, if_neg hx]
theorem findL_snoc (j : Int) (x : LineM) : ∀ (ls : List LineM), findL j (ls ++ [x]) = if (findL j ls).isSome then findL j ls else if x.at' = j then some x else none
  | [] => by simp [findL]
  | y :: r => by
    simp only [List.cons_append, findL]
    by_cases h : y.at' = j
    · simp [h]
    · simp only [h, if_false]
      exact findL_snoc j x r
theorem findL_useL {x : LineM} {ls : List LineM} (h : (ls.map (·.at')).Nodup) (j : Int) : findL j (useL x ls) = if j = x.at' then some x else findL j ls := by
  unfold useL
  rw [findL_snoc, findL_forgetL _ _ h]
  by_cases e : j = x.at'
  · subst e; simp
  · rw [if_neg e]
    have e2 : ¬ x.at' = j := Ne.symm e
    cases h2 : findL j ls with
    | none => simp [e, e2]
    | some y => simp [e]
theorem useL_nodup {x : LineM} {ls : List LineM} (h : (ls.map (·.at')).Nodup) : ((useL x ls).map (·.at')).Nodup := by
  unfold useL
  rw [List.map_append, List.nodup_append]
  refine ⟨((forgetL_sub x.at' ls).map _).nodup h, by simp, fun a ha b hb => ?_⟩
  simp only [List.map_cons, List.map_nil, List.mem_singleton] at hb
  subst hb
  intro e
  subst e
  exact forgetL_not h ha
theorem dropFree_sub : ∀ {ls r : List LineM}, dropFree ls = some r → r.Sublist ls ∧ r.length + 1 = ls.length
  | [], _, h => by simp [dropFree] at h
  | x :: l, r, h => by
    simp only [dropFree] at h
    split at h
    · simp only [Option.some.injEq] at h
      subst h
      exact ⟨List.sublist_cons_self x l, rfl⟩
    · cases hd : dropFree l with
      | none => simp [hd] at h
      | some r' =>
        simp only [hd, Option.map_some, Option.some.injEq] at h
        subst h
        obtain ⟨h1, h2⟩ := dropFree_sub hd
        exact ⟨h1.cons_cons x, by simp [h2]⟩
theorem trimL_sub (most : Int) : ∀ (n : Nat) (ls : List LineM), (trimL most n ls).Sublist ls
  | 0, ls => List.Sublist.refl _
  | n + 1, ls => by
    simp only [trimL]
    split
    · exact List.Sublist.refl _
    · split
      · exact List.Sublist.refl _
      · rename_i r hd
        exact (trimL_sub most n r).trans (dropFree_sub hd).1

end Go.Proofs.Ytggbnelbnbaoiaa

/- The document's cache: how it lies in memory; no condition. -/
namespace Go.Proofs.Ytggbnelbnbaoiaa
open Go.RowKit Go.MapKept

def lineCells (xs : List (Value × LineM)) : List Value := xs.flatMap fun x => [.int .i64 x.2.at', x.1, .bool x.2.pin]
theorem lineCells_length (xs : List (Value × LineM)) : (lineCells xs).length = xs.length * 3 := by
  induction xs with
  | nil => rfl
  | cons x xs ih =>
    unfold lineCells at ih ⊢
    rw [List.flatMap_cons, List.length_append, ih]
    simp only [List.length_cons, List.length_nil]
    omega
theorem lineCells_append (a b : List (Value × LineM)) : lineCells (a ++ b) = lineCells a ++ lineCells b := by simp [lineCells]
theorem lineCells_at {xs : List (Value × LineM)} {k : Nat} (hk : k < xs.length) : (lineCells xs)[k * 3]? = some (.int .i64 (xs.getD k default).2.at') ∧ (lineCells xs)[k * 3 + 1]? = some (xs.getD k default).1 ∧ (lineCells xs)[k * 3 + 2]? = some (.bool (xs.getD k default).2.pin) := by
  induction xs generalizing k with
  | nil => simp at hk
  | cons x xs ih =>
    unfold lineCells at ih ⊢
    rw [List.flatMap_cons]
    cases k with
    | zero => exact ⟨rfl, rfl, rfl⟩
    | succ k =>
      have := ih (k := k) (by simpa using hk)
      rw [show (k + 1) * 3 = k * 3 + 1 + 1 + 1 by omega]
      simp only [List.cons_append, List.nil_append, List.getElem?_cons_succ, List.getD_cons_succ]
      exact this
theorem lineCells_take (xs : List (Value × LineM)) (k : Nat) (hk : k ≤ xs.length) : (lineCells xs).take (k * 3) = lineCells (xs.take k) := by
  have h := lineCells_append (xs.take k) (xs.drop k)
  rw [List.take_append_drop] at h
  rw [h, List.take_append_of_le_length (by rw [lineCells_length, List.length_take]; omega), List.take_of_length_le (by rw [lineCells_length, List.length_take]; omega)]
theorem lineCells_drop (xs : List (Value × LineM)) (k : Nat) (hk : k ≤ xs.length) : (lineCells xs).drop (k * 3) = lineCells (xs.drop k) := by
  have h := lineCells_append (xs.take k) (xs.drop k)
  rw [List.take_append_drop] at h
  have e : (lineCells (xs.take k)).length = k * 3 := by rw [lineCells_length, List.length_take]; omega
  rw [h, ← e, List.drop_left]
theorem ValsIn.take {w : World} {ad : Option Addr} {n cap k : Nat} {xs : List (Value × LineM)} (h : ValsIn 3 w (.slice ad n cap) (lineCells xs)) (hk : k ≤ xs.length) (c : Nat) : ValsIn 3 w (.slice ad k c) (lineCells (xs.take k)) := by
  obtain ⟨_, n', _, hv, hl, hm, hr⟩ := h
  simp only [Value.slice.injEq] at hv
  obtain ⟨rfl, rfl, rfl⟩ := hv
  rw [lineCells_length] at hl
  refine ⟨_, k, _, rfl, by rw [lineCells_length, List.length_take]; omega, by omega, fun hne => ?_⟩
  obtain ⟨b, o, rfl, h2⟩ := hr (by intro e; rw [← lineCells_take xs k hk, e] at hne; simp at hne)
  refine ⟨b, o, rfl, fun j v hv => h2 j v ?_⟩
  rw [← lineCells_take xs k hk, List.getElem?_take] at hv
  split at hv
  · exact hv
  · cases hv
theorem ValsIn.drop {w : World} {ad : Option Addr} {n cap k : Nat} {xs : List (Value × LineM)} (h : ValsIn 3 w (.slice ad n cap) (lineCells xs)) (hk : k ≤ xs.length) {ad' : Option Addr} (c : Nat) (ha : k < xs.length → ad' = ad.map (·.add (k * 3))) : ValsIn 3 w (.slice ad' (n - k) c) (lineCells (xs.drop k)) := by
  obtain ⟨_, n', _, hv, hl, hm, hr⟩ := h
  simp only [Value.slice.injEq] at hv
  obtain ⟨rfl, rfl, rfl⟩ := hv
  rw [lineCells_length] at hl
  refine ⟨_, n - k, _, rfl, by rw [lineCells_length, List.length_drop]; omega, by omega, fun hne => ?_⟩
  have hlt : k < xs.length := by
    rcases Nat.lt_or_ge k xs.length with q | q
    · exact q
    · rw [List.drop_of_length_le q] at hne; exact absurd rfl hne
  obtain ⟨b, o, rfl, h2⟩ := hr (by intro e; have := lineCells_length xs; rw [e] at this; simp at this; omega)
  refine ⟨b, o + k * 3, by rw [ha hlt, Option.map_some]; unfold Addr.add; split <;> simp_all, fun j v hv => ?_⟩
  rw [← lineCells_drop xs k hk, List.getElem?_drop] at hv
  have := h2 (k * 3 + j) v hv
  rw [← Nat.add_assoc] at this
  exact this

structure LinesOk (Y : Assn) (xs : List (Value × LineM)) (lv : Value) : Prop where
  rows : ∀ x ∈ xs, RowOk Y (x.1, x.2.b)
  tells : Y.Tells (fun w => ValsIn 3 w lv (lineCells xs))
  form : ∃ ad cap, lv = .slice ad xs.length cap ∧ xs.length ≤ cap
theorem LinesOk.right {Z Y : Assn} {xs : List (Value × LineM)} {lv : Value} (h : LinesOk Y xs lv) : LinesOk (Z * Y) xs lv := ⟨fun r hr => (h.rows r hr).right, h.tells.right, h.form⟩
theorem LinesOk.nil (Y : Assn) : LinesOk Y [] (.slice none 0 0) := ⟨by simp, fun w _ => ValsIn.nil 3 w, none, 0, rfl, Nat.le_refl _⟩
theorem LinesOk.one {Y : Assn} {xs : List (Value × LineM)} {lv : Value} {w : World} (h : LinesOk Y xs lv) (hw : Bears w Y) : ∀ u ∈ lineCells xs, u.oneCell' = true := by
  intro u hu
  obtain ⟨x, hx, hu⟩ := List.mem_flatMap.1 hu
  obtain ⟨ad, n, cap, e, _⟩ := (h.rows x hx).form hw
  simp only at e
  simp only [List.mem_cons, List.not_mem_nil, or_false] at hu
  rcases hu with rfl | rfl | rfl
  · rfl
  · rw [e]; rfl
  · rfl
/-- Rows that were copied anew. -/
theorem LinesOk.made {Y : Assn} {e : TypeId} {xs : List (Value × LineM)} {ad : Option Addr} {cap : Nat} (h : ∀ x ∈ xs, RowOk Y (x.1, x.2.b)) (hc : xs.length ≤ cap) : LinesOk (rowA e 3 (.slice ad xs.length cap) xs.length (lineCells xs) * Y) xs (.slice ad xs.length cap) :=
  ⟨fun x hx => (h x hx).right, rowA_vals, ad, cap, rfl, hc⟩
theorem getDmem {α : Type} [Inhabited α] {xs : List α} {k : Nat} (hk : k < xs.length) : xs.getD k default ∈ xs := by
  rw [List.getD_eq_getElem?_getD, List.getElem?_eq_getElem hk]; exact List.getElem_mem hk
theorem take_snoc {α : Type} [Inhabited α] {xs : List α} {k : Nat} (hk : k < xs.length) : xs.take (k + 1) = xs.take k ++ [xs.getD k default] := by
  rw [List.take_succ_eq_append_getElem hk, List.getD_eq_getElem?_getD, List.getElem?_eq_getElem hk]; rfl

abbrev rcObj (y yd : Nat) (most missed : Int) (op : Bool) (lv : Value) (g : Int) : Assn :=
  Assn.obj y (.cells #[.pointer (some ⟨yd, 0, none⟩), .int .i64 0, .int .i64 40, .int .i64 37, .int .i64 most, .int .i64 missed, .bool op, lv, .int .i64 g] 70 (0, 0))
theorem Bears.rcCells {w : World} {y yd : Nat} {most missed g : Int} {op : Bool} {lv : Value} {R : Assn} (h : Bears w (rcObj y yd most missed op lv g * R)) :
    w.cell? ⟨y, 0, none⟩ = some (.pointer (some ⟨yd, 0, none⟩)) ∧ w.cell? ⟨y, 1, none⟩ = some (.int .i64 0) ∧ w.cell? ⟨y, 2, none⟩ = some (.int .i64 40) ∧ w.cell? ⟨y, 3, none⟩ = some (.int .i64 37) ∧ w.cell? ⟨y, 4, none⟩ = some (.int .i64 most) ∧
    w.cell? ⟨y, 5, none⟩ = some (.int .i64 missed) ∧ w.cell? ⟨y, 6, none⟩ = some (.bool op) ∧ w.cell? ⟨y, 7, none⟩ = some lv ∧ w.cell? ⟨y, 8, none⟩ = some (.int .i64 g) ∧ ∀ i, w.frozen? ⟨y, i, none⟩ = false := by
  obtain ⟨hc, hf⟩ := disk_cells h
  exact ⟨hc 0, hc 1, hc 2, hc 3, hc 4, hc 5, hc 6, hc 7, hc 8, hf⟩

theorem i_line : (Try.prog.info? 72).map (fun i => (i.zero, i.size, i.bytes)) = some (some (.agg #[.int .i64 0, .slice none 0 0, .bool false]), 3, 40) := by kernel_rfl
theorem u_lines : Try.prog.underlying 68 = some (.slice 72) := by kernel_rfl

/-! ### What the calls do to the lines -/
theorem filter_forget {i : Int} : ∀ {ls : List LineM}, (ls.map (·.at')).Nodup → ls.filter (fun y => y.at' != i) = forgetL i ls
  | [], _ => rfl
  | y :: r, h => by
    simp only [List.map_cons, List.nodup_cons] at h
    simp only [forgetL]
    by_cases e : y.at' = i
    · rw [if_pos e, List.filter_cons_of_neg (by simp [e])]
      rw [List.filter_eq_self]
      intro z hz
      rw [bne_iff_ne]
      intro e2
      exact h.1 (List.mem_map.2 ⟨z, hz, by rw [e2, e]⟩)
    · rw [if_neg e, List.filter_cons_of_pos (by simpa using e), filter_forget h.2]
theorem findL_at {i : Int} : ∀ {ls : List LineM} {k : Nat}, k < ls.length → (∀ j, j < k → (ls.getD j default).at' ≠ i) → (ls.getD k default).at' = i → findL i ls = some (ls.getD k default)
  | [], _, h, _, _ => absurd h (by simp)
  | y :: r, 0, _, _, e => by
    simp only [List.getD_cons_zero] at e ⊢
    simp only [findL]
    rw [if_pos e]
  | y :: r, k + 1, h, hn, e => by
    simp only [List.getD_cons_succ] at e ⊢
    simp only [findL]
    have h0 := hn 0 (by omega)
    simp only [List.getD_cons_zero] at h0
    rw [if_neg h0]
    exact findL_at (by simpa using h) (fun j hj => by have := hn (j + 1) (by omega); simpa using this) e
theorem findL_not {i : Int} : ∀ {ls : List LineM}, (∀ j, j < ls.length → (ls.getD j default).at' ≠ i) → findL i ls = none
  | [], _ => rfl
  | y :: r, hn => by
    simp only [findL]
    have h0 := hn 0 (by simp)
    simp only [List.getD_cons_zero] at h0
    rw [if_neg h0]
    exact findL_not (fun j hj => by have := hn (j + 1) (by simpa using hj); simpa using this)
theorem dropFree_at : ∀ {ls : List LineM} {k : Nat}, k < ls.length → (∀ j, j < k → (ls.getD j default).pin = true) → (ls.getD k default).pin = false → dropFree ls = some (ls.take k ++ ls.drop (k + 1))
  | [], _, h, _, _ => absurd h (by simp)
  | y :: r, 0, _, _, e => by
    simp only [List.getD_cons_zero] at e
    simp [dropFree, e]
  | y :: r, k + 1, h, hn, e => by
    simp only [List.getD_cons_succ] at e
    have h0 := hn 0 (by omega)
    simp only [List.getD_cons_zero] at h0
    simp only [dropFree]
    rw [if_neg (by rw [h0]; decide), dropFree_at (by simpa using h) (fun j hj => by have := hn (j + 1) (by omega); simpa using this) e]
    rfl
theorem dropFree_not : ∀ {ls : List LineM}, (∀ j, j < ls.length → (ls.getD j default).pin = true) → dropFree ls = none
  | [], _ => rfl
  | y :: r, hn => by
    have h0 := hn 0 (by simp)
    simp only [List.getD_cons_zero] at h0
    simp only [dropFree]
    rw [if_neg (by rw [h0]; decide), dropFree_not (fun j hj => by have := hn (j + 1) (by simpa using hj); simpa using this)]
    rfl
theorem getD_snd (xs : List (Value × LineM)) (k : Nat) (hk : k < xs.length) : (xs.map Prod.snd).getD k default = (xs.getD k default).2 := by
  rw [List.getD_eq_getElem?_getD, List.getD_eq_getElem?_getD, List.getElem?_map, List.getElem?_eq_getElem hk]
  rfl

end Go.Proofs.Ytggbnelbnbaoiaa

/- Walks of the document's cache, part 1: find, use; no condition. -/
namespace Go.Proofs.Ytggbnelbnbaoiaa
open Go.RowKit Go.MapKept

section
variable {y yd : Nat} {Y R : Assn} {w : World} {most missed g : Int} {op : Bool} {lv : Value} {xs : List (Value × LineM)}

set_option maxRecDepth 100000 in
set_option maxHeartbeats 800000 in
theorem rfind_any (h : Bears w (rcObj y yd most missed op lv g * (Y * R))) (hl : LinesOk Y xs lv) (i : Int) (hn : xs.length < 1099511627776) :
    Calls Try.prog 65 #[.pointer (some ⟨y, 0, none⟩), .int .i64 i] w fun e w' =>
      ((∃ k : Nat, k < xs.length ∧ e = .returned (.int .i64 k) ∧ (∀ j, j < k → (xs.getD j default).2.at' ≠ i) ∧ (xs.getD k default).2.at' = i) ∨ (e = .returned (.int .i64 (-1)) ∧ ∀ j, j < xs.length → (xs.getD j default).2.at' ≠ i)) ∧ w = w' := by
  obtain ⟨la, lc, rfl, hlc⟩ := hl.form
  obtain ⟨_, _, _, _, _, _, _, c7, _⟩ := h.rcCells
  have Hl := Lib.hid hl
  clear hl
  go_enter Try.func65, Try.ntmps65
  go_wp2_with fail
  go_loopw [5] (fun v wr => ∃ k : Nat, k ≤ xs.length ∧ v = .int .i64 k ∧ (∀ j, j < k → (xs.getD j default).2.at' ≠ i) ∧ w = wr) (fun v _ => xs.length - (intOf v).toNat)
  case atStart => exact ⟨0, by omega, rfl, by omega, rfl⟩
  case round =>
    obtain ⟨k, hk, rfl, hne, rfl⟩ := hrel
    have Hne := Lib.hid hne
    clear hne
    by_cases hlt : k < xs.length
    · have hltI : (k : Int) < (xs.length : Int) := by omega
      obtain ⟨q0, q1, q2⟩ := lineCells_at hlt
      obtain ⟨lb, lo, rfl, m0⟩ := (Hl.out.tells _ h.right.left).cell q0
      obtain ⟨a0, ha0⟩ : ∃ a0, (xs.getD k default).2.at' = a0 := ⟨_, rfl⟩
      rw [ha0] at m0
      have Ha0 := Lib.hid ha0
      clear q0 q1 q2 ha0
      by_cases he : a0 = i
      · have heq : (a0 == i) = true := by simpa using he
        have He := Lib.hid he
        clear he
        go_wp2_with fail
        go_ret
        exact ⟨.inl ⟨k, hlt, rfl, Hne.out, by rw [Ha0.out]; exact He.out⟩, rfl⟩
      · have heq : (a0 == i) = false := by simpa using he
        have He := Lib.hid he
        clear he
        go_wp2_with fail
        go_roundw
        case rel =>
          refine ⟨k + 1, hlt, by go_num, fun j hj => ?_, by simp⟩
          by_cases e : j = k
          · subst e; rw [Ha0.out]; exact He.out
          · exact Hne.out j (by omega)
        case measure => simp [intOf]; omega
    · obtain rfl : k = xs.length := by omega
      go_wp2_with fail
      go_ret
      exact ⟨.inr ⟨rfl, Hne.out⟩, rfl⟩

def others (i : Int) (xs : List (Value × LineM)) : List (Value × LineM) := xs.filter fun x => x.2.at' != i
theorem others_snoc (i : Int) (xs : List (Value × LineM)) (x : Value × LineM) : others i (xs ++ [x]) = others i xs ++ if x.2.at' != i then [x] else [] := by
  unfold others
  rw [List.filter_append]
  cases h : (x.2.at' != i) <;> simp [List.filter, h]
theorem others_snd (i : Int) (xs : List (Value × LineM)) : (others i xs).map Prod.snd = (xs.map Prod.snd).filter (fun y => y.at' != i) := by
  unfold others
  rw [List.filter_map]
  rfl
theorem others_len (i : Int) (xs : List (Value × LineM)) : (others i xs).length ≤ xs.length := List.length_filter_le _ _

set_option maxRecDepth 100000 in
set_option maxHeartbeats 1000000 in
theorem ruse_any (h : Bears w (rcObj y yd most missed op lv g * (Y * R))) (hl : LinesOk Y xs lv) (x : LineM) {xa : Option Addr} {xn xc : Nat} (hx : RowOk Y (.slice xa xn xc, x.b)) (hn : xs.length < 1099511627775) :
    Calls Try.prog 67 #[.pointer (some ⟨y, 0, none⟩), .agg #[.int .i64 x.at', .slice xa xn xc, .bool x.pin]] w fun e w' => e = .returned (.tuple #[]) ∧
      ∃ Z lv', LinesOk (Z * Y) (others x.at' xs ++ [(.slice xa xn xc, x)]) lv' ∧ Bears w' (rcObj y yd most missed op lv' g * ((Z * Y) * R)) := by
  obtain ⟨la, lc, rfl, hlc⟩ := hl.form
  have Hl := Lib.hid hl
  have Hx := Lib.hid hx
  obtain ⟨xat, xb, xp⟩ := x
  simp only at Hx ⊢
  have h1 := h.alloc (.cells #[.int .i64 xat, .slice xa xn xc, .bool xp] 72)
  obtain ⟨i0, hi0, hz0, hz1, hz2⟩ := info_parts i_line
  have h2 : Bears _ (rowA 72 3 (.slice none 0 0) 0 (lineCells (others xat (xs.take 0))) * (Assn.obj w.heap.size (.cells #[.int .i64 xat, .slice xa xn xc, .bool xp] 72 (0, 0)) * (rcObj y yd most missed op (.slice la xs.length lc) g * (Y * R)))) := Bears.nilRow.2 h1
  clear hl hx h h1
  go_enter Try.func67, Try.ntmps67
  go_wp2_with fail
  generalize w.alloc (.cells #[.int .i64 xat, .slice xa xn xc, .bool xp] 72) = w1 at h2
  generalize w.heap.size = bx at h2
  go_loopw [4, 5] (fun v iv wr => ∃ (k m : Nat) (a : Option Addr) (c : Nat), k ≤ xs.length ∧ iv = .int .i64 k ∧ m = (others xat (xs.take k)).length ∧ v = .slice a m c ∧ Bears wr (rowA 72 3 (.slice a m c) m (lineCells (others xat (xs.take k))) *
    (Assn.obj bx (.cells #[.int .i64 xat, .slice xa xn xc, .bool xp] 72 (0, 0)) * (rcObj y yd most missed op (.slice la xs.length lc) g * (Y * R))))) (fun _ iv _ => xs.length - (intOf iv).toNat)
  case atStart => exact ⟨0, 0, none, 0, by omega, rfl, rfl, rfl, h2⟩
  case round =>
    clear h2
    obtain ⟨k, m, a, c, hk, rfl, hm, rfl, h4⟩ := hrel
    obtain ⟨_, _, _, _, _, _, _, c7, _, _⟩ := h4.pull3.rcCells
    have hml : m ≤ xs.length := by
      rw [hm]
      have := others_len xat (xs.take k)
      rw [List.length_take] at this
      omega
    have Hm := Lib.hid hm
    clear hm
    by_cases hlt : k < xs.length
    · have hltI : (k : Int) < (xs.length : Int) := by omega
      obtain ⟨q0, q1, q2⟩ := lineCells_at hlt
      have hos := others_snoc xat (xs.take k) (xs.getD k default)
      rw [← take_snoc hlt] at hos
      have hro := Hl.out.rows _ (getDmem hlt)
      generalize xs.getD k default = z at q0 q1 q2 hro hos
      obtain ⟨pv, zat, zb, zp⟩ := z
      simp only at q0 q1 q2 hos
      obtain ⟨za, zn, zc, ez, ezn⟩ := hro.form h4.pull4.left
      simp only at ez ezn
      subst ez
      obtain ⟨lb, lo, rfl, m0⟩ := (Hl.out.tells _ h4.pull4.left).cell q0
      obtain ⟨_, _, e9, m1⟩ := (Hl.out.tells _ h4.pull4.left).cell q1
      cases e9
      obtain ⟨_, _, e9, m2⟩ := (Hl.out.tells _ h4.pull4.left).cell q2
      cases e9
      have m0' : wr.drew.cell? ⟨lb, lo + k * 3, none⟩ = some (.int .i64 zat) := m0
      have m1' : wr.drew.cell? ⟨lb, lo + k * 3 + 1, none⟩ = some (.slice za zn zc) := m1
      have m2' : wr.drew.cell? ⟨lb, lo + k * 3 + 2, none⟩ = some (.bool zp) := m2
      have h5 := h4.drew
      have b0 := cell_of_obj h5.pull2.obj 0
      simp only [List.getElem?_toArray, List.getElem?_cons_zero, List.getElem?_cons_succ] at b0
      obtain ⟨_, _, _, _, _, _, _, d7, _, _⟩ := h5.pull3.rcCells
      have Hos := Lib.hid hos
      clear q0 q1 q2 m0 m1 m2 hro ezn hos h4
      by_cases he : zat = xat
      · have hne : (zat != xat) = false := by simpa using he
        have Hn := Lib.hid hne
        clear he
        go_wp2_with fail
        refine wp_region_tail 10 (by kernel_rfl) (by kernel_rfl) ?_
        simp only [List.take_succ_cons, List.take_zero, List.drop_succ_cons, List.drop_zero]
        iterate 10 still_step
        refine wpStill_nil ?_
        go_wp2_with fail
        go_roundw
        case rel =>
          refine ⟨k + 1, m, a, c, hlt, by go_num, ?_, rfl, ?_⟩
          · rw [Hos.out, Hn.out, if_neg (by decide), List.append_nil]; exact Hm.out
          · rw [Hos.out, Hn.out, if_neg (by decide), List.append_nil]; exact h5
        case measure => simp [intOf]; omega
      · have hne : (zat != xat) = true := by simpa using he
        have Hn := Lib.hid hne
        clear he
        go_wp2_with fail
        refine wp_region_tail 10 (by kernel_rfl) (by kernel_rfl) ?_
        simp only [List.take_succ_cons, List.take_zero, List.drop_succ_cons, List.drop_zero]
        iterate 10 still_step
        refine wpStill_nil ?_
        go_wp2_with (at_builtin; refine wpList_append_bears (h5.alloc (.cells #[.int .i64 zat, .slice za zn zc, .bool zp] 72)).pull2 rfl rfl u_lines hi0 hz0 hz1 hz2 (by simp [Value.cells]) (by decide) rfl (m := 1) rfl rfl (World.news_of_block (cs := #[.int .i64 zat, .slice za zn zc, .bool zp]) (h5.alloc _).obj) (by intro u hu; simp at hu; rcases hu with rfl | rfl | rfl <;> rfl) (by unfold maxLen; omega) (by omega) ?_; intro pa pc w8 h8)
        go_roundw
        case rel =>
          refine ⟨k + 1, m + 1, pa, pc, hlt, by go_num, ?_, rfl, ?_⟩
          · rw [Hos.out, Hn.out, if_pos rfl, List.length_append, ← Hm.out]; rfl
          · rw [Hos.out, Hn.out, if_pos rfl, lineCells_append]
            exact h8.pull2.right
        case measure => simp [intOf]; omega
    · obtain rfl : k = xs.length := by omega
      rw [List.take_length] at h4 Hm
      have b0 := cell_of_obj h4.pull2.obj 0
      have b1 := cell_of_obj h4.pull2.obj 1
      have b2 := cell_of_obj h4.pull2.obj 2
      simp only [List.getElem?_toArray, List.getElem?_cons_zero, List.getElem?_cons_succ] at b0 b1 b2
      go_wp2_with (at_builtin; refine wpList_append_bears (h4.alloc (.cells #[.int .i64 xat, .slice xa xn xc, .bool xp] 72)).pull2 rfl rfl u_lines hi0 hz0 hz1 hz2 (by simp [Value.cells]) (by decide) rfl (m := 1) rfl rfl (World.news_of_block (cs := #[.int .i64 xat, .slice xa xn xc, .bool xp]) (h4.alloc _).obj) (by intro u hu; simp at hu; rcases hu with rfl | rfl | rfl <;> rfl) (by unfold maxLen; omega) (by omega) ?_; intro pa pc w8 h8; obtain ⟨_, _, _, _, _, _, _, d7, _, df⟩ := h8.pull4.rcCells; have f7 := df 7; clear df)
      go_end0
      have hm := Hm.out
      obtain ⟨_, _, e8, hpc, _⟩ := h8.rowForm
      simp only [Value.slice.injEq, true_and] at e8
      obtain ⟨-, rfl⟩ := e8
      have h9 : Bears _ (rcObj y yd most missed op (.slice pa (m + 1) pc) g * (rowA 72 3 (.slice pa (m + 1) pc) (m + 1) (lineCells (others xat xs) ++ [.int .i64 xat, .slice xa xn xc, .bool xp]) * (Assn.obj wr.heap.size (.cells #[.int .i64 xat, .slice xa xn xc, .bool xp] 72 (0, 0)) *
        (Assn.obj bx (.cells #[.int .i64 xat, .slice xa xn xc, .bool xp] 72 (0, 0)) * (Y * R))))) := (h8.pull4.setCell (i := 7) (.slice pa (m + 1) pc)).cast (by simp)
      refine ⟨rfl, rowA 72 3 (.slice pa (m + 1) pc) (m + 1) (lineCells (others xat xs) ++ [.int .i64 xat, .slice xa xn xc, .bool xp]), .slice pa (m + 1) pc, ⟨fun z hz => ?_, ?_, pa, pc, by simp [← hm], by simp [← hm]; exact hpc⟩, ?_⟩
      · rcases List.mem_append.1 hz with hz | hz
        · exact (Hl.out.rows z (List.mem_filter.1 hz).1).right
        · rw [List.mem_singleton] at hz
          subst hz
          exact Hx.out.right
      · rw [lineCells_append]
        exact rowA_vals
      · rw [Assn.mul_assoc']
        exact h9.pull3.right.pull3.right
end

end Go.Proofs.Ytggbnelbnbaoiaa

/- Walks of the document's cache, part 2: trim; no condition. -/
namespace Go.Proofs.Ytggbnelbnbaoiaa
open Go.RowKit Go.MapKept

theorem exec_toN {P : Program} {ev : Operand → Value} {op : Oper} {t : TypeId} {x b : Operand} {ad : Option Addr} {hi len cap sz : Nat} {w : World} {e : TypeId} (ho : op.op = .slice t x none (some b) none) (ht : P.underlying t = some (.slice e)) (hz : (Go.sizeOf e).run P w = .ok sz w)
    (hx : ev x = .slice ad len cap) (hb : ev b = .int .i64 hi) (h1 : hi ≤ cap) :
    (execOp ev op).run P w = .ok (.value (.slice ad hi cap)) w := by
  have a0 : ∀ a : Addr, a.add 0 = a := fun a => by unfold Addr.add; rw [if_pos rfl]
  unfold execOp
  go_simp
  try (cases ad <;> simp [a0])
theorem exec_restN {P : Program} {ev : Operand → Value} {op : Oper} {t : TypeId} {x a : Operand} {ad : Option Addr} {lo len cap sz : Nat} {w : World} {e : TypeId} (ho : op.op = .slice t x (some a) none none) (ht : P.underlying t = some (.slice e)) (hz : (Go.sizeOf e).run P w = .ok sz w)
    (hx : ev x = .slice ad len cap) (ha : ev a = .int .i64 lo) (h1 : lo ≤ len) :
    (execOp ev op).run P w = .ok (.value (.slice (if cap = lo then ad else ad.map (·.add (lo * sz))) (len - lo) (cap - lo))) w := by
  unfold execOp
  go_simp
/-- 'append(s, x...)' onto a row; x may be nothing. -/
theorem wpList_append_more {w : World} {ops : Array Oper} {rest : List Oper} {o : Oper} {a : Act} {Q : Exit → Act → World → Prop} {s x : Operand} {e t : TypeId} {i0 : TypeInfo} {z : Value} {size bytes : Nat} {R : Assn} {sa : Option Addr} {n sc : Nat} {ys : List Value}
    (h : Bears w (rowA e size (.slice sa n sc) n ys * R)) (hg : o.guard = none) (ho : o.op = .call { callee := .builtin .append, args := #[s, x], argTypes := #[t, t] }) (ht : Try.prog.underlying t = some (.slice e))
    (hi : Try.prog.info? e = some i0) (hz0 : i0.zero = some z) (hz1 : i0.size = size) (hz2 : i0.bytes = bytes) (hzc : z.cells.size = size) (hpos : 0 < size) (hs : a.eval s = .slice sa n sc) {ad : Option Addr} {m c : Nat} {xs : List Value} (hx : a.eval x = .slice ad m c)
    (hb : ValsIn size w (.slice ad m c) xs) (h1 : ∀ u ∈ xs, u.oneCell' = true) (hmx : n + m ≤ maxLen) (hl : (n + m) * bytes ≤ 140737488355328)
    (hK : ∀ a' c' w', Bears w' (rowA e size (.slice a' (n + m) c') (n + m) (ys ++ xs) * R) → wpList Try.prog ops Q rest (a.put o.dst (.slice a' (n + m) c')) w') : wpList Try.prog ops Q (o :: rest) a w := by
  obtain ⟨_, n', _, hv, hxl, hmax, hr⟩ := hb
  simp only [Value.slice.injEq] at hv
  obtain ⟨rfl, rfl, -⟩ := hv
  by_cases h0 : xs = []
  · subst h0
    obtain rfl : m = 0 := by
      rcases Nat.eq_zero_or_pos m with h | h
      · exact h
      · have := Nat.mul_pos h hpos
        simp at hxl
        omega
    obtain ⟨_, _, e8, hnc, _⟩ := h.rowForm
    simp only [Value.slice.injEq, true_and] at e8
    obtain ⟨-, rfl⟩ := e8
    refine wpList_plain hg fun K hK' => ?_
    have hr : (Builtin.append_ #[t, t] o.type #[.slice sa n sc, .slice ad 0 c]).run Try.prog w = .ok (.slice sa n sc) w := by
      cases ad <;> cases sa <;> simp [Builtin.append_, run_underlying ht, sizeOf, typeInfo, hi, storeCells, Builtin.lenOf, Builtin.firstCells, loadCells, loadCellsFrom, hnc]
    unfold Oper.wp execOp
    simp only [ho, resolve, invoke, builtin, Sem.run_bind, Sem.run_pure, Result.andThen_ok, List.map_toArray, List.map_cons, List.map_nil, hs, hx, hr]
    have hk := hK sa sc w (by simpa using h)
    exact hK' _ _ (by simpa using hk)
  · obtain ⟨b, ob, rfl, hr2⟩ := hr h0
    exact wpList_append_bears h hg ho ht hi hz0 hz1 hz2 hzc hpos hs (ad := ⟨b, ob, none⟩) (m := m) (c := c) (news := xs) hx hxl (addr_cells hr2) h1 hmx hl hK

def World.rowLen (w : World) (c k : Nat) : Nat := match w.cell? ⟨c, k, none⟩ with | some (.slice _ n _) => n | _ => 0
theorem rowLen_eq {w : World} {c k n : Nat} {a : Option Addr} {cap : Nat} (h : w.cell? ⟨c, k, none⟩ = some (.slice a n cap)) : World.rowLen w c k = n := by unfold World.rowLen; rw [h]
theorem trimL_go {most : Int} {ls r : List LineM} (h1 : most < (ls.length : Int)) (h2 : dropFree ls = some r) : trimL most ls.length ls = trimL most r.length r := by
  have hr := (dropFree_sub h2).2
  rw [← hr]
  simp only [trimL]
  rw [if_neg (by omega), h2]
theorem trimL_end {most : Int} {ls : List LineM} (h : ¬ most < (ls.length : Int) ∨ dropFree ls = none) : trimL most ls.length ls = ls := by
  cases hn : ls.length with
  | zero => rfl
  | succ n =>
    simp only [trimL]
    split
    · rfl
    · rcases h with h | h
      · omega
      · rw [h]

set_option maxRecDepth 100000 in
set_option maxHeartbeats 1000000 in
theorem rtrim_any {y yd : Nat} {Y R : Assn} {w : World} {most missed g : Int} {op : Bool} {lv : Value} {xs : List (Value × LineM)} (h : Bears w (rcObj y yd most missed op lv g * (Y * R))) (hl : LinesOk Y xs lv) (hn : xs.length < 1099511627775) :
    Calls Try.prog 68 #[.pointer (some ⟨y, 0, none⟩)] w fun e w' => e = .returned (.tuple #[]) ∧
      ∃ Z xs', xs'.map Prod.snd = trimL most xs.length (xs.map Prod.snd) ∧ ∃ lv', LinesOk (Z * Y) xs' lv' ∧ Bears w' (rcObj y yd most missed op lv' g * ((Z * Y) * R)) := by
  obtain ⟨i0, hi0, hz0, hz1, hz2⟩ := info_parts i_line
  have hsz : ∀ w, (Go.sizeOf 72).run Try.prog w = .ok 3 w := fun w => by kernel_rfl
  go_enter Try.func68, Try.ntmps68
  go_wp2_with fail
  go_loopw [] (fun wr => ∃ Z xs' lv', trimL most xs.length (xs.map Prod.snd) = trimL most xs'.length (xs'.map Prod.snd) ∧ LinesOk (Z * Y) xs' lv' ∧ xs'.length < 1099511627775 ∧ Bears wr (rcObj y yd most missed op lv' g * ((Z * Y) * R))) (fun wr => World.rowLen wr y 7)
  case atStart => exact ⟨Assn.emp, xs, lv, rfl, hl.right, hn, by rw [Assn.emp_mul]; exact h⟩
  case round =>
    clear h hl hn
    obtain ⟨Z, xs', lv', htr, hl, hn, h1⟩ := hrel
    obtain ⟨la, lc, rfl, hlc⟩ := hl.form
    have hms : World.rowLen wr y 7 = xs'.length := rowLen_eq h1.rcCells.2.2.2.2.2.2.2.1
    have h2 := h1.drew
    obtain ⟨_, _, _, _, c4, _, _, c7, _, _⟩ := h2.rcCells
    have Hl := Lib.hid hl
    have Htr := Lib.hid htr
    clear hl htr h1
    go_wp2_with fail
    refine wp_region_tail 9 (by kernel_rfl) (by kernel_rfl) ?_
    simp only [List.take_succ_cons, List.take_zero, List.drop_succ_cons, List.drop_zero]
    iterate 9 still_step
    refine wpStill_nil ?_
    generalize wr.drew = wd at *
    by_cases hgt : most < (xs'.length : Int)
    · go_wp2_with fail
      go_loopw [2] (fun v w2 => ∃ k : Nat, k ≤ xs'.length ∧ v = .int .i64 k ∧ (∀ j, j < k → (xs'.getD j default).2.pin = true) ∧ wd = w2) (fun v _ => xs'.length - (intOf v).toNat)
      case atStart => exact ⟨0, by omega, rfl, by omega, rfl⟩
      case round =>
        obtain ⟨k, hk, rfl, hpin, rfl⟩ := hrel
        have Hpin := Lib.hid hpin
        clear hpin
        by_cases hlt : k < xs'.length
        · have hltI : (k : Int) < (xs'.length : Int) := by omega
          obtain ⟨q0, q1, q2⟩ := lineCells_at hlt
          obtain ⟨lb, lo, rfl, m2⟩ := (Hl.out.tells _ h2.right.left).cell q2
          obtain ⟨pn, hpn⟩ : ∃ pn, (xs'.getD k default).2.pin = pn := ⟨_, rfl⟩
          rw [hpn] at m2
          have m2' : wd.cell? ⟨lb, lo + k * 3 + 2, none⟩ = some (.bool pn) := m2
          have Hpn := Lib.hid hpn
          clear q0 q1 q2 m2 hpn
          cases pn with
          | true =>
            go_wp2_with fail
            go_roundw
            case rel =>
              refine ⟨k + 1, hlt, by go_num, fun j hj => ?_, by simp⟩
              by_cases e : j = k
              · subst e; exact Hpn.out
              · exact Hpin.out j (by omega)
            case measure => simp [intOf]; omega
          | false =>
            have hkn : k ≠ xs'.length := by omega
            have hdf : dropFree (xs'.map Prod.snd) = some ((xs'.map Prod.snd).take k ++ (xs'.map Prod.snd).drop (k + 1)) :=
              dropFree_at (by simpa using hlt) (fun j hj => by rw [getD_snd _ _ (by omega)]; exact Hpin.out j hj) (by rw [getD_snd _ _ hlt]; exact Hpn.out)
            have hgo := trimL_go (most := most) (by simpa using hgt) hdf
            rw [List.length_map] at hgo
            have Hgo := Lib.hid (Htr.out.trans hgo)
            have h3 := h2.zeroRow (e := 72) (size := 3)
            obtain ⟨_, _, _, _, _, _, _, b7, _, _⟩ := h3.pull2.rcCells
            have hv := Hl.out.tells _ h3.pull3.left
            have hv1 := hv.take (k := k) hk lc
            have hone := Hl.out.one h3.pull3.left
            have hone1 : ∀ u ∈ lineCells (xs'.take k), u.oneCell' = true := fun u hu => hone u (by rw [← lineCells_take xs' k hk] at hu; exact List.mem_of_mem_take hu)
            have hone2 : ∀ u ∈ lineCells (xs'.drop (k + 1)), u.oneCell' = true := fun u hu => hone u (by rw [← lineCells_drop xs' (k + 1) hlt] at hu; exact List.mem_of_mem_drop hu)
            clear hdf hgo hv hone
            have hk1 : k + 1 ≤ xs'.length := hlt
            go_wp2_with (first
              | (refine wpList_op rfl (exec_toN (hi := k) rfl u_lines (hsz _) rfl rfl (by omega)) ?_)
              | (refine wpList_op rfl (exec_restN (lo := k + 1) rfl u_lines (hsz _) rfl (by go_num) (by omega)) ?_)
              | (at_builtin; refine wpList_append_vals h3 rfl rfl u_lines hi0 hz0 hz1 hz2 (by simp [Value.cells]) (by decide) rfl rfl hv1 hone1 (by omega) ?_; intro pa pc w5 h5; obtain ⟨_, _, _, _, _, _, _, d7, _, df⟩ := h5.pull2.rcCells; have f7 := df 7; clear df; have hv2 := ((Hl.out.tells _ h5.pull3.left).drop hk1 (ad' := if lc = k + 1 then some ⟨lb, lo, none⟩ else (some (⟨lb, lo, none⟩ : Addr)).map (·.add ((k + 1) * 3))) (lc - (k + 1)) (fun hlt2 => by rw [if_neg (by omega)])))
              | (at_builtin; refine wpList_append_more h5 rfl rfl u_lines hi0 hz0 hz1 hz2 (by simp [Value.cells]) (by decide) rfl rfl hv2 hone2 (by unfold maxLen; omega) (by omega) ?_; intro qa qc w6 h6; obtain ⟨_, _, _, _, _, _, _, e7, _, ef⟩ := h6.pull2.rcCells; have g7 := ef 7; clear ef))
            have h7 : Bears _ (rcObj y yd most missed op (.slice qa (k + (xs'.length - (k + 1))) qc) g * (rowA 72 3 (.slice qa (k + (xs'.length - (k + 1))) qc) (k + (xs'.length - (k + 1))) (lineCells (xs'.take k) ++ lineCells (xs'.drop (k + 1))) * ((Z * Y) * R))) := (h6.pull2.setCell (i := 7) (.slice qa (k + (xs'.length - (k + 1))) qc)).cast (by simp)
            obtain ⟨_, _, e8, hqc, _⟩ := h6.rowForm
            simp only [Value.slice.injEq, true_and] at e8
            obtain ⟨-, rfl⟩ := e8
            have hlen2 : k + (xs'.length - (k + 1)) = (xs'.take k ++ xs'.drop (k + 1)).length := by rw [List.length_append, List.length_take, List.length_drop]; omega
            rw [← lineCells_append] at h7
            have hms2 : World.rowLen _ y 7 = k + (xs'.length - (k + 1)) := rowLen_eq h7.rcCells.2.2.2.2.2.2.2.1
            go_roundw
            case rel =>
              refine ⟨rowA 72 3 (.slice qa (k + (xs'.length - (k + 1))) qc) (k + (xs'.length - (k + 1))) (lineCells (xs'.take k ++ xs'.drop (k + 1))) * Z, xs'.take k ++ xs'.drop (k + 1), .slice qa (k + (xs'.length - (k + 1))) qc, ?_, ⟨fun x hx => ?_, ?_, qa, qc, by rw [← hlen2], by rw [← hlen2]; exact hqc⟩, by rw [← hlen2]; omega, ?_⟩
              · rw [Hgo.out, List.map_append, List.map_take, List.map_drop, ← hlen2]
                simp only [List.length_append, List.length_take, List.length_drop, List.length_map]
                rw [Nat.min_eq_left hk]
              · have hx2 : x ∈ xs' := by
                  rcases List.mem_append.1 hx with hx | hx
                  · exact List.mem_of_mem_take hx
                  · exact List.mem_of_mem_drop hx
                rw [Assn.mul_assoc']
                exact (Hl.out.rows x hx2).right
              · rw [Assn.mul_assoc']
                exact rowA_vals
              · exact h7.cast (by ac_rfl)
            case measure => rw [hms2, hms]; omega
        · obtain rfl : k = xs'.length := by omega
          have hdf : dropFree (xs'.map Prod.snd) = none := dropFree_not (fun j hj => by
            have hj' : j < xs'.length := by simpa using hj
            rw [getD_snd _ _ hj']
            exact Hpin.out j hj')
          have hend := trimL_end (most := most) (.inr hdf)
          rw [List.length_map] at hend
          have Hend := Lib.hid hend
          clear hend hdf
          go_wp2_with fail
          refine bodyPost_ret (results_none rfl _ _ _) rfl ?_
          exact ⟨rfl, Z, xs', by rw [Htr.out, Hend.out], _, Hl.out, h2⟩
    · have hend := trimL_end (most := most) (ls := xs'.map Prod.snd) (.inl (by simpa using hgt))
      rw [List.length_map] at hend
      have Hend := Lib.hid hend
      clear hend
      go_wp2_with fail
      go_end0
      exact ⟨rfl, Z, xs', by rw [Htr.out, Hend.out], _, Hl.out, h2⟩

end Go.Proofs.Ytggbnelbnbaoiaa

/- The log: a plain model of it; no condition. -/
namespace Go.Proofs.Ytggbnelbnbaoiaa
open Go.RowKit Go.MapKept

/-! ### Numbers in bytes -/
/-- The byte of n at so many bytes from the right. -/
def byteAt (n : Int) (j : Nat) : UInt8 := UInt8.ofNat ((n / 2 ^ (8 * j)) % 256).toNat
/-- n in m bytes, the greatest first. -/
def numB : Nat → Int → List UInt8
  | 0, _ => []
  | m + 1, n => byteAt n m :: numB m n
/-- The number that bytes are. -/
def beN : List UInt8 → Nat := List.foldl (fun n c => n * 256 + c.toNat) 0
def takenB (l : List UInt8) : Int := wrap64 (beN l)

theorem numB_length (n : Int) : ∀ m, (numB m n).length = m
  | 0 => rfl
  | m + 1 => by simp [numB, numB_length n m]
theorem byteV_byteAt (n : Int) (j : Nat) : byteV (byteAt n j) = .int .u8 ((n / 2 ^ (8 * j)) % 256) := by
  have h0 : 0 ≤ (n / 2 ^ (8 * j)) % 256 := Int.emod_nonneg _ (by decide)
  have h1 : (n / 2 ^ (8 * j)) % 256 < 256 := Int.emod_lt_of_pos _ (by decide)
  unfold byteV byteAt
  generalize (n / 2 ^ (8 * j)) % 256 = x at h0 h1
  congr 1
  rw [UInt8.toNat_ofNat_of_lt' (by show x.toNat < 256; omega)]
  omega
theorem byteAt_toNat (n : Nat) (j : Nat) : (byteAt (n : Int) j).toNat = n / 256 ^ j % 256 := by
  have e : ((n : Int) / 2 ^ (8 * j)) % 256 = ((n / 256 ^ j % 256 : Nat) : Int) := by
    rw [show (2 : Int) ^ (8 * j) = ((256 ^ j : Nat) : Int) by rw [Int.pow_mul]; simp]
    omega
  unfold byteAt
  rw [e, Int.toNat_natCast, UInt8.toNat_ofNat_of_lt' (by show n / 256 ^ j % 256 < 256; omega)]

theorem beN_foldl : ∀ (l : List UInt8) (a : Nat), l.foldl (fun n c => n * 256 + c.toNat) a = a * 256 ^ l.length + beN l
  | [], a => by simp [beN]
  | c :: l, a => by
    simp only [List.foldl_cons, List.length_cons, beN]
    rw [beN_foldl l (a * 256 + c.toNat), beN_foldl l (0 * 256 + c.toNat), Nat.pow_succ']
    rw [Nat.add_mul, Nat.zero_mul, Nat.zero_add, Nat.mul_assoc, Nat.add_assoc]
theorem beN_cons (c : UInt8) (l : List UInt8) : beN (c :: l) = c.toNat * 256 ^ l.length + beN l := by
  have := beN_foldl l (0 * 256 + c.toNat)
  simpa [beN] using this
theorem beN_snoc (l : List UInt8) (c : UInt8) : beN (l ++ [c]) = beN l * 256 + c.toNat := by simp [beN]
theorem beN_numB (n : Nat) : ∀ m, beN (numB m n) = n % 256 ^ m
  | 0 => by simp [numB, beN, Nat.mod_one]
  | m + 1 => by
    rw [numB, beN_cons, numB_length, beN_numB n m, byteAt_toNat]
    rw [Nat.pow_succ, Nat.mod_mul, Nat.mul_comm, Nat.add_comm]
theorem takenB_numB {m : Nat} {n : Nat} (h : n < 256 ^ m) (h2 : n < 9223372036854775808) : takenB (numB m n) = n := by
  unfold takenB
  rw [beN_numB, Nat.mod_eq_of_lt h]
  unfold wrap64
  omega
theorem numB_inj {m : Nat} {a b : Nat} (ha : a < 256 ^ m) (hb : b < 256 ^ m) (h : numB m a = numB m b) : a = b := by
  have := congrArg beN h
  rw [beN_numB, beN_numB, Nat.mod_eq_of_lt ha, Nat.mod_eq_of_lt hb] at this
  exact this

/-- s over what l has from o on. -/
def putAt (l : List UInt8) (o : Nat) (s : List UInt8) : List UInt8 := l.take o ++ s ++ l.drop (o + s.length)
theorem putAt_length {l : List UInt8} {o : Nat} {s : List UInt8} (h : o + s.length ≤ l.length) : (putAt l o s).length = l.length := by
  simp [putAt]; omega
theorem putAt_nil (l : List UInt8) (o : Nat) : putAt l o [] = l := by simp [putAt]
theorem putAt_set {l : List UInt8} {o : Nat} {s : List UInt8} (h : o + 1 + s.length ≤ l.length) (c : UInt8) : (putAt l (o + 1) s).set o c = putAt l o (c :: s) := by
  have h1 : l.take (o + 1) = l.take o ++ [l[o]'(by omega)] := List.take_succ_eq_append_getElem (by omega)
  have h2 : (l.take o).length = o := by simp only [List.length_take]; omega
  unfold putAt
  rw [h1]
  generalize l.take o = t at h2
  rw [show t ++ [l[o]'(by omega)] ++ s ++ l.drop (o + 1 + s.length) = t ++ (l[o]'(by omega) :: (s ++ l.drop (o + 1 + s.length))) by simp]
  rw [List.set_append_right _ _ (by omega), show o - t.length = 0 by omega, List.set_cons_zero]
  simp [Nat.add_assoc, Nat.add_comm 1]

/-! ### The head's sector -/
def markB : List UInt8 := [101, 115, 116, 97, 102, 101, 116, 116, 101, 58, 108, 111, 103]
def headB (size groups hand : Int) : Sec := markB ++ (numB 4 size ++ (numB 8 groups ++ (numB 2 hand ++ List.replicate 37 0)))
theorem headB_length (s g h : Int) : (headB s g h).length = 64 := by simp [headB, markB, numB_length]
theorem headB_groups (s g h : Int) : ((headB s g h).drop 17).take 8 = numB 8 g := by
  have e : headB s g h = (markB ++ numB 4 s) ++ (numB 8 g ++ (numB 2 h ++ List.replicate 37 0)) := by simp [headB]
  rw [e, List.drop_append_of_le_length (by simp [markB, numB_length]), List.drop_of_length_le (by simp [markB, numB_length]), List.nil_append, List.take_append_of_le_length (by simp [numB_length]), List.take_of_length_le (by simp [numB_length])]
theorem headB_hand (s g h : Int) : ((headB s g h).drop 25).take 2 = numB 2 h := by
  have e : headB s g h = (markB ++ numB 4 s ++ numB 8 g) ++ (numB 2 h ++ List.replicate 37 0) := by simp [headB]
  rw [e, List.drop_append_of_le_length (by simp [markB, numB_length]), List.drop_of_length_le (by simp [markB, numB_length]), List.nil_append, List.take_append_of_le_length (by simp [numB_length]), List.take_of_length_le (by simp [numB_length])]
theorem headB_size (s g h : Int) : ((headB s g h).drop 13).take 4 = numB 4 s := by
  have e : headB s g h = markB ++ (numB 4 s ++ (numB 8 g ++ (numB 2 h ++ List.replicate 37 0))) := by simp [headB]
  rw [e, List.drop_append_of_le_length (by simp [markB]), List.drop_of_length_le (by simp [markB]), List.nil_append, List.take_append_of_le_length (by simp [numB_length]), List.take_of_length_le (by simp [numB_length])]

/-! ### Room -/
def listsN (n : Nat) : Nat := (n + 31) / 32
def roomN (size : Nat) : Nat := if size < 3 then 0 else (size - 1) / 33 * 32 + ((size - 1) % 33 - 1)

/-! ### What a log does -/
/-- A head between two barriers. -/
def wBoth (d : DiskM) (at' size : Nat) (groups hand : Int) : Int × DiskM :=
  if d.barrier.1 ≠ 0 then d.barrier else
  if (d.barrier.2.write at' (headB size groups hand)).1 ≠ 0 then d.barrier.2.write at' (headB size groups hand) else
  (d.barrier.2.write at' (headB size groups hand)).2.barrier
def wThere (d : DiskM) (at' size : Int) : Bool := 3 ≤ size && size ≤ d.len && 0 ≤ at' && at' ≤ d.len - size
/-- Where a group's sector number i lies. -/
def wFirst (at' size : Nat) : Nat := at' + 1 + listsN (roomN size)
/-- Where the group's sector number i is to go, as the log's sector says. -/
def wTo (d : DiskM) (at' i : Nat) : Int := takenB (((d.now (at' + 1 + i / 32)).drop (i % 32 * 2)).take 2)
def wRound (d : DiskM) (at' size i : Nat) : Int × DiskM :=
  if d.check ((at' + 1 + i / 32 : Nat) : Int) ≠ 0 then (d.check ((at' + 1 + i / 32 : Nat) : Int), d) else
  if d.check ((wFirst at' size + i : Nat) : Int) ≠ 0 then (d.check ((wFirst at' size + i : Nat) : Int), d) else
  (if (d.write (wTo d at' i) (d.now (wFirst at' size + i))).1 = 0 then 0 else if (d.write (wTo d at' i) (d.now (wFirst at' size + i))).1 = 2 then 2 else 4, (d.write (wTo d at' i) (d.now (wFirst at' size + i))).2)
def wLoop (d : DiskM) (at' size : Nat) : Nat → Int × DiskM
  | 0 => (0, d)
  | i + 1 => if (wLoop d at' size i).1 ≠ 0 then wLoop d at' size i else wRound (wLoop d at' size i).2 at' size i
def wFinish (d : DiskM) (at' size : Nat) (groups : Int) (n : Nat) : Int × DiskM :=
  if (wLoop d at' size n).1 ≠ 0 then wLoop d at' size n else wBoth (wLoop d at' size n).2 at' size groups 0
def wFormat (d : DiskM) (at' size : Int) : Int × DiskM := if wThere d at' size = false then (1, d) else wBoth d at'.toNat size.toNat 0 0
def groupsIn (s : Sec) : Int := takenB ((s.drop 17).take 8)
def handIn (s : Sec) : Int := takenB ((s.drop 25).take 2)
/-- The groups that were done, if it opens; what it answers; the disk behind it. -/
def wOpen (d : DiskM) (at' size : Int) : Int × DiskM :=
  if wThere d at' size = false then (1, d) else
  if d.check at' ≠ 0 then (d.check at', d) else
  if d.now at'.toNat ≠ headB size (groupsIn (d.now at'.toNat)) (handIn (d.now at'.toNat)) ∨ (roomN size.toNat : Int) < handIn (d.now at'.toNat) ∨ groupsIn (d.now at'.toNat) < 0 then (4, d) else
  if 0 < handIn (d.now at'.toNat) then wFinish d at'.toNat size.toNat (groupsIn (d.now at'.toNat)) (handIn (d.now at'.toNat)).toNat else (0, d)

/-- A put: a sector and its bytes (and where these lie). -/
structure PutM where
  sector : Int
  bytes : List UInt8
  ad : Option Addr
  cap : Nat
instance : Inhabited PutM := ⟨⟨0, [], none, 0⟩⟩
/-- The bytes' slice. -/
abbrev PutM.val (q : PutM) : Value := .slice q.ad q.bytes.length q.cap
def wOk (len at' size : Nat) (seen : List PutM) (p : PutM) : Bool :=
  !(seen.any fun q => q.sector == p.sector) && !(decide ((at' : Int) ≤ p.sector) && decide (p.sector < at' + size)) && decide (0 ≤ p.sector) && decide (p.sector < len) && (p.bytes.length == 64)
def wMayTo (len at' size : Nat) : List PutM → List PutM → Bool
  | _, [] => true
  | seen, p :: r => wOk len at' size seen p && wMayTo len at' size (seen ++ [p]) r
def wMay (len at' size : Nat) (l : List PutM) : Bool := wMayTo len at' size [] l && decide (l.length ≤ roomN size)
/-- The group's bytes, written. -/
def wBytes (d : DiskM) (at' size : Nat) (l : List PutM) : Nat → Int × DiskM
  | 0 => (0, d)
  | i + 1 => if (wBytes d at' size l i).1 ≠ 0 then wBytes d at' size l i else (wBytes d at' size l i).2.write ((wFirst at' size + i : Nat) : Int) (l.getD i default).bytes
/-- Sector number k of those that tell where a group's sectors go. -/
def wList (l : List PutM) (k : Nat) : Sec :=
  let s := ((l.drop (32 * k)).take 32).flatMap fun p => numB 2 p.sector
  s ++ List.replicate (64 - s.length) 0
def wLists (d : DiskM) (at' : Nat) (l : List PutM) : Nat → Int × DiskM
  | 0 => (0, d)
  | k + 1 => if (wLists d at' l k).1 ≠ 0 then wLists d at' l k else (wLists d at' l k).2.write ((at' + 1 + k : Nat) : Int) (wList l k)
/-- What it answers, the groups that it says were done, the disk. -/
def wCommit (d : DiskM) (at' size : Nat) (groups : Int) (l : List PutM) : Int × Int × DiskM :=
  if wMay d.len at' size l = false then (20, groups, d) else
  if (wBytes d at' size l l.length).1 ≠ 0 then ((wBytes d at' size l l.length).1, groups, (wBytes d at' size l l.length).2) else
  if (wLists (wBytes d at' size l l.length).2 at' l (listsN l.length)).1 ≠ 0 then ((wLists (wBytes d at' size l l.length).2 at' l (listsN l.length)).1, groups, (wLists (wBytes d at' size l l.length).2 at' l (listsN l.length)).2) else
  let b := wBoth (wLists (wBytes d at' size l l.length).2 at' l (listsN l.length)).2 at' size (wrap64 (groups + 1)) l.length
  if b.1 ≠ 0 ∨ l.length = 0 then (b.1, wrap64 (groups + 1), b.2) else ((wFinish b.2 at' size (wrap64 (groups + 1)) l.length).1, wrap64 (groups + 1), (wFinish b.2 at' size (wrap64 (groups + 1)) l.length).2)

end Go.Proofs.Ytggbnelbnbaoiaa

/- The log's small functions; no condition. -/
namespace Go.Proofs.Ytggbnelbnbaoiaa
open Go.RowKit Go.MapKept

theorem lists_any (w : World) (n : Nat) (hn : n ≤ 9223372036854775000) :
    Calls Try.prog 110 #[.int .i64 n] w fun e w' => e = .returned (.int .i64 (listsN n)) ∧ w = w' := by
  go_enter Try.func110, Try.ntmps110
  go_wp2
  go_ret
  exact ⟨by unfold listsN; go_num, rfl⟩

theorem room_any (w : World) (n : Int) (hn : -9223372036854775808 ≤ n ∧ n ≤ 9223372036854775807) :
    Calls Try.prog 101 #[.int .i64 n] w fun e w' => e = .returned (.int .i64 (roomN n.toNat)) ∧ w = w' := by
  by_cases h3 : n < 3
  · go_enter Try.func101, Try.ntmps101
    go_wp2
    go_ret
    refine ⟨?_, rfl⟩
    rw [show roomN n.toNat = 0 by unfold roomN; rw [if_pos (by omega)]]
    rfl
  · have e1 : (n - 1).tdiv 33 = (n - 1) / 33 := Int.tdiv_eq_ediv_of_nonneg (by omega)
    have e2 : (n - 1).tmod 33 = (n - 1) % 33 := Int.tmod_eq_emod_of_nonneg (by omega)
    go_enter Try.func101, Try.ntmps101
    go_wp2
    all_goals
      go_ret
      refine ⟨?_, rfl⟩
      unfold roomN
      rw [if_neg (by omega)]
      go_num

theorem there_any {p : Nat} {d : DiskM} {R : Assn} {w : World} (h : Bears w (diskA p d * R)) (at' size : Int) (ha : -9223372036854775808 ≤ at' ∧ at' ≤ 9223372036854775807) (hs : -9223372036854775808 ≤ size ∧ size ≤ 9223372036854775807) :
    Calls Try.prog 97 #[.pointer (some ⟨p, 0, none⟩), .int .i64 at', .int .i64 size] w fun e w' => e = .returned (.bool (wThere d at' size)) ∧ Bears w' (diskA p d * R) := by
  obtain ⟨_, _, _, _, _, hwf, _⟩ := Bears.disk.1 h
  have hlen := hwf.len
  unfold wThere
  by_cases h3 : 3 ≤ size
  · by_cases h4 : size ≤ (d.len : Int)
    · by_cases h5 : 0 ≤ at'
      · simp only [h3, h4, h5, decide_true, Bool.true_and]
        go_enter Try.func97, Try.ntmps97
        go_wp2_with fail
        refine (len_any h).mono ?_
        rintro e w' ⟨rfl, rfl⟩
        go_wp2_with fail
        refine (len_any h).mono ?_
        rintro e w' ⟨rfl, rfl⟩
        go_wp2_with fail
        go_ret
        exact ⟨rfl, h⟩
      · simp only [h3, h4, h5, decide_true, Bool.true_and, decide_false, Bool.false_and]
        go_enter Try.func97, Try.ntmps97
        go_wp2_with fail
        refine (len_any h).mono ?_
        rintro e w' ⟨rfl, rfl⟩
        go_wp2_with fail
        go_ret
        exact ⟨rfl, h⟩
    · simp only [h3, h4, decide_true, Bool.true_and, decide_false, Bool.false_and]
      go_enter Try.func97, Try.ntmps97
      go_wp2_with fail
      refine (len_any h).mono ?_
      rintro e w' ⟨rfl, rfl⟩
      go_wp2_with fail
      go_ret
      exact ⟨rfl, h⟩
  · simp only [h3, decide_false, Bool.false_and]
    go_enter Try.func97, Try.ntmps97
    go_wp2_with fail
    go_ret
    exact ⟨rfl, h⟩

theorem or_byte (x c : Int) (hx : x % 256 = 0) (h0 : 0 ≤ c) (h1 : c < 256) (hl : -9223372036854775808 ≤ x) (hh : x + c ≤ 9223372036854775807) : bits .or .i64 x c = x + c := by
  have e1 : (BitVec.ofInt 64 x).toNat = (x % 18446744073709551616).toNat := by simp [BitVec.toNat_ofInt]
  have e2 : (BitVec.ofInt 64 c).toNat = c.toNat := by simp [BitVec.toNat_ofInt]; omega
  have e3 : (BitVec.ofInt 64 x ||| BitVec.ofInt 64 c).toNat = (x % 18446744073709551616).toNat + c.toNat := by
    rw [BitVec.toNat_or, e1, e2]
    exact nat_join 8 _ _ (by omega) (by omega)
  show IntKind.i64.wrap ((BitVec.ofInt 64 x ||| BitVec.ofInt 64 c).toNat : Nat) = x + c
  rw [e3, IntKind.wrap_i64]
  omega

theorem number_any {blk o m cap : Nat} {l : List UInt8} {ty : TypeId} {R : Assn} {w : World} (h : Bears w (Assn.obj blk (.cells (cellsV l).toArray ty (0, 0)) * R)) (n : Int) (hm : o + m ≤ l.length) (hm8 : m ≤ 8) :
    Calls Try.prog 111 #[.slice (some ⟨blk, o, none⟩) m cap, .int .i64 n] w fun e w' => e = .returned (.tuple #[]) ∧ Bears w' (Assn.obj blk (.cells (cellsV (putAt l o (numB m n))).toArray ty (0, 0)) * R) := by
  go_enter Try.func111, Try.ntmps111
  go_wp2_with fail
  go_loopw [7] (fun i wr => ∃ k : Nat, k ≤ m ∧ i = .int .i64 k ∧ Bears wr (Assn.obj blk (.cells (cellsV (putAt l (o + (m - k)) (numB k n))).toArray ty (0, 0)) * R))
    (fun i _ => m - (intOf i).toNat)
  case atStart => exact ⟨0, by omega, rfl, h.cast (by rw [numB, putAt_nil])⟩
  case round =>
    obtain ⟨k, hk, rfl, h1⟩ := hrel
    by_cases hlt : k < m
    · have hs : (putAt l (o + (m - k)) (numB k n)).set (o + (m - 1 - k)) (byteAt n k) = putAt l (o + (m - (k + 1))) (numB (k + 1) n) := by
        rw [show o + (m - k) = (o + (m - 1 - k)) + 1 by omega, putAt_set (by rw [numB_length]; omega)]
        rw [show m - 1 - k = m - (k + 1) by omega]
        rfl
      have hll : (putAt l (o + (m - k)) (numB k n)).length = l.length := putAt_length (by rw [numB_length]; omega)
      have hb := byteV_byteAt n k
      have h2 := h1.setByte (o + (m - 1 - k)) (byteAt n k)
      rw [hs] at h2
      have hc := h1.byteCell (j := o + (m - 1 - k)) (by rw [hll]; omega)
      have hf := frozen_of_obj h1.obj (o + (m - 1 - k))
      generalize (putAt l (o + (m - k)) (numB k n)).getD (o + (m - 1 - k)) 0 = old at hc
      generalize putAt l (o + (m - k)) (numB k n) = l1 at h1 hll
      unfold byteV at h2 hb
      rw [hb] at h2
      clear hb hs hll
      go_wp2_with fail
      go_roundw
      case rel => exact ⟨k + 1, hlt, by go_num, h2⟩
      case measure => simp [intOf]; omega
    · obtain rfl : k = m := by omega
      go_wp2
      go_end0
      exact ⟨rfl, h1.cast (by simp)⟩

theorem taken_any {ad : Option Addr} {m cap : Nat} {l : List UInt8} {R : Assn} {w : World} (h : Bears w R) (hb : R.Tells (fun w => BytesIn w (.slice ad m cap) l)) (hl : l.length ≤ 9223372036854775807) :
    Calls Try.prog 99 #[.slice ad m cap] w fun e w' => e = .returned (.int .i64 (takenB l)) ∧ Bears w' R := by
  obtain rfl := (hb _ h).len
  go_enter Try.func99, Try.ntmps99
  go_wp2_with fail
  go_loopw [3, 8] (fun n i wr => ∃ k : Nat, k ≤ l.length ∧ i = .int .i64 k ∧ n = .int .i64 (takenB (l.take k)) ∧ Bears wr R)
    (fun _ i _ => l.length - (intOf i).toNat)
  case atStart => exact ⟨0, by omega, rfl, by simp [takenB, beN, wrap64], h⟩
  case round =>
    obtain ⟨k, hk, rfl, rfl, h1⟩ := hrel
    by_cases hlt : k < l.length
    · obtain ⟨b, o, rfl, hcell⟩ := (hb _ h1).cell hlt
      have e1 : takenB (l.take (k + 1)) = wrap64 (takenB (l.take k) * 256) + (l.getD k 0).toNat := by
        have e : l.take (k + 1) = l.take k ++ [l.getD k 0] := by rw [List.take_succ_eq_append_getElem hlt]; simp [hlt]
        rw [e]
        unfold takenB
        rw [beN_snoc]
        have := (l.getD k 0).toNat_lt
        unfold wrap64
        omega
      have hr : -9223372036854775808 ≤ takenB (l.take k) ∧ takenB (l.take k) ≤ 9223372036854775807 := by unfold takenB wrap64; omega
      have hc := (l.getD k 0).toNat_lt
      have ho := or_byte (wrap64 (takenB (l.take k) * 256)) ((l.getD k 0).toNat : Int) (by unfold wrap64; omega) (by omega) (by omega) (by unfold wrap64; omega) (by unfold wrap64; omega)
      generalize l.getD k 0 = c at hcell e1 hc ho
      generalize takenB (l.take k) = x at hr ho e1
      have E1 := Lib.hid e1
      have Ho := Lib.hid ho
      clear e1 ho
      go_wp2_with fail
      go_roundw
      case rel =>
        refine ⟨k + 1, hlt, by go_num, ?_, h1⟩
        rw [E1.out, ← Ho.out]
      case measure => simp [intOf]; omega
    · obtain rfl : k = l.length := by omega
      go_wp2
      go_ret
      exact ⟨by simp, h1⟩

theorem setList_cellsV {l s : List UInt8} {o : Nat} (h : o + s.length ≤ l.length) : setList (cellsV l).toArray o (cellsV s) = (cellsV (putAt l o s)).toArray := by
  apply Array.toList_inj.1
  rw [setList_toList _ _ _ (by simpa using h)]
  simp [cellsV, putAt]

theorem headB_built (size groups hand : Int) : putAt (putAt (putAt (putAt (List.replicate 64 0) 0 markB) 13 (numB 4 size)) 17 (numB 8 groups)) 25 (numB 2 hand) = headB size groups hand := rfl

/-- The mark, copied into new bytes. -/
theorem copy_mark {w : World} {g : Nat} {l : List UInt8} {R : Assn} (h : Bears w (Assn.obj g (.cells (cellsV l).toArray 5 (0, 0)) * R)) (hl : l.length = 64) :
    ∃ w', (Builtin.copy_ #[33, 9] 3 #[.slice (some ⟨g, 0, none⟩) 64 64, .string ⟨#[101, 115, 116, 97, 102, 101, 116, 116, 101, 58, 108, 111, 103]⟩]).run Try.prog w = .ok (goInt 13) w' ∧
      Bears w' (Assn.obj g (.cells (cellsV (putAt l 0 markB)).toArray 5 (0, 0)) * R) := by
  have hz : ∀ w, (Go.sizeOf 5).run Try.prog w = .ok 1 w := fun w => by kernel_rfl
  refine ⟨_, run_copy_string (P := Try.prog) w 33 9 3 5 g 0 64 64 ⟨#[101, 115, 116, 97, 102, 101, 116, 116, 101, 58, 108, 111, 103]⟩ Try.underlying33 hz (by decide)
    (fun j hj => by rw [Nat.zero_add, cell_of_obj h.obj]; have : j < 13 := hj; simp [hl]; omega) (fun j hj => frozen_of_obj h.obj _), ?_⟩
  have h2 := h.setCells 0 (cellsV markB)
  rw [setList_cellsV (by rw [hl]; decide)] at h2
  exact h2

set_option maxRecDepth 100000 in
set_option maxHeartbeats 800000 in
theorem whead_any {R : Assn} {w : World} (h : Bears w R) (size groups hand : Int) :
    Calls Try.prog 100 #[.int .i64 size, .int .i64 groups, .int .i64 hand] w fun e w' => ∃ g, e = .returned (.slice (some ⟨g, 0, none⟩) 64 64) ∧ Bears w' (Assn.obj g (.cells (cellsV (headB size groups hand)).toArray 5 (0, 0)) * R) := by
  rw [← headB_built]
  have hzl : (List.replicate 64 (0 : UInt8)).length = 64 := rfl
  have hmk : ∀ w, (Instr.makeSlice 33 (.int .i64 64) (.int .i64 64)).run Try.prog w = .ok (.slice (some ⟨w.heap.size, 0, none⟩) 64 64) (w.alloc (.cells (cellsV (List.replicate 64 0)).toArray 5)) := fun _ => by kernel_rfl
  generalize List.replicate 64 (0 : UInt8) = z at hzl hmk
  have h1 := h.alloc (.cells (cellsV z).toArray 5)
  obtain ⟨w1, hcp, h2⟩ := copy_mark h1 hzl
  have l1 : (putAt z 0 markB).length = 64 := by rw [putAt_length (by rw [hzl]; decide)]; exact hzl
  generalize putAt z 0 markB = z1 at l1 h2
  have l2 : (putAt z1 13 (numB 4 size)).length = 64 := by rw [putAt_length (by rw [l1, numB_length]; decide)]; exact l1
  have l3 : (putAt (putAt z1 13 (numB 4 size)) 17 (numB 8 groups)).length = 64 := by rw [putAt_length (by rw [l2, numB_length]; decide)]; exact l2
  clear h h1
  go_enter Try.func100, Try.ntmps100
  go_wp2_with (refine wpList_op rfl (exec_copy rfl rfl rfl hcp) ?_)
  refine (number_any (o := 13) (m := 4) h2 size (by rw [l1]; decide) (by decide)).mono ?_
  rintro e w2 ⟨rfl, h3⟩
  go_wp2_with fail
  refine (number_any (o := 17) (m := 8) h3 groups (by rw [l2]; decide) (by decide)).mono ?_
  rintro e w3 ⟨rfl, h4⟩
  go_wp2_with fail
  refine (number_any (o := 25) (m := 2) h4 hand (by rw [l3]; decide) (by decide)).mono ?_
  rintro e w4 ⟨rfl, h5⟩
  go_wp2_with fail
  go_ret
  exact ⟨_, rfl, h5⟩

end Go.Proofs.Ytggbnelbnbaoiaa

/- The log's head between two barriers; the making of a log; no condition. -/
namespace Go.Proofs.Ytggbnelbnbaoiaa
open Go.RowKit Go.MapKept

/-! ### How many writes wait -/
theorem barrier_waits (d : DiskM) : d.barrier.2.waits.length ≤ d.waits.length := by
  unfold DiskM.barrier
  split
  · simp
  · split
    · rw [step_waits]; omega
    · simp
theorem write_waits (d : DiskM) (i : Int) (s : Sec) : (d.write i s).2.waits.length ≤ d.waits.length + 1 := by
  unfold DiskM.write
  split
  · simp
  · split
    · simp
    · split
      · rw [step_waits]; omega
      · simp

theorem wBoth_no1 {d d1 : DiskM} {at' size : Nat} {g hand r1 : Int} (h1 : d.barrier = (r1, d1)) (h : r1 ≠ 0) : wBoth d at' size g hand = (r1, d1) := by
  unfold wBoth; rw [h1, if_pos h]
theorem wBoth_no2 {d d1 d2 : DiskM} {at' size : Nat} {g hand r2 : Int} (h1 : d.barrier = (0, d1)) (h2 : d1.write at' (headB size g hand) = (r2, d2)) (h : r2 ≠ 0) : wBoth d at' size g hand = (r2, d2) := by
  unfold wBoth; rw [h1]; simp only [h2]; rw [if_neg (by simp), if_pos h]
theorem wBoth_yes {d d1 d2 : DiskM} {at' size : Nat} {g hand : Int} (h1 : d.barrier = (0, d1)) (h2 : d1.write at' (headB size g hand) = (0, d2)) : wBoth d at' size g hand = d2.barrier := by
  unfold wBoth; rw [h1]; simp only [h2]; rw [if_neg (by simp), if_neg (by simp)]

/-- A log in memory. -/
abbrev walObj (x p at' size : Nat) (g : Int) : Assn := Assn.obj x (.cells #[.pointer (some ⟨p, 0, none⟩), .int .i64 at', .int .i64 size, .int .i64 g] 146 (0, 0))
theorem wal_cells {w : World} {x p at' size : Nat} {g : Int} {R : Assn} (h : Bears w (walObj x p at' size g * R)) :
    w.cell? ⟨x, 0, none⟩ = some (.pointer (some ⟨p, 0, none⟩)) ∧ w.cell? ⟨x, 1, none⟩ = some (.int .i64 at') ∧ w.cell? ⟨x, 2, none⟩ = some (.int .i64 size) ∧ w.cell? ⟨x, 3, none⟩ = some (.int .i64 g) ∧ w.frozen? ⟨x, 3, none⟩ = false :=
  ⟨cell_of_obj h.obj 0, cell_of_obj h.obj 1, cell_of_obj h.obj 2, cell_of_obj h.obj 3, frozen_of_obj h.obj 3⟩

set_option maxRecDepth 100000 in
set_option maxHeartbeats 800000 in
theorem both_any {x p at' size : Nat} {g : Int} {d : DiskM} {R : Assn} {w : World} (h : Bears w (walObj x p at' size g * (diskA p d * R))) (hand : Int) (hroom : d.waits.length + 1 < 1099511627776) :
    Calls Try.prog 98 #[.pointer (some ⟨x, 0, none⟩), .int .i64 hand] w fun e w' => e = .returned (.int .i64 (wBoth d at' size g hand).1) ∧ Bears w' (walObj x p at' size g * (diskA p (wBoth d at' size g hand).2 * R)) := by
  obtain ⟨r1, d1, e1⟩ : ∃ r1 d1, d.barrier = (r1, d1) := ⟨_, _, rfl⟩
  have hw1 : d1.waits.length ≤ d.waits.length := by have := barrier_waits d; rw [e1] at this; exact this
  obtain ⟨c0, c1, c2, c3, _⟩ := wal_cells h
  by_cases hr1 : r1 = 0
  · subst hr1
    obtain ⟨r2, d2, e2⟩ : ∃ r2 d2, d1.write at' (headB size g hand) = (r2, d2) := ⟨_, _, rfl⟩
    have hw2 : d2.waits.length ≤ d1.waits.length + 1 := by have := write_waits d1 at' (headB size g hand); rw [e2] at this; exact this
    have hfin1 := fun h => wBoth_no2 (r2 := r2) e1 e2 h
    have hfin2 : r2 = 0 → wBoth d at' size g hand = d2.barrier := by rintro rfl; exact wBoth_yes e1 e2
    generalize wBoth d at' size g hand = fin at hfin1 hfin2 ⊢
    have E1 := Lib.hid e1
    have E2 := Lib.hid e2
    have F1 := Lib.hid hfin1
    have F2 := Lib.hid hfin2
    have hl := headB_length size g hand
    have Hl := Lib.hid hl
    clear e1 e2 hfin1 hfin2 hl
    go_enter Try.func98, Try.ntmps98
    go_wp2_with fail
    refine (barrier_to h.pull2 E1.out (by omega)).mono ?_
    rintro e w1 ⟨rfl, h1⟩
    have h2 := h1.pull2
    clear h h1 c0 c1 c2 c3
    go_wp2_with fail
    refine wp_region_L (fun w' => ∃ d', Bears w' (walObj x p at' size g * (diskA p d' * R))) 19
      [(true, 0), (true, 1), (true, 2), (true, 3), (true, 4), (true, 5), (true, 6), (true, 7), (true, 8), (true, 9), (true, 10), (true, 11), (true, 12), (true, 13), (true, 14), (true, 15), (true, 16), (false, 17), (false, 18)] [(true, 19)] (by kernel_rfl) (by kernel_rfl) ⟨_, h2.drew⟩ ?_
    simp only [pick, List.getElem?_cons_zero, List.getElem?_cons_succ]
    refine wpL_yield (v := ?_) rfl (fun w' hS => ?_) ?_
    rotate_left
    · (obtain ⟨_, hS⟩ := hS; obtain ⟨c0, c1, c2, c3, _⟩ := wal_cells hS; go_simp; try with_reducible rfl)
    simp only [Act.put, List.setIfInBounds_toArray, List.set_cons_zero, List.set_cons_succ]
    refine wpL_yield (v := ?_) rfl (fun w' hS => ?_) ?_
    rotate_left
    · (obtain ⟨_, hS⟩ := hS; obtain ⟨c0, c1, c2, c3, _⟩ := wal_cells hS; go_simp; try with_reducible rfl)
    simp only [Act.put, List.setIfInBounds_toArray, List.set_cons_zero, List.set_cons_succ]
    refine wpL_yield (v := ?_) rfl (fun w' hS => ?_) ?_
    rotate_left
    · (obtain ⟨_, hS⟩ := hS; obtain ⟨c0, c1, c2, c3, _⟩ := wal_cells hS; go_simp; try with_reducible rfl)
    simp only [Act.put, List.setIfInBounds_toArray, List.set_cons_zero, List.set_cons_succ]
    refine wpL_yield (v := ?_) rfl (fun w' hS => ?_) ?_
    rotate_left
    · (obtain ⟨_, hS⟩ := hS; obtain ⟨c0, c1, c2, c3, _⟩ := wal_cells hS; go_simp; try with_reducible rfl)
    simp only [Act.put, List.setIfInBounds_toArray, List.set_cons_zero, List.set_cons_succ]
    refine wpL_yield (v := ?_) rfl (fun w' hS => ?_) ?_
    rotate_left
    · (obtain ⟨_, hS⟩ := hS; obtain ⟨c0, c1, c2, c3, _⟩ := wal_cells hS; go_simp; try with_reducible rfl)
    simp only [Act.put, List.setIfInBounds_toArray, List.set_cons_zero, List.set_cons_succ]
    refine wpL_yield (v := ?_) rfl (fun w' hS => ?_) ?_
    rotate_left
    · (obtain ⟨_, hS⟩ := hS; obtain ⟨c0, c1, c2, c3, _⟩ := wal_cells hS; go_simp; try with_reducible rfl)
    simp only [Act.put, List.setIfInBounds_toArray, List.set_cons_zero, List.set_cons_succ]
    refine wpL_yield (v := ?_) rfl (fun w' hS => ?_) ?_
    rotate_left
    · (obtain ⟨_, hS⟩ := hS; obtain ⟨c0, c1, c2, c3, _⟩ := wal_cells hS; go_simp; try with_reducible rfl)
    simp only [Act.put, List.setIfInBounds_toArray, List.set_cons_zero, List.set_cons_succ]
    refine wpL_yield (v := ?_) rfl (fun w' hS => ?_) ?_
    rotate_left
    · (obtain ⟨_, hS⟩ := hS; obtain ⟨c0, c1, c2, c3, _⟩ := wal_cells hS; go_simp; try with_reducible rfl)
    simp only [Act.put, List.setIfInBounds_toArray, List.set_cons_zero, List.set_cons_succ]
    refine wpL_yield (v := ?_) rfl (fun w' hS => ?_) ?_
    rotate_left
    · (obtain ⟨_, hS⟩ := hS; obtain ⟨c0, c1, c2, c3, _⟩ := wal_cells hS; go_simp; try with_reducible rfl)
    simp only [Act.put, List.setIfInBounds_toArray, List.set_cons_zero, List.set_cons_succ]
    refine wpL_yield (v := ?_) rfl (fun w' hS => ?_) ?_
    rotate_left
    · (obtain ⟨_, hS⟩ := hS; obtain ⟨c0, c1, c2, c3, _⟩ := wal_cells hS; go_simp; try with_reducible rfl)
    simp only [Act.put, List.setIfInBounds_toArray, List.set_cons_zero, List.set_cons_succ]
    refine wpL_yield (v := ?_) rfl (fun w' hS => ?_) ?_
    rotate_left
    · (obtain ⟨_, hS⟩ := hS; obtain ⟨c0, c1, c2, c3, _⟩ := wal_cells hS; go_simp; try with_reducible rfl)
    simp only [Act.put, List.setIfInBounds_toArray, List.set_cons_zero, List.set_cons_succ]
    refine wpL_yield (v := ?_) rfl (fun w' hS => ?_) ?_
    rotate_left
    · (obtain ⟨_, hS⟩ := hS; obtain ⟨c0, c1, c2, c3, _⟩ := wal_cells hS; go_simp; try with_reducible rfl)
    simp only [Act.put, List.setIfInBounds_toArray, List.set_cons_zero, List.set_cons_succ]
    refine wpL_yield (v := ?_) rfl (fun w' hS => ?_) ?_
    rotate_left
    · (obtain ⟨_, hS⟩ := hS; obtain ⟨c0, c1, c2, c3, _⟩ := wal_cells hS; go_simp; try with_reducible rfl)
    simp only [Act.put, List.setIfInBounds_toArray, List.set_cons_zero, List.set_cons_succ]
    refine wpL_yield (v := ?_) rfl (fun w' hS => ?_) ?_
    rotate_left
    · (obtain ⟨_, hS⟩ := hS; obtain ⟨c0, c1, c2, c3, _⟩ := wal_cells hS; go_simp; try with_reducible rfl)
    simp only [Act.put, List.setIfInBounds_toArray, List.set_cons_zero, List.set_cons_succ]
    refine wpL_yield (v := ?_) rfl (fun w' hS => ?_) ?_
    rotate_left
    · (obtain ⟨_, hS⟩ := hS; obtain ⟨c0, c1, c2, c3, _⟩ := wal_cells hS; go_simp; try with_reducible rfl)
    simp only [Act.put, List.setIfInBounds_toArray, List.set_cons_zero, List.set_cons_succ]
    refine wpL_yield (v := ?_) rfl (fun w' hS => ?_) ?_
    rotate_left
    · (obtain ⟨_, hS⟩ := hS; obtain ⟨c0, c1, c2, c3, _⟩ := wal_cells hS; go_simp; try with_reducible rfl)
    simp only [Act.put, List.setIfInBounds_toArray, List.set_cons_zero, List.set_cons_succ]
    refine wpL_yield (v := ?_) rfl (fun w' hS => ?_) ?_
    rotate_left
    · (obtain ⟨_, hS⟩ := hS; obtain ⟨c0, c1, c2, c3, _⟩ := wal_cells hS; go_simp; try with_reducible rfl)
    simp only [Act.put, List.setIfInBounds_toArray, List.set_cons_zero, List.set_cons_succ]
    refine wpL_eff rfl ?_
    go_simp
    refine (whead_any h2.drew size g hand).mono ?_
    rintro e w2 ⟨b, rfl, h3⟩
    refine ⟨⟨_, h3.right⟩, ?_⟩
    refine wpL_eff rfl ?_
    go_simp
    refine (write_to h3.pull3 E2.out (BytesIn.tells _ _ (by rw [Hl.out])) (by omega)).mono ?_
    rintro e w3 ⟨rfl, h4⟩
    have h5 := h4.pull2.right
    have h6 := h5.pull2
    clear h2 h3 h4
    refine ⟨⟨_, h6⟩, ?_⟩
    refine wpL_nil ?_
    refine wpL_yield (v := ?_) rfl (fun w' hS => ?_) ?_
    rotate_left
    · (go_simp; try with_reducible rfl)
    simp only [Act.put, List.setIfInBounds_toArray, List.set_cons_zero, List.set_cons_succ]
    refine wpL_nil ?_
    obtain ⟨c0, c1, c2, c3, _⟩ := wal_cells h6
    by_cases hr2 : r2 = 0
    · have F := Lib.hid (F2.out hr2)
      subst hr2
      obtain ⟨r3, d3, e3⟩ : ∃ r3 d3, d2.barrier = (r3, d3) := ⟨_, _, rfl⟩
      have E3 := Lib.hid e3
      clear e3
      go_wp2_with fail
      refine (barrier_to h5 E3.out (by omega)).mono ?_
      rintro e w4 ⟨rfl, h7⟩
      go_wp2_with fail
      go_ret
      rw [F.out, E3.out]
      exact ⟨rfl, h7.pull2⟩
    · go_wp2_with fail
      go_ret
      rw [F1.out hr2]
      exact ⟨rfl, h6⟩
  · rw [wBoth_no1 e1 hr1]
    have E1 := Lib.hid e1
    clear e1
    go_enter Try.func98, Try.ntmps98
    go_wp2_with fail
    refine (barrier_to h.pull2 E1.out (by omega)).mono ?_
    rintro e w1 ⟨rfl, h1⟩
    go_wp2_with fail
    go_ret
    exact ⟨rfl, h1.pull2⟩

end Go.Proofs.Ytggbnelbnbaoiaa
