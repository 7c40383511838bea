/- Laws at the operations of a walk, over separate pieces of memory; no condition. -/
import Derived.Test.YtaiobekochhemaaMem
import Derived.StillTailTactics
import Derived.Deep.RegionHeld3
import Derived.Lib.Hide
namespace Go.Proofs.Ytaiobekochhemaa
open Go.RowKit Go.MapKept

section
variable {P : Program} {w : World} {ops : Array Oper} {rest : List Oper} {o : Oper} {a : Act} {Q : Exit → Act → World → Prop} {R : Assn}

theorem run_mapUpdate_bears {t kt et : TypeId} {b : Nat} {l : List (Int × Value)} (ht : P.underlying t = some (.map kt et)) (hk : P.underlying kt = some (.int .i64)) (h : Bears w (mapA b l * R)) (x : Int) (v : Value) :
    ∃ w', (Instr.mapUpdate t (.map (some b)) (.int .i64 x) v).run P w = .ok () w' ∧ Bears w' (mapA b (putL x v l) * R) := by
  obtain ⟨es, clock, hm, h⟩ := h.ofMapA
  obtain ⟨es', clock', hrun, hm'⟩ := run_mapUpdate_int ht hk h.obj hm x v
  exact ⟨_, hrun, (h.setObj _).toMapA hm'⟩

theorem wp_mapUpdate_bears {K : Act → World → Prop} {m x v : Operand} {t kt et : TypeId} {b : Nat} {l : List (Int × Value)} {key : Int} {val : Value} (hop : o.op = .mapUpdate t m x v)
    (ht : P.underlying t = some (.map kt et)) (hk : P.underlying kt = some (.int .i64)) (h : Bears w (mapA b l * R))
    (hm : a.eval m = .map (some b)) (hx : a.eval x = .int .i64 key) (hv : a.eval v = val)
    (hK : ∀ w', Bears w' (mapA b (putL key val l) * R) → K (a.put o.dst undef) w') : o.wp P a w K Q := by
  obtain ⟨w', hrun, h'⟩ := run_mapUpdate_bears (R := R) ht hk h key val
  unfold Oper.wp
  simp [execOp, hop, hm, hx, hv, hrun, Result.andThen]
  exact hK w' h'

theorem wpList_mapUpdate_bears {m x v : Operand} {t kt et : TypeId} {b : Nat} {l : List (Int × Value)} {key : Int} {val : Value} (h : Bears w (mapA b l * R)) (hg : o.guard = none) (hop : o.op = .mapUpdate t m x v)
    (ht : P.underlying t = some (.map kt et)) (hk : P.underlying kt = some (.int .i64))
    (hm : a.eval m = .map (some b)) (hx : a.eval x = .int .i64 key) (hv : a.eval v = val)
    (hK : ∀ w', Bears w' (mapA b (putL key val l) * R) → wpList P ops Q rest (a.put o.dst undef) w') : wpList P ops Q (o :: rest) a w :=
  wpList_plain hg fun _ hK' => wp_mapUpdate_bears (R := R) hop ht hk h hm hx hv fun w' h' => hK' _ _ (hK w' h')

theorem run_append_bears {t ty e : TypeId} {i : TypeInfo} {z : Value} {size bytes : Nat} (ht : P.underlying t = some (.slice e)) (hi : P.info? e = some i) (hz : i.zero = some z)
    (hsize : i.size = size) (hby : i.bytes = bytes) (hzs : z.cells.size = size) (hsz : 0 < size)
    {v : Value} {n : Nat} {xs : List Value} (h : Bears w (rowA e size v n xs * R))
    {ad : Addr} {m c : Nat} {news : List Value} (hl : news.length = m * size) (hnews : ∀ j u, news[j]? = some u → w.cell? (ad.add j) = some u) (h1 : ∀ u ∈ news, u.oneCell' = true)
    (h63 : n + m ≤ maxLen) (hbytes : (n + m) * bytes ≤ 140737488355328) :
    ∃ a' c' w', (Builtin.append_ #[t, t] ty #[v, .slice (some ad) m c]).run P w = .ok (.slice a' (n + m) c') w' ∧ Bears w' (rowA e size (.slice a' (n + m) c') (n + m) (xs ++ news) * R) := by
  obtain ⟨v', w', hr, h2, h3, _, h5⟩ := run_append_own_at (P := P) w 0 t ty e i z size bytes ht hi hz hsize hby hzs hsz v n xs h.row ad m c news hl hnews h1 h63 hbytes (Nat.zero_le _)
  obtain ⟨a', c', rfl⟩ : ∃ a' c', v' = .slice a' (n + m) c' := by
    rcases h2.2 with ⟨rfl, h0⟩ | ⟨g, cap, cur, rfl, _⟩
    · exact ⟨none, 0, by rw [h0]⟩
    · exact ⟨_, _, rfl⟩
  exact ⟨a', c', w', hr, h.appended h2 h3 h5⟩

theorem wp_append_bears {K : Act → World → Prop} {s x : Operand} {t e : TypeId} {i : TypeInfo} {z : Value} {size bytes : Nat} {v : Value} {n : Nat} {xs : List Value} (h : Bears w (rowA e size v n xs * R))
    (ho : o.op = .call { callee := .builtin .append, args := #[s, x], argTypes := #[t, t] })
    (ht : P.underlying t = some (.slice e)) (hi : P.info? e = some i) (hz : i.zero = some z)
    (hsize : i.size = size) (hby : i.bytes = bytes) (hzs : z.cells.size = size) (hsz : 0 < size) (hs : a.eval s = v)
    {ad : Addr} {m c : Nat} {news : List Value} (hx : a.eval x = .slice (some ad) m c) (hl : news.length = m * size) (hnews : ∀ j u, news[j]? = some u → w.cell? (ad.add j) = some u) (h1 : ∀ u ∈ news, u.oneCell' = true)
    (h63 : n + m ≤ maxLen) (hbytes : (n + m) * bytes ≤ 140737488355328)
    (hK : ∀ a' c' w', Bears w' (rowA e size (.slice a' (n + m) c') (n + m) (xs ++ news) * R) → K (a.put o.dst (.slice a' (n + m) c')) w') : o.wp P a w K Q := by
  obtain ⟨a', c', w', hr, h2⟩ := run_append_bears (ty := o.type) ht hi hz hsize hby hzs hsz h hl hnews h1 h63 hbytes (c := c)
  unfold Oper.wp execOp
  simp only [ho, resolve, invoke, builtin, Sem.run_bind, Sem.run_pure, Result.andThen_ok, List.map_toArray, List.map_cons, List.map_nil, hs, hx, hr]
  exact hK a' c' w' h2

theorem wpList_append_bears {s x : Operand} {t e : TypeId} {i : TypeInfo} {z : Value} {size bytes : Nat} {v : Value} {n : Nat} {xs : List Value} (h : Bears w (rowA e size v n xs * R)) (hg : o.guard = none)
    (ho : o.op = .call { callee := .builtin .append, args := #[s, x], argTypes := #[t, t] })
    (ht : P.underlying t = some (.slice e)) (hi : P.info? e = some i) (hz : i.zero = some z)
    (hsize : i.size = size) (hby : i.bytes = bytes) (hzs : z.cells.size = size) (hsz : 0 < size) (hs : a.eval s = v)
    {ad : Addr} {m c : Nat} {news : List Value} (hx : a.eval x = .slice (some ad) m c) (hl : news.length = m * size) (hnews : ∀ j u, news[j]? = some u → w.cell? (ad.add j) = some u) (h1 : ∀ u ∈ news, u.oneCell' = true)
    (h63 : n + m ≤ maxLen) (hbytes : (n + m) * bytes ≤ 140737488355328)
    (hK : ∀ a' c' w', Bears w' (rowA e size (.slice a' (n + m) c') (n + m) (xs ++ news) * R) → wpList P ops Q rest (a.put o.dst (.slice a' (n + m) c')) w') : wpList P ops Q (o :: rest) a w :=
  wpList_plain hg fun _ hK' => wp_append_bears h ho ht hi hz hsize hby hzs hsz hs hx hl hnews h1 h63 hbytes fun a' c' w' h' => hK' _ _ (hK a' c' w' h')

/-- A look-up. -/
theorem wpList_lookup_bears {m x : Operand} {t kt et : TypeId} {b : Nat} {l : List (Int × Value)} {key : Int} {z : Value} (h : Bears w (mapA b l * R)) (hg : o.guard = none) (hop : o.op = .lookup t m x false)
    (ht : P.underlying t = some (.map kt et)) (hk : P.underlying kt = some (.int .i64)) (hz : (zeroValue et).run P w = .ok z w)
    (hm : a.eval m = .map (some b)) (hx : a.eval x = .int .i64 key)
    (hK : wpList P ops Q rest (a.put o.dst ((getL key l).getD z)) w) : wpList P ops Q (o :: rest) a w := by
  obtain ⟨es, clock, hm', h'⟩ := h.ofMapA
  have hrun := run_lookup_int ht hk hz h'.obj hm' key
  refine wpList_plain hg fun _ hK' => ?_
  unfold Oper.wp
  simp [execOp, hop, hm, hx, hrun, Result.andThen]
  exact hK' _ _ hK

/-- A new variable of a type of many cells. -/
theorem wpList_alloc_z {t : TypeId} {z : Value} (hg : o.guard = none) (hop : o.op = .alloc t) (hz : (zeroValue t).run P w = .ok z w)
    (hK : wpList P ops Q rest (a.put o.dst (.pointer (some ⟨w.heap.size, 0, none⟩))) (w.alloc (.cells z.cells t))) : wpList P ops Q (o :: rest) a w := by
  refine wpList_plain hg fun _ hK' => ?_
  unfold Oper.wp
  simp [execOp, hop, Instr.alloc, newVar, newRow, newObj, hz, Result.andThen, Sem.run]
  exact hK' _ _ hK

/-- A store of a whole object. -/
theorem wpList_store_obj {t t' : TypeId} {x y : Operand} {b : Nat} {c cs : Array Value} (h : Bears w (Assn.obj b (.cells c t' (0, 0)) * R)) (hg : o.guard = none) (hop : o.op = .store t x y) (hx : a.eval x = .pointer (some ⟨b, 0, none⟩)) (hy : a.eval y = .agg cs)
    (hs : cs.size = c.size) (hi : (P.info? t).map (·.size) = some c.size) (h1 : ∀ v ∈ cs.toList, v.oneCell' = true)
    (hK : ∀ w', Bears w' (Assn.obj b (.cells cs t' (0, 0)) * R) → wpList P ops Q rest (a.put o.dst undef) w') : wpList P ops Q (o :: rest) a w := by
  have hb := h.obj
  refine wpList_store_mid hg t x y hop b 0 cs hx hy (fun j hj => ⟨?_, frozen_of_obj hb _⟩) (by rw [hi, hs]) (Array.all_eq_true_iff_forall_mem.2 (fun v hv => h1 v (Array.mem_toList_iff.2 hv))) (hK _ ?_)
  · rw [cell_of_obj hb]; simp; omega
  · have := h.setCells 0 cs.toList
    rwa [setList_all _ _ (by simpa using hs)] at this

theorem wpStill_yield {Qs : Act → Prop} {v : Value} (hg : o.guard = none) (hrun : (execOp a.eval o).run P w = .ok (.value v) w) (h : wpStill P ops w Qs rest (a.put o.dst v)) : wpStill P ops w Qs (o :: rest) a := by
  unfold wpStill
  rw [if_pos (by simp [Region.wanted, hg])]
  unfold Oper.still
  rw [hrun]
  exact ⟨rfl, h⟩

theorem wpStill_load_mid {Qs : Act → Prop} (ty : TypeId) (x : Operand) (hg : o.guard = none) (ho : o.op = .load ty x) (b off : Nat) (hx : a.eval x = .pointer (some ⟨b, off, none⟩)) (cs : List Value) (d : TypeDesc) (hc : w.rangeAt b off cs)
    (hu : P.underlying ty = some d) (hd : d.isRow = true) (hi : (P.info? ty).map (·.size) = some cs.length)
    (h : wpStill P ops w Qs rest (a.put o.dst (.agg cs.toArray))) : wpStill P ops w Qs (o :: rest) a := by
  refine wpStill_yield hg ?_ h
  unfold execOp
  simp only [ho, hx, Instr.loadAt, Instr.sureAddr, Sem.run_bind, Sem.run_pure, Result.andThen_ok, run_loadVar_mid w b off ty cs d hc hu hd hi]

/-- A region that draws its order: what only reads and reckons comes first, in whatever order; then the last operations in theirs. -/
theorem wp_region_tail {id : Nat} {l : List Oper} (n : Nat) (hm : P.follows .mixedOrders = true) (hB : Region.lexTailB .any l.toArray n = true)
    (h : wpStill P l.toArray w.drew (fun a' => wpList P l.toArray Q (l.drop n) a' w.drew) (l.take n) a) : (Code.region id l.toArray true).wp P Q a w :=
  wp_region_still_tail n hm hB h

/-- At a step of a region that draws its order. -/
theorem step_append_bears {K : Act → World → Prop} {E : Prop} {s x : Operand} {t e : TypeId} {i : TypeInfo} {z : Value} {size bytes : Nat} {v : Value} {n : Nat} {xs : List Value} (h : Bears w (rowA e size v n xs * R)) (hg : o.guard = none)
    (ho : o.op = .call { callee := .builtin .append, args := #[s, x], argTypes := #[t, t] })
    (ht : P.underlying t = some (.slice e)) (hi : P.info? e = some i) (hz : i.zero = some z)
    (hsize : i.size = size) (hby : i.bytes = bytes) (hzs : z.cells.size = size) (hsz : 0 < size) (hs : a.eval s = v)
    {ad : Addr} {m c : Nat} {news : List Value} (hx : a.eval x = .slice (some ad) m c) (hl : news.length = m * size) (hnews : ∀ j u, news[j]? = some u → w.cell? (ad.add j) = some u) (h1 : ∀ u ∈ news, u.oneCell' = true)
    (h63 : n + m ≤ maxLen) (hbytes : (n + m) * bytes ≤ 140737488355328)
    (hK : ∀ a' c' w', Bears w' (rowA e size (.slice a' (n + m) c') (n + m) (xs ++ news) * R) → K (a.put o.dst (.slice a' (n + m) c')) w') :
    if Region.wanted o (yielded ops a.tmps) = true then Oper.wp P o a w K Q else E := by
  have hw : Region.wanted o (yielded ops a.tmps) = true := by simp [Region.wanted, hg]
  rw [if_pos hw]
  exact wp_append_bears h ho ht hi hz hsize hby hzs hsz hs hx hl hnews h1 h63 hbytes hK
end

end Go.Proofs.Ytaiobekochhemaa
