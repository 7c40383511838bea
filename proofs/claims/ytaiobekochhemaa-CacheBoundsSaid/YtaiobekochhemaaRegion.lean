/- A statement whose order Go leaves open, walked once in one order; no condition. -/
import Derived.Test.YtaiobekochhemaaLaws
namespace Go.Proofs.Ytaiobekochhemaa
open Go.RowKit Go.MapKept

section
variable {P : Program} {ops : Array Oper} {Q : Exit → Act → World → Prop} {S : World → Prop} {md : Region.Mode} {C : Act → World → Prop}

/-- The order in which a region's operations are walked, up to a phase's end: 'true': an operation that only reads or reckons, taken as soon as it may; 'false': the only one that may come now. -/
def schedB (md : Region.Mode) (ops : Array Oper) : List (Bool × Nat) → Array Bool → Option (Array Bool)
  | [], listed => some listed
  | (true, i) :: r, listed => if (Region.ready md ops listed).contains i && Region.free md ops listed i then schedB md ops r (listed.setIfInBounds i true) else none
  | (false, i) :: r, listed => if decide (Region.ready md ops listed = [i]) then schedB md ops r (listed.setIfInBounds i true) else none

/-- Operation j waits for operation i. -/
def waitsB (md : Region.Mode) (ops : Array Oper) (j i : Nat) : Bool :=
  match ops[j]? with
  | some oj => oj.after.any fun e => Region.binds md e && e.on == i
  | none => true

/-- Whoever comes from n on waits for all that come before. -/
def phaseB (md : Region.Mode) (ops : Array Oper) (n : Nat) : Bool :=
  (List.range ops.size).all fun j => decide (j < n) || (List.range n).all fun i => waitsB md ops j i

/-- The walk in that order: what is 'true' yields the same in every world that meets S; behind what is 'false' S holds. -/
def wpS (P : Program) (ops : Array Oper) (Q : Exit → Act → World → Prop) (S : World → Prop) (C : Act → World → Prop) : List (Bool × Nat) → Act → World → Prop
  | [], a, w => C a w
  | (true, i) :: r, a, w => ∃ o v, ops[i]? = some o ∧ YieldsIf P ops S o v a ∧ wpS P ops Q S C r (a.put o.dst v) w
  | (false, i) :: r, a, w => ∃ o, ops[i]? = some o ∧ Region.wanted o (yielded ops a.tmps) = true ∧ o.wp P a w (fun a' w' => S w' ∧ wpS P ops Q S C r a' w') Q

/-- Whatever order is picked within the phase of the operations below n. -/
def wpPh (P : Program) (md : Region.Mode) (ops : Array Oper) (Q : Exit → Act → World → Prop) (S : World → Prop) (n : Nat) (C : Array Bool → Act → World → Prop) : Nat → Array Bool → Act → World → Prop
  | 0, listed, a, w => C listed a w
  | f + 1, listed, a, w =>
    Region.ready md ops listed ≠ [] ∧ ∀ i ∈ Region.ready md ops listed, i < n ∧ wpOp P ops Q i (fun a' w' => S w' ∧ wpPh P md ops Q S n C f (listed.setIfInBounds i true) a' w') a w

theorem wpAny_of_wpPh {n g : Nat} {C : Array Bool → Act → World → Prop} (hC : ∀ listed a w, C listed a w → wpAny P md ops Q g listed a w) :
    ∀ (f : Nat) (listed : Array Bool) (a : Act) (w : World), wpPh P md ops Q S n C f listed a w → wpAny P md ops Q (f + g) listed a w
  | 0, listed, a, w, h => by rw [Nat.zero_add]; exact hC _ _ _ h
  | f + 1, listed, a, w, h => by
    rw [show f + 1 + g = (f + g) + 1 by omega]
    exact ⟨fun h0 => absurd h0 h.1, fun i hi => wpOp_mono (fun a' w' h' => wpAny_of_wpPh hC f _ a' w' h'.2) (h.2 i hi).2⟩

theorem waitsB_spec {j i : Nat} {oj : Oper} (h : waitsB md ops j i = true) (hj : ops[j]? = some oj) : ∃ e ∈ oj.after, Region.binds md e = true ∧ e.on = i := by
  unfold waitsB at h
  rw [hj] at h
  obtain ⟨e, he, hb⟩ := Array.any_eq_true'.1 h
  simp only [Bool.and_eq_true, beq_iff_eq] at hb
  exact ⟨e, he, hb.1, hb.2⟩

/-- None of the later phase may come while one of the earlier is out. -/
theorem below_of_ready {n i j : Nat} {listed : Array Bool} (hp : phaseB md ops n = true) (hin : i < n) (hun : listed.getD i true = false) (hj : j ∈ Region.ready md ops listed) : j < n := by
  rcases Nat.lt_or_ge j n with h | h
  · exact h
  · obtain ⟨_, oj, hoj, hall⟩ := mem_ready.1 hj
    have h1 := List.all_eq_true.1 hp j (List.mem_range.2 (Array.getElem?_eq_some_iff.1 hoj).1)
    simp only [Bool.or_eq_true, decide_eq_true_eq] at h1
    rcases h1 with h1 | h1
    · omega
    · obtain ⟨e, he, hb, hon⟩ := waitsB_spec (List.all_eq_true.1 h1 i (List.mem_range.2 hin)) hoj
      have h2 := hall e he hb
      rw [hon, getD_both hun] at h2
      cases h2

theorem wpPh_first {n i : Nat} {oi : Oper} {v : Value} {C : Array Bool → Act → World → Prop} (hi : ops[i]? = some oi) (hsel : ∀ (j : Nat) (o : Oper) cs b, ops[j]? = some o → o.op ≠ .select cs b)
    (hQ : ∀ c a w, ¬ Q (.panic c) a w) (hp : phaseB md ops n = true) (hin : i < n) (hdone : ∀ listed a w, C listed a w → ∀ j ∈ Region.ready md ops listed, n ≤ j) :
    ∀ (f : Nat) (listed : Array Bool) (a : Act) (w : World),
      (∀ j oj, ops[j]? = some oj → j ≠ i → listed.getD j true = false → (∀ e ∈ oj.after, Region.binds md e = true → e.on ≠ i) → oi.apart ops oj = true) →
      i ∈ Region.ready md ops listed → YieldsIf P ops S oi v a → S w →
      wpPh P md ops Q S n C f (listed.setIfInBounds i true) (a.put oi.dst v) w → wpPh P md ops Q S n C (f + 1) listed a w := by
  intro f
  induction f with
  | zero =>
    intro listed a w _ hr hy hS H
    have hun := (mem_ready.1 hr).1
    refine ⟨fun h => (by rw [h] at hr; cases hr), fun j hj => ?_⟩
    have hjn := below_of_ready hp hin hun hj
    refine ⟨hjn, ?_⟩
    by_cases hji : j = i
    · subst hji; exact hy.wpOp hi hS ⟨hS, H⟩
    · have := hdone _ _ _ H j (ready_mono hj hji)
      omega
  | succ f ih =>
    intro listed a w hfree hr hy hS H
    have hun := (mem_ready.1 hr).1
    refine ⟨fun h => (by rw [h] at hr; cases hr), fun j hj => ?_⟩
    have hjn := below_of_ready hp hin hun hj
    refine ⟨hjn, ?_⟩
    by_cases hji : j = i
    · subst hji; exact hy.wpOp hi hS ⟨hS, H⟩
    · have h1 := (H.2 j (ready_mono hj hji)).2
      obtain ⟨hjun, oj, hoj, hall⟩ := mem_ready.1 hj
      have hnot : ∀ e ∈ oj.after, Region.binds md e = true → e.on ≠ i := fun e he hb heq => by
        have h1 := hall e he hb
        rw [heq, getD_both hun] at h1
        cases h1
      have h2 := wpOp_putIf hoj (hfree j oj hoj hji hjun hnot) (fun cs b => hsel i oi cs b hi) (fun cs b => hsel j oj cs b hoj) (fun c a w h => absurd h (hQ _ _ _)) hy h1
      have hfree' : ∀ k ok, ops[k]? = some ok → k ≠ i → (listed.setIfInBounds j true).getD k true = false →
          (∀ e ∈ ok.after, Region.binds md e = true → e.on ≠ i) → oi.apart ops ok = true := fun k ok hk hki hun hno => by
        refine hfree k ok hk hki ?_ hno
        by_cases hjk : j = k
        · subst hjk; exact hjun
        · rw [getD_set_ne true hjk] at hun; exact hun
      refine wpOp_mono (fun a' w' h3 => ⟨h3.2.1, ih (listed.setIfInBounds j true) a' w' hfree' (ready_mono hr (Ne.symm hji)) h3.1 h3.2.1 ?_⟩) h2
      rw [Array.setIfInBounds_comm _ _ hji]
      exact h3.2.2

theorem wpPh_of_wpS {n : Nat} (hs : Region.noSelect ops = true) (hQ : ∀ c a w, ¬ Q (.panic c) a w) (hp : phaseB md ops n = true) {C : Act → World → Prop} {fin : Array Bool} (hfin : ∀ j ∈ Region.ready md ops fin, n ≤ j) :
    ∀ (π : List (Bool × Nat)) (listed : Array Bool) (a : Act) (w : World), schedB md ops π listed = some fin → π.all (fun x => decide (x.2 < n)) = true → S w →
    wpS P ops Q S C π a w → wpPh P md ops Q S n (fun listed' a' w' => listed' = fin ∧ C a' w') π.length listed a w
  | [], listed, a, w, hB, _, _, h => ⟨by simpa [schedB] using hB, h⟩
  | (true, i) :: r, listed, a, w, hB, hn, hS, h => by
    obtain ⟨o, v, hi, hy, h⟩ := h
    simp only [List.all_cons, Bool.and_eq_true, decide_eq_true_eq] at hn
    simp only [schedB] at hB
    split at hB
    · rename_i hc
      simp only [Bool.and_eq_true] at hc
      exact wpPh_first hi (Region.noSelect_spec hs) hQ hp hn.1 (fun listed' a' w' h => by rw [h.1]; exact hfin) _ listed a w (Region.free_spec hi hc.2) (by simpa using hc.1) hy hS
        (wpPh_of_wpS hs hQ hp hfin r _ _ _ hB hn.2 hS h)
    · cases hB
  | (false, i) :: r, listed, a, w, hB, hn, hS, h => by
    obtain ⟨o, hi, hg, h⟩ := h
    simp only [List.all_cons, Bool.and_eq_true, decide_eq_true_eq] at hn
    simp only [schedB] at hB
    split at hB
    · rename_i hc
      simp only [decide_eq_true_eq] at hc
      refine ⟨by rw [hc]; simp, fun j hj => ?_⟩
      rw [hc] at hj
      have : j = i := by simpa using hj
      subst this
      refine ⟨hn.1, ?_⟩
      unfold wpOp
      simp only [hi, hg, if_true]
      exact .inl (Oper.wp_mono (fun a' w' h' => ⟨h'.1, wpPh_of_wpS hs hQ hp hfin r _ _ _ hB hn.2 h'.1 h'.2⟩) h)
    · cases hB

/-- All that the kernel reckons of a region and an order. -/
def planB (ops : Array Oper) (n : Nat) (π π' : List (Bool × Nat)) : Bool :=
  Region.noSelect ops && phaseB .any ops n && decide (π.length + π'.length = ops.size) && π.all (fun x => decide (x.2 < n)) && π'.all (fun x => decide (x.2 < ops.size)) &&
  match schedB .any ops π (Array.replicate ops.size false) with
  | none => false
  | some l1 => (Region.ready .any ops l1).all (fun j => decide (n ≤ j)) && match schedB .any ops π' l1 with
    | none => false
    | some l2 => (Region.ready .any ops l2).isEmpty

theorem phaseB_all : phaseB md ops ops.size = true := by
  unfold phaseB
  refine List.all_eq_true.2 (fun j hj => ?_)
  simp [List.mem_range.1 hj]

/-- A region that draws its order, walked in one: its first phase (the operations below n) under S, the rest under no condition. -/
theorem wp_region_S {id : Nat} {l : List Oper} {a : Act} {w : World} (S : World → Prop) (n : Nat) (π π' : List (Bool × Nat)) (hm : P.follows .mixedOrders = true)
    (hB : planB l.toArray n π π' = true) (hS : S w.drew)
    (h : wpS P l.toArray (NoPanic Q) S (fun a' w' => wpS P l.toArray (NoPanic Q) (fun _ => True) (Q .normal) π' a' w') π a w.drew) : (Code.region id l.toArray true).wp P Q a w := by
  unfold planB at hB
  simp only [Bool.and_eq_true, decide_eq_true_eq] at hB
  obtain ⟨⟨⟨⟨⟨hn, hp⟩, hlen⟩, h1⟩, h2⟩, hB⟩ := hB
  split at hB
  · cases hB
  rename_i l1 hs1
  simp only [Bool.and_eq_true] at hB
  obtain ⟨hr1, hB⟩ := hB
  split at hB
  · cases hB
  rename_i l2 hs2
  have hempty : Region.ready .any l.toArray l2 = [] := by simpa using hB
  refine wp_region_noPanic (wp_region_any hm ?_)
  have H := wpPh_of_wpS (md := .any) (Q := NoPanic Q) hn (fun c a w h => h) hp (fin := l1) (fun j hj => by simpa using List.all_eq_true.1 hr1 j hj) π _ a w.drew hs1 h1 hS h
  have := wpAny_of_wpPh (md := .any) (g := π'.length) (fun listed' a' w' hc => by
    obtain ⟨rfl, hc⟩ := hc
    have H2 := wpPh_of_wpS (md := .any) (Q := NoPanic Q) (n := l.toArray.size) hn (fun c a w h => h) phaseB_all (fin := l2) (fun j hj => by rw [hempty] at hj; cases hj) π' listed' a' w' hs2 h2 trivial hc
    have := wpAny_of_wpPh (md := .any) (Q := NoPanic Q) (g := 0) (fun listed'' a'' w'' hc => by
      obtain ⟨rfl, hc⟩ := hc
      exact ⟨hempty, hc⟩) _ _ _ _ H2
    exact this) _ _ _ _ H
  rw [hlen] at this
  exact this

/-- The operations of a plan, written out. -/
def pick (l : List Oper) : List (Bool × Nat) → List (Bool × Option Oper)
  | [] => []
  | x :: r => (x.1, l[x.2]?) :: pick l r

/-- The walk over operations that are written out. -/
def wpL (P : Program) (ops : Array Oper) (Q : Exit → Act → World → Prop) (S : World → Prop) (C : Act → World → Prop) : List (Bool × Option Oper) → Act → World → Prop
  | [], a, w => C a w
  | (true, o) :: r, a, w => ∃ v o', o = some o' ∧ YieldsIf P ops S o' v a ∧ wpL P ops Q S C r (a.put o'.dst v) w
  | (false, o) :: r, a, w => ∃ o', o = some o' ∧ Region.wanted o' (yielded ops a.tmps) = true ∧ o'.wp P a w (fun a' w' => S w' ∧ wpL P ops Q S C r a' w') Q

theorem wpS_of_wpL {l : List Oper} {C' : Act → World → Prop} (hC : ∀ a w, C a w → C' a w) : ∀ (π : List (Bool × Nat)) (a : Act) (w : World), wpL P l.toArray Q S C (pick l π) a w → wpS P l.toArray Q S C' π a w
  | [], a, w, h => hC _ _ h
  | (true, i) :: r, a, w, h => by
    obtain ⟨v, o, ho, hy, h⟩ := h
    exact ⟨o, v, by simpa using ho, hy, wpS_of_wpL hC r _ _ h⟩
  | (false, i) :: r, a, w, h => by
    obtain ⟨o, ho, hg, h⟩ := h
    exact ⟨o, by simpa using ho, hg, Oper.wp_mono (fun a' w' h' => ⟨h'.1, wpS_of_wpL hC r _ _ h'.2⟩) h⟩

/-- 'wp_region_S', with the operations written out. -/
theorem wp_region_L {id : Nat} {l : List Oper} {a : Act} {w : World} (S : World → Prop) (n : Nat) (π π' : List (Bool × Nat)) (hm : P.follows .mixedOrders = true)
    (hB : planB l.toArray n π π' = true) (hS : S w.drew)
    (h : wpL P l.toArray (NoPanic Q) S (fun a' w' => wpL P l.toArray (NoPanic Q) (fun _ => True) (Q .normal) (pick l π') a' w') (pick l π) a w.drew) : (Code.region id l.toArray true).wp P Q a w :=
  wp_region_S S n π π' hm hB hS (wpS_of_wpL (fun _ _ h => wpS_of_wpL (fun _ _ h => h) _ _ _ h) _ _ _ h)

section
variable {r : List (Bool × Option Oper)} {a : Act} {w : World} {o : Oper} {v : Value}

theorem wpL_nil (h : C a w) : wpL P ops Q S C [] a w := h

theorem wpL_yield (hg : o.guard = none) (hy : ∀ w, S w → (execOp a.eval o).run P w = .ok (.value v) w)
    (h : wpL P ops Q S C r (a.put o.dst v) w) : wpL P ops Q S C ((true, some o) :: r) a w :=
  ⟨v, o, rfl, .inl ⟨by simp [Region.wanted, hg], hy⟩, h⟩

theorem wpL_skip (hg : Region.wanted o (yielded ops a.tmps) = false)
    (h : wpL P ops Q S C r (a.put o.dst undef) w) : wpL P ops Q S C ((true, some o) :: r) a w :=
  ⟨undef, o, rfl, .inr ⟨hg, rfl⟩, h⟩

theorem wpL_guarded (hg : Region.wanted o (yielded ops a.tmps) = true) (hy : ∀ w, S w → (execOp a.eval o).run P w = .ok (.value v) w)
    (h : wpL P ops Q S C r (a.put o.dst v) w) : wpL P ops Q S C ((true, some o) :: r) a w :=
  ⟨v, o, rfl, .inl ⟨hg, hy⟩, h⟩

theorem wpL_eff (hg : o.guard = none) (h : o.wp P a w (fun a' w' => S w' ∧ wpL P ops Q S C r a' w') Q) : wpL P ops Q S C ((false, some o) :: r) a w :=
  ⟨o, rfl, by simp [Region.wanted, hg], h⟩

theorem wpL_effG (hg : Region.wanted o (yielded ops a.tmps) = true) (h : o.wp P a w (fun a' w' => S w' ∧ wpL P ops Q S C r a' w') Q) : wpL P ops Q S C ((false, some o) :: r) a w :=
  ⟨o, rfl, hg, h⟩

theorem exec_convert {ss dd : TypeId} {x : Operand} {u : Value} (ho : o.op = .convert ss dd x) (hx : a.eval x = v) (hrun : (convert ss dd v).run P w = .ok u w) : (execOp a.eval o).run P w = .ok (.value u) w := by
  unfold execOp
  simp only [ho, hx, Sem.run_bind, hrun, Result.andThen_ok, Sem.run_pure]

/-- An effect that only reads. -/
theorem wp_of_run {K : Act → World → Prop} (hrun : (execOp a.eval o).run P w = .ok (.value v) w) (h : K (a.put o.dst v) w) : o.wp P a w K Q := by
  unfold Oper.wp
  rw [hrun]
  exact h

theorem wpL_load_mid (ty : TypeId) (x : Operand) (hg : o.guard = none) (ho : o.op = .load ty x) (b off : Nat) (hx : a.eval x = .pointer (some ⟨b, off, none⟩))
    (cs : List Value) (d : TypeDesc) (hc : ∀ w, S w → w.rangeAt b off cs) (hu : P.underlying ty = some d) (hd : d.isRow = true) (hz : (P.info? ty).map (·.size) = some cs.length)
    (h : wpL P ops Q S C r (a.put o.dst (.agg cs.toArray)) w) : wpL P ops Q S C ((true, some o) :: r) a w := by
  refine wpL_yield hg (fun w' hS => ?_) h
  unfold execOp
  simp only [ho, hx, Instr.loadAt, Instr.sureAddr, Sem.run_bind, Sem.run_pure, Result.andThen_ok, run_loadVar_mid w' b off ty cs d (hc w' hS) hu hd hz]

theorem wpL_build (t : TypeId) (ps : Array (Nat × Operand)) (vs : Array (Nat × Value)) (hg : o.guard = none) (ho : o.op = .build t ps)
    (hv : ps.toList.map (fun p => (p.1, a.eval p.2)) = vs.toList) (hrun : ∀ w, (Instr.build t vs).run P w = .ok v w) (h : wpL P ops Q S C r (a.put o.dst v) w) : wpL P ops Q S C ((true, some o) :: r) a w := by
  refine wpL_yield hg (fun w' hS => ?_) h
  have hv' : (ps.map fun (j, x) => (j, a.eval x)) = vs := Array.toList_inj.1 (by rw [Array.toList_map]; exact hv)
  unfold execOp
  simp only [ho, hv', Sem.run_bind, hrun, Result.andThen_ok, Sem.run_pure]

theorem wpL_buildSlice {w' : World} (t : TypeId) (n : Nat) (ps : Array (Nat × Operand)) (vs : Array (Nat × Value)) (hg : o.guard = none) (ho : o.op = .buildSlice t n ps)
    (hv : ps.toList.map (fun p => (p.1, a.eval p.2)) = vs.toList) (hrun : (Instr.buildSlice t n vs).run P w = .ok v w') (hS : S w') (h : wpL P ops Q S C r (a.put o.dst v) w') : wpL P ops Q S C ((false, some o) :: r) a w := by
  refine wpL_eff hg ?_
  have hv' : (ps.map fun (j, x) => (j, a.eval x)) = vs := Array.toList_inj.1 (by rw [Array.toList_map]; exact hv)
  unfold Oper.wp execOp
  simp only [ho, hv', Sem.run_bind, hrun, Result.andThen_ok, Sem.run_pure, Oper.upon]
  exact ⟨hS, h⟩

/-- A store of one cell. -/
theorem wpL_store {b i : Nat} {u' : World} (ty : TypeId) (x y : Operand) (hg : o.guard = none) (ho : o.op = .store ty x y) (hx : a.eval x = .pointer (some ⟨b, i, none⟩)) (hy : a.eval y = v)
    (hrun : (Instr.storeAt ty (.pointer (some ⟨b, i, none⟩)) v).run P w = .ok () u') (hS : S u') (h : wpL P ops Q S C r (a.put o.dst undef) u') : wpL P ops Q S C ((false, some o) :: r) a w := by
  refine wpL_eff hg ?_
  unfold Oper.wp execOp
  simp only [ho, hx, hy, Sem.run_bind, hrun, Result.andThen_ok, Sem.run_pure, Oper.upon]
  exact ⟨hS, h⟩
end

end

/-! ### Filling a struct or an array out of parts -/
theorem foldl_set_append (off : Nat) : ∀ (vs : List Value) (j : Nat) (cs : Array Value), off + j + vs.length ≤ cs.size →
    ((vs.zipIdx j).foldl (fun cs (p : Value × Nat) => cs.setIfInBounds (off + p.2) p.1) cs).toList = cs.toList.take (off + j) ++ vs ++ cs.toList.drop (off + j + vs.length)
  | [], j, cs, _ => by simp
  | v :: vs, j, cs, h => by
    simp only [List.length_cons] at h
    simp only [List.zipIdx_cons, List.foldl_cons]
    rw [foldl_set_append off vs (j + 1) (cs.setIfInBounds (off + j) v) (by simp; omega)]
    simp only [Array.toList_setIfInBounds, List.length_cons]
    rw [← Nat.add_assoc off j 1, List.take_succ_eq_append_getElem (by simp; omega), List.take_set_of_le (by omega), List.drop_set_of_lt (by omega)]
    simp only [List.getElem_set_self, List.append_assoc, List.cons_append, List.nil_append]
    rw [show off + j + 1 + vs.length = off + j + (vs.length + 1) by omega]

theorem fill_one (place : Nat → Option (Nat × Nat)) (cells : Array Value) (i : Nat) (v : Value) (rest : List (Nat × Value)) (off size : Nat) (hp : place i = some (off, size)) (hs : v.cells.size = size) (hf : off + size ≤ cells.size) :
    Instr.fill place cells ((i, v) :: rest) = Instr.fill place (cells.toList.take off ++ v.cells.toList ++ cells.toList.drop (off + size)).toArray rest := by
  have h1 := foldl_set_append off v.cells.toList 0 cells (by simp [hs]; omega)
  simp only [Nat.add_zero, Array.length_toList, hs] at h1
  have h2 : (v.cells.zipIdx.foldl (fun cs (p : Value × Nat) => cs.setIfInBounds (off + p.2) p.1) cells) = (cells.toList.take off ++ v.cells.toList ++ cells.toList.drop (off + size)).toArray := by
    apply Array.toList_inj.1
    rw [← Array.foldl_toList, Array.toList_zipIdx]
    exact h1
  simp only [Instr.fill, hp]
  rw [if_neg (by simp [hs]; omega)]
  rw [← h2]

section
variable {P : Program} {w : World}

theorem run_build_struct {t : TypeId} {fields : Array Field} {z : Value} {places : Array (Nat × Nat)} {parts : Array (Nat × Value)} {cells : Array Value} (hz : (zeroValue t).run P w = .ok z w) (hu : P.underlying t = some (.struct fields))
    (hp : (fields.mapM (fun f => do pure (f.offset, ← sizeOf f.type) : Field → Sem (Nat × Nat))).run P w = .ok places w) (hf : Instr.fill (places[·]?) z.cells parts.toList = some cells) :
    (Instr.build t parts).run P w = .ok (.agg cells) w := by
  unfold Instr.build
  simp only [Sem.run_bind, hz, Result.andThen_ok, run_underlying hu, hp, hf, Sem.run_pure]

theorem run_buildSlice_one {t e : TypeId} {size : Nat} {z v : Value} (ht : P.underlying t = some (.slice e)) (hi : (P.info? e).map (·.size) = some size) (h0 : 0 < size) (h1 : size ≤ 2 ^ 24) (hz : (zeroValue e).run P w = .ok z w) (hzs : z.cells.size = size)
    (hv : v.cells.size = size) : (Instr.buildSlice t 1 #[(0, v)]).run P w = .ok (.slice (some ⟨w.heap.size, 0, none⟩) 1 1) (w.alloc (.cells v.cells e)) := by
  cases hq : P.info? e with
  | none => simp [hq] at hi
  | some i =>
    have hs : i.size = size := by simpa [hq] using hi
    have hfill : Instr.fill (fun i => some (i * size, size)) ((Array.range (1 * size)).map (fun j => z.cells[j % z.cells.size]!)) [(0, v)] = some v.cells := by
      rw [fill_one _ _ 0 v [] 0 size (by simp) hv (by simp)]
      simp [Instr.fill, List.drop_of_length_le, List.length_map, List.length_range]
    unfold Instr.buildSlice
    have hso : (sizeOf e).run P w = .ok size w := by simp [sizeOf, typeInfo, hq, hs, Result.andThen]
    simp only [Nat.one_mul] at hfill
    have h2 : ¬ size > 2 ^ 24 := by omega
    have h3 : ¬ size = 0 := by omega
    simp only [Sem.run_bind, run_underlying ht, Result.andThen_ok, hso, Nat.one_mul, h2, h3, if_false, hz, Sem.run_pure, hfill]
    simp [newRow, newObj, Sem.run, Result.andThen]
end

end Go.Proofs.Ytaiobekochhemaa
