/- Texts of this claim, put together: Region, DiskW2, DiskW3, DiskW4, DiskW5, DiskW6, DiskW7, DiskT, WalW1; no condition. -/
import Derived.Test.YtcggloceabjjdaaGreatMf69594d339
import Derived.Shelf.SlMaps.Clone
import Derived.Lib.SliceRun
import Derived.Laws.IdiomStrings
import Derived.Lib.LazyBuf

set_option linter.unusedSimpArgs false
set_option linter.unusedVariables false

/- A statement whose order Go leaves open, walked once in one order; no condition. -/
namespace Go.Proofs.YtcggloceabjjdaaGreat
open Go.RowKit Go.MapKept

section
variable {P : Program} {ops : Array Oper} {Q : Exit → Act → World → Prop} {S : World → Prop} {md : Region.Mode} {C : Act → World → Prop}

/-- The order in which a region's operations are walked, up to a phase's end: 'true': an operation that only reads or reckons, taken as soon as it may; 'false': the only one that may come now. -/
def schedB (md : Region.Mode) (ops : Array Oper) : List (Bool × Nat) → Array Bool → Option (Array Bool)
  | [], listed => some listed
  | (true, i) :: r, listed => if (Region.ready md ops listed).contains i && Region.free md ops listed i then schedB md ops r (listed.setIfInBounds i true) else none
  | (false, i) :: r, listed => if decide (Region.ready md ops listed = [i]) then schedB md ops r (listed.setIfInBounds i true) else none

/-- Operation j waits for operation i. -/
def waitsB (md : Region.Mode) (ops : Array Oper) (j i : Nat) : Bool :=
  match ops[j]? with
  | some oj => oj.after.any fun e => Region.binds md e && e.on == i
  | none => true

/-- Whoever comes from n on waits for all that come before. -/
def phaseB (md : Region.Mode) (ops : Array Oper) (n : Nat) : Bool :=
  (List.range ops.size).all fun j => decide (j < n) || (List.range n).all fun i => waitsB md ops j i

/-- The walk in that order: what is 'true' yields the same in every world that meets S; behind what is 'false' S holds. -/
def wpS (P : Program) (ops : Array Oper) (Q : Exit → Act → World → Prop) (S : World → Prop) (C : Act → World → Prop) : List (Bool × Nat) → Act → World → Prop
  | [], a, w => C a w
  | (true, i) :: r, a, w => ∃ o v, ops[i]? = some o ∧ YieldsIf P ops S o v a ∧ wpS P ops Q S C r (a.put o.dst v) w
  | (false, i) :: r, a, w => ∃ o, ops[i]? = some o ∧ Region.wanted o (yielded ops a.tmps) = true ∧ o.wp P a w (fun a' w' => S w' ∧ wpS P ops Q S C r a' w') Q

/-- Whatever order is picked within the phase of the operations below n. -/
def wpPh (P : Program) (md : Region.Mode) (ops : Array Oper) (Q : Exit → Act → World → Prop) (S : World → Prop) (n : Nat) (C : Array Bool → Act → World → Prop) : Nat → Array Bool → Act → World → Prop
  | 0, listed, a, w => C listed a w
  | f + 1, listed, a, w =>
    Region.ready md ops listed ≠ [] ∧ ∀ i ∈ Region.ready md ops listed, i < n ∧ wpOp P ops Q i (fun a' w' => S w' ∧ wpPh P md ops Q S n C f (listed.setIfInBounds i true) a' w') a w

theorem wpAny_of_wpPh {n g : Nat} {C : Array Bool → Act → World → Prop} (hC : ∀ listed a w, C listed a w → wpAny P md ops Q g listed a w) :
    ∀ (f : Nat) (listed : Array Bool) (a : Act) (w : World), wpPh P md ops Q S n C f listed a w → wpAny P md ops Q (f + g) listed a w
  | 0, listed, a, w, h => by rw [Nat.zero_add]; exact hC _ _ _ h
  | f + 1, listed, a, w, h => by
    rw [show f + 1 + g = (f + g) + 1 by omega]
    exact ⟨fun h0 => absurd h0 h.1, fun i hi => wpOp_mono (fun a' w' h' => wpAny_of_wpPh hC f _ a' w' h'.2) (h.2 i hi).2⟩

theorem waitsB_spec {j i : Nat} {oj : Oper} (h : waitsB md ops j i = true) (hj : ops[j]? = some oj) : ∃ e ∈ oj.after, Region.binds md e = true ∧ e.on = i := by
  unfold waitsB at h
  rw [hj] at h
  obtain ⟨e, he, hb⟩ := Array.any_eq_true'.1 h
  simp only [Bool.and_eq_true, beq_iff_eq] at hb
  exact ⟨e, he, hb.1, hb.2⟩

/-- None of the later phase may come while one of the earlier is out. -/
theorem below_of_ready {n i j : Nat} {listed : Array Bool} (hp : phaseB md ops n = true) (hin : i < n) (hun : listed.getD i true = false) (hj : j ∈ Region.ready md ops listed) : j < n := by
  rcases Nat.lt_or_ge j n with h | h
  · exact h
  · obtain ⟨_, oj, hoj, hall⟩ := mem_ready.1 hj
    have h1 := List.all_eq_true.1 hp j (List.mem_range.2 (Array.getElem?_eq_some_iff.1 hoj).1)
    simp only [Bool.or_eq_true, decide_eq_true_eq] at h1
    rcases h1 with h1 | h1
    · omega
    · obtain ⟨e, he, hb, hon⟩ := waitsB_spec (List.all_eq_true.1 h1 i (List.mem_range.2 hin)) hoj
      have h2 := hall e he hb
      rw [hon, getD_both hun] at h2
      cases h2

theorem wpPh_first {n i : Nat} {oi : Oper} {v : Value} {C : Array Bool → Act → World → Prop} (hi : ops[i]? = some oi) (hsel : ∀ (j : Nat) (o : Oper) cs b, ops[j]? = some o → o.op ≠ .select cs b)
    (hQ : ∀ c a w, ¬ Q (.panic c) a w) (hp : phaseB md ops n = true) (hin : i < n) (hdone : ∀ listed a w, C listed a w → ∀ j ∈ Region.ready md ops listed, n ≤ j) :
    ∀ (f : Nat) (listed : Array Bool) (a : Act) (w : World),
      (∀ j oj, ops[j]? = some oj → j ≠ i → listed.getD j true = false → (∀ e ∈ oj.after, Region.binds md e = true → e.on ≠ i) → oi.apart ops oj = true) →
      i ∈ Region.ready md ops listed → YieldsIf P ops S oi v a → S w →
      wpPh P md ops Q S n C f (listed.setIfInBounds i true) (a.put oi.dst v) w → wpPh P md ops Q S n C (f + 1) listed a w := by
  intro f
  induction f with
  | zero =>
    intro listed a w _ hr hy hS H
    have hun := (mem_ready.1 hr).1
    refine ⟨fun h => (by rw [h] at hr; cases hr), fun j hj => ?_⟩
    have hjn := below_of_ready hp hin hun hj
    refine ⟨hjn, ?_⟩
    by_cases hji : j = i
    · subst hji; exact hy.wpOp hi hS ⟨hS, H⟩
    · have := hdone _ _ _ H j (ready_mono hj hji)
      omega
  | succ f ih =>
    intro listed a w hfree hr hy hS H
    have hun := (mem_ready.1 hr).1
    refine ⟨fun h => (by rw [h] at hr; cases hr), fun j hj => ?_⟩
    have hjn := below_of_ready hp hin hun hj
    refine ⟨hjn, ?_⟩
    by_cases hji : j = i
    · subst hji; exact hy.wpOp hi hS ⟨hS, H⟩
    · have h1 := (H.2 j (ready_mono hj hji)).2
      obtain ⟨hjun, oj, hoj, hall⟩ := mem_ready.1 hj
      have hnot : ∀ e ∈ oj.after, Region.binds md e = true → e.on ≠ i := fun e he hb heq => by
        have h1 := hall e he hb
        rw [heq, getD_both hun] at h1
        cases h1
      have h2 := wpOp_putIf hoj (hfree j oj hoj hji hjun hnot) (fun cs b => hsel i oi cs b hi) (fun cs b => hsel j oj cs b hoj) (fun c a w h => absurd h (hQ _ _ _)) hy h1
      have hfree' : ∀ k ok, ops[k]? = some ok → k ≠ i → (listed.setIfInBounds j true).getD k true = false →
          (∀ e ∈ ok.after, Region.binds md e = true → e.on ≠ i) → oi.apart ops ok = true := fun k ok hk hki hun hno => by
        refine hfree k ok hk hki ?_ hno
        by_cases hjk : j = k
        · subst hjk; exact hjun
        · rw [getD_set_ne true hjk] at hun; exact hun
      refine wpOp_mono (fun a' w' h3 => ⟨h3.2.1, ih (listed.setIfInBounds j true) a' w' hfree' (ready_mono hr (Ne.symm hji)) h3.1 h3.2.1 ?_⟩) h2
      rw [Array.setIfInBounds_comm _ _ hji]
      exact h3.2.2

theorem wpPh_of_wpS {n : Nat} (hs : Region.noSelect ops = true) (hQ : ∀ c a w, ¬ Q (.panic c) a w) (hp : phaseB md ops n = true) {C : Act → World → Prop} {fin : Array Bool} (hfin : ∀ j ∈ Region.ready md ops fin, n ≤ j) :
    ∀ (π : List (Bool × Nat)) (listed : Array Bool) (a : Act) (w : World), schedB md ops π listed = some fin → π.all (fun x => decide (x.2 < n)) = true → S w →
    wpS P ops Q S C π a w → wpPh P md ops Q S n (fun listed' a' w' => listed' = fin ∧ C a' w') π.length listed a w
  | [], listed, a, w, hB, _, _, h => ⟨by simpa [schedB] using hB, h⟩
  | (true, i) :: r, listed, a, w, hB, hn, hS, h => by
    obtain ⟨o, v, hi, hy, h⟩ := h
    simp only [List.all_cons, Bool.and_eq_true, decide_eq_true_eq] at hn
    simp only [schedB] at hB
    split at hB
    · rename_i hc
      simp only [Bool.and_eq_true] at hc
      exact wpPh_first hi (Region.noSelect_spec hs) hQ hp hn.1 (fun listed' a' w' h => by rw [h.1]; exact hfin) _ listed a w (Region.free_spec hi hc.2) (by simpa using hc.1) hy hS
        (wpPh_of_wpS hs hQ hp hfin r _ _ _ hB hn.2 hS h)
    · cases hB
  | (false, i) :: r, listed, a, w, hB, hn, hS, h => by
    obtain ⟨o, hi, hg, h⟩ := h
    simp only [List.all_cons, Bool.and_eq_true, decide_eq_true_eq] at hn
    simp only [schedB] at hB
    split at hB
    · rename_i hc
      simp only [decide_eq_true_eq] at hc
      refine ⟨by rw [hc]; simp, fun j hj => ?_⟩
      rw [hc] at hj
      have : j = i := by simpa using hj
      subst this
      refine ⟨hn.1, ?_⟩
      unfold wpOp
      simp only [hi, hg, if_true]
      exact .inl (Oper.wp_mono (fun a' w' h' => ⟨h'.1, wpPh_of_wpS hs hQ hp hfin r _ _ _ hB hn.2 h'.1 h'.2⟩) h)
    · cases hB

/-- All that the kernel reckons of a region and an order. -/
def planB (ops : Array Oper) (n : Nat) (π π' : List (Bool × Nat)) : Bool :=
  Region.noSelect ops && phaseB .any ops n && decide (π.length + π'.length = ops.size) && π.all (fun x => decide (x.2 < n)) && π'.all (fun x => decide (x.2 < ops.size)) &&
  match schedB .any ops π (Array.replicate ops.size false) with
  | none => false
  | some l1 => (Region.ready .any ops l1).all (fun j => decide (n ≤ j)) && match schedB .any ops π' l1 with
    | none => false
    | some l2 => (Region.ready .any ops l2).isEmpty

theorem phaseB_all : phaseB md ops ops.size = true := by
  unfold phaseB
  refine List.all_eq_true.2 (fun j hj => ?_)
  simp [List.mem_range.1 hj]

/-- A region that draws its order, walked in one: its first phase (the operations below n) under S, the rest under no condition. -/
theorem wp_region_S {id : Nat} {l : List Oper} {a : Act} {w : World} (S : World → Prop) (n : Nat) (π π' : List (Bool × Nat)) (hm : P.follows .mixedOrders = true)
    (hB : planB l.toArray n π π' = true) (hS : S w.drew)
    (h : wpS P l.toArray (NoPanic Q) S (fun a' w' => wpS P l.toArray (NoPanic Q) (fun _ => True) (Q .normal) π' a' w') π a w.drew) : (Code.region id l.toArray true).wp P Q a w := by
  unfold planB at hB
  simp only [Bool.and_eq_true, decide_eq_true_eq] at hB
  obtain ⟨⟨⟨⟨⟨hn, hp⟩, hlen⟩, h1⟩, h2⟩, hB⟩ := hB
  split at hB
  · cases hB
  rename_i l1 hs1
  simp only [Bool.and_eq_true] at hB
  obtain ⟨hr1, hB⟩ := hB
  split at hB
  · cases hB
  rename_i l2 hs2
  have hempty : Region.ready .any l.toArray l2 = [] := by simpa using hB
  refine wp_region_noPanic (wp_region_any hm ?_)
  have H := wpPh_of_wpS (md := .any) (Q := NoPanic Q) hn (fun c a w h => h) hp (fin := l1) (fun j hj => by simpa using List.all_eq_true.1 hr1 j hj) π _ a w.drew hs1 h1 hS h
  have := wpAny_of_wpPh (md := .any) (g := π'.length) (fun listed' a' w' hc => by
    obtain ⟨rfl, hc⟩ := hc
    have H2 := wpPh_of_wpS (md := .any) (Q := NoPanic Q) (n := l.toArray.size) hn (fun c a w h => h) phaseB_all (fin := l2) (fun j hj => by rw [hempty] at hj; cases hj) π' listed' a' w' hs2 h2 trivial hc
    have := wpAny_of_wpPh (md := .any) (Q := NoPanic Q) (g := 0) (fun listed'' a'' w'' hc => by
      obtain ⟨rfl, hc⟩ := hc
      exact ⟨hempty, hc⟩) _ _ _ _ H2
    exact this) _ _ _ _ H
  rw [hlen] at this
  exact this

/-- The operations of a plan, written out. -/
def pick (l : List Oper) : List (Bool × Nat) → List (Bool × Option Oper)
  | [] => []
  | x :: r => (x.1, l[x.2]?) :: pick l r

/-- The walk over operations that are written out. -/
def wpL (P : Program) (ops : Array Oper) (Q : Exit → Act → World → Prop) (S : World → Prop) (C : Act → World → Prop) : List (Bool × Option Oper) → Act → World → Prop
  | [], a, w => C a w
  | (true, o) :: r, a, w => ∃ v o', o = some o' ∧ YieldsIf P ops S o' v a ∧ wpL P ops Q S C r (a.put o'.dst v) w
  | (false, o) :: r, a, w => ∃ o', o = some o' ∧ Region.wanted o' (yielded ops a.tmps) = true ∧ o'.wp P a w (fun a' w' => S w' ∧ wpL P ops Q S C r a' w') Q

theorem wpS_of_wpL {l : List Oper} {C' : Act → World → Prop} (hC : ∀ a w, C a w → C' a w) : ∀ (π : List (Bool × Nat)) (a : Act) (w : World), wpL P l.toArray Q S C (pick l π) a w → wpS P l.toArray Q S C' π a w
  | [], a, w, h => hC _ _ h
  | (true, i) :: r, a, w, h => by
    obtain ⟨v, o, ho, hy, h⟩ := h
    exact ⟨o, v, by simpa using ho, hy, wpS_of_wpL hC r _ _ h⟩
  | (false, i) :: r, a, w, h => by
    obtain ⟨o, ho, hg, h⟩ := h
    exact ⟨o, by simpa using ho, hg, Oper.wp_mono (fun a' w' h' => ⟨h'.1, wpS_of_wpL hC r _ _ h'.2⟩) h⟩

/-- 'wp_region_S', with the operations written out. -/
theorem wp_region_L {id : Nat} {l : List Oper} {a : Act} {w : World} (S : World → Prop) (n : Nat) (π π' : List (Bool × Nat)) (hm : P.follows .mixedOrders = true)
    (hB : planB l.toArray n π π' = true) (hS : S w.drew)
    (h : wpL P l.toArray (NoPanic Q) S (fun a' w' => wpL P l.toArray (NoPanic Q) (fun _ => True) (Q .normal) (pick l π') a' w') (pick l π) a w.drew) : (Code.region id l.toArray true).wp P Q a w :=
  wp_region_S S n π π' hm hB hS (wpS_of_wpL (fun _ _ h => wpS_of_wpL (fun _ _ h => h) _ _ _ h) _ _ _ h)

section
variable {r : List (Bool × Option Oper)} {a : Act} {w : World} {o : Oper} {v : Value}

theorem wpL_nil (h : C a w) : wpL P ops Q S C [] a w := h

theorem wpL_yield (hg : o.guard = none) (hy : ∀ w, S w → (execOp a.eval o).run P w = .ok (.value v) w)
    (h : wpL P ops Q S C r (a.put o.dst v) w) : wpL P ops Q S C ((true, some o) :: r) a w :=
  ⟨v, o, rfl, .inl ⟨by simp [Region.wanted, hg], hy⟩, h⟩

theorem wpL_skip (hg : Region.wanted o (yielded ops a.tmps) = false)
    (h : wpL P ops Q S C r (a.put o.dst undef) w) : wpL P ops Q S C ((true, some o) :: r) a w :=
  ⟨undef, o, rfl, .inr ⟨hg, rfl⟩, h⟩

theorem wpL_guarded (hg : Region.wanted o (yielded ops a.tmps) = true) (hy : ∀ w, S w → (execOp a.eval o).run P w = .ok (.value v) w)
    (h : wpL P ops Q S C r (a.put o.dst v) w) : wpL P ops Q S C ((true, some o) :: r) a w :=
  ⟨v, o, rfl, .inl ⟨hg, hy⟩, h⟩

theorem wpL_eff (hg : o.guard = none) (h : o.wp P a w (fun a' w' => S w' ∧ wpL P ops Q S C r a' w') Q) : wpL P ops Q S C ((false, some o) :: r) a w :=
  ⟨o, rfl, by simp [Region.wanted, hg], h⟩

theorem wpL_effG (hg : Region.wanted o (yielded ops a.tmps) = true) (h : o.wp P a w (fun a' w' => S w' ∧ wpL P ops Q S C r a' w') Q) : wpL P ops Q S C ((false, some o) :: r) a w :=
  ⟨o, rfl, hg, h⟩

theorem exec_convert {ss dd : TypeId} {x : Operand} {u : Value} (ho : o.op = .convert ss dd x) (hx : a.eval x = v) (hrun : (convert ss dd v).run P w = .ok u w) : (execOp a.eval o).run P w = .ok (.value u) w := by
  unfold execOp
  simp only [ho, hx, Sem.run_bind, hrun, Result.andThen_ok, Sem.run_pure]

/-- An effect that only reads. -/
theorem wp_of_run {K : Act → World → Prop} (hrun : (execOp a.eval o).run P w = .ok (.value v) w) (h : K (a.put o.dst v) w) : o.wp P a w K Q := by
  unfold Oper.wp
  rw [hrun]
  exact h

theorem wpL_load_mid (ty : TypeId) (x : Operand) (hg : o.guard = none) (ho : o.op = .load ty x) (b off : Nat) (hx : a.eval x = .pointer (some ⟨b, off, none⟩))
    (cs : List Value) (d : TypeDesc) (hc : ∀ w, S w → w.rangeAt b off cs) (hu : P.underlying ty = some d) (hd : d.isRow = true) (hz : (P.info? ty).map (·.size) = some cs.length)
    (h : wpL P ops Q S C r (a.put o.dst (.agg cs.toArray)) w) : wpL P ops Q S C ((true, some o) :: r) a w := by
  refine wpL_yield hg (fun w' hS => ?_) h
  unfold execOp
  simp only [ho, hx, Instr.loadAt, Instr.sureAddr, Sem.run_bind, Sem.run_pure, Result.andThen_ok, run_loadVar_mid w' b off ty cs d (hc w' hS) hu hd hz]

theorem wpL_build (t : TypeId) (ps : Array (Nat × Operand)) (vs : Array (Nat × Value)) (hg : o.guard = none) (ho : o.op = .build t ps)
    (hv : ps.toList.map (fun p => (p.1, a.eval p.2)) = vs.toList) (hrun : ∀ w, (Instr.build t vs).run P w = .ok v w) (h : wpL P ops Q S C r (a.put o.dst v) w) : wpL P ops Q S C ((true, some o) :: r) a w := by
  refine wpL_yield hg (fun w' hS => ?_) h
  have hv' : (ps.map fun (j, x) => (j, a.eval x)) = vs := Array.toList_inj.1 (by rw [Array.toList_map]; exact hv)
  unfold execOp
  simp only [ho, hv', Sem.run_bind, hrun, Result.andThen_ok, Sem.run_pure]

theorem wpL_buildSlice {w' : World} (t : TypeId) (n : Nat) (ps : Array (Nat × Operand)) (vs : Array (Nat × Value)) (hg : o.guard = none) (ho : o.op = .buildSlice t n ps)
    (hv : ps.toList.map (fun p => (p.1, a.eval p.2)) = vs.toList) (hrun : (Instr.buildSlice t n vs).run P w = .ok v w') (hS : S w') (h : wpL P ops Q S C r (a.put o.dst v) w') : wpL P ops Q S C ((false, some o) :: r) a w := by
  refine wpL_eff hg ?_
  have hv' : (ps.map fun (j, x) => (j, a.eval x)) = vs := Array.toList_inj.1 (by rw [Array.toList_map]; exact hv)
  unfold Oper.wp execOp
  simp only [ho, hv', Sem.run_bind, hrun, Result.andThen_ok, Sem.run_pure, Oper.upon]
  exact ⟨hS, h⟩

/-- A store of one cell. -/
theorem wpL_store {b i : Nat} {u' : World} (ty : TypeId) (x y : Operand) (hg : o.guard = none) (ho : o.op = .store ty x y) (hx : a.eval x = .pointer (some ⟨b, i, none⟩)) (hy : a.eval y = v)
    (hrun : (Instr.storeAt ty (.pointer (some ⟨b, i, none⟩)) v).run P w = .ok () u') (hS : S u') (h : wpL P ops Q S C r (a.put o.dst undef) u') : wpL P ops Q S C ((false, some o) :: r) a w := by
  refine wpL_eff hg ?_
  unfold Oper.wp execOp
  simp only [ho, hx, hy, Sem.run_bind, hrun, Result.andThen_ok, Sem.run_pure, Oper.upon]
  exact ⟨hS, h⟩
end

end

/-! ### Filling a struct or an array out of parts -/
theorem foldl_set_append (off : Nat) : ∀ (vs : List Value) (j : Nat) (cs : Array Value), off + j + vs.length ≤ cs.size →
    ((vs.zipIdx j).foldl (fun cs (p : Value × Nat) => cs.setIfInBounds (off + p.2) p.1) cs).toList = cs.toList.take (off + j) ++ vs ++ cs.toList.drop (off + j + vs.length)
  | [], j, cs, _ => by simp
  | v :: vs, j, cs, h => by
    simp only [List.length_cons] at h
    simp only [List.zipIdx_cons, List.foldl_cons]
    rw [foldl_set_append off vs (j + 1) (cs.setIfInBounds (off + j) v) (by simp; omega)]
    simp only [Array.toList_setIfInBounds, List.length_cons]
    rw [← Nat.add_assoc off j 1, List.take_succ_eq_append_getElem (by simp; omega), List.take_set_of_le (by omega), List.drop_set_of_lt (by omega)]
    simp only [List.getElem_set_self, List.append_assoc, List.cons_append, List.nil_append]
    rw [show off + j + 1 + vs.length = off + j + (vs.length + 1) by omega]

theorem fill_one (place : Nat → Option (Nat × Nat)) (cells : Array Value) (i : Nat) (v : Value) (rest : List (Nat × Value)) (off size : Nat) (hp : place i = some (off, size)) (hs : v.cells.size = size) (hf : off + size ≤ cells.size) :
    Instr.fill place cells ((i, v) :: rest) = Instr.fill place (cells.toList.take off ++ v.cells.toList ++ cells.toList.drop (off + size)).toArray rest := by
  have h1 := foldl_set_append off v.cells.toList 0 cells (by simp [hs]; omega)
  simp only [Nat.add_zero, Array.length_toList, hs] at h1
  have h2 : (v.cells.zipIdx.foldl (fun cs (p : Value × Nat) => cs.setIfInBounds (off + p.2) p.1) cells) = (cells.toList.take off ++ v.cells.toList ++ cells.toList.drop (off + size)).toArray := by
    apply Array.toList_inj.1
    rw [← Array.foldl_toList, Array.toList_zipIdx]
    exact h1
  simp only [Instr.fill, hp]
  rw [if_neg (by simp [hs]; omega)]
  rw [← h2]

section
variable {P : Program} {w : World}

theorem run_build_struct {t : TypeId} {fields : Array Field} {z : Value} {places : Array (Nat × Nat)} {parts : Array (Nat × Value)} {cells : Array Value} (hz : (zeroValue t).run P w = .ok z w) (hu : P.underlying t = some (.struct fields))
    (hp : (fields.mapM (fun f => do pure (f.offset, ← sizeOf f.type) : Field → Sem (Nat × Nat))).run P w = .ok places w) (hf : Instr.fill (places[·]?) z.cells parts.toList = some cells) :
    (Instr.build t parts).run P w = .ok (.agg cells) w := by
  unfold Instr.build
  simp only [Sem.run_bind, hz, Result.andThen_ok, run_underlying hu, hp, hf, Sem.run_pure]

theorem run_buildSlice_one {t e : TypeId} {size : Nat} {z v : Value} (ht : P.underlying t = some (.slice e)) (hi : (P.info? e).map (·.size) = some size) (h0 : 0 < size) (h1 : size ≤ 2 ^ 24) (hz : (zeroValue e).run P w = .ok z w) (hzs : z.cells.size = size)
    (hv : v.cells.size = size) : (Instr.buildSlice t 1 #[(0, v)]).run P w = .ok (.slice (some ⟨w.heap.size, 0, none⟩) 1 1) (w.alloc (.cells v.cells e)) := by
  cases hq : P.info? e with
  | none => simp [hq] at hi
  | some i =>
    have hs : i.size = size := by simpa [hq] using hi
    have hfill : Instr.fill (fun i => some (i * size, size)) ((Array.range (1 * size)).map (fun j => z.cells[j % z.cells.size]!)) [(0, v)] = some v.cells := by
      rw [fill_one _ _ 0 v [] 0 size (by simp) hv (by simp)]
      simp [Instr.fill, List.drop_of_length_le, List.length_map, List.length_range]
    unfold Instr.buildSlice
    have hso : (sizeOf e).run P w = .ok size w := by simp [sizeOf, typeInfo, hq, hs, Result.andThen]
    simp only [Nat.one_mul] at hfill
    have h2 : ¬ size > 2 ^ 24 := by omega
    have h3 : ¬ size = 0 := by omega
    simp only [Sem.run_bind, run_underlying ht, Result.andThen_ok, hso, Nat.one_mul, h2, h3, if_false, hz, Sem.run_pure, hfill]
    simp [newRow, newObj, Sem.run, Result.andThen]
end

end Go.Proofs.YtcggloceabjjdaaGreat

/- Walks of the disk's functions, part 2: Write; no condition. -/
namespace Go.Proofs.YtcggloceabjjdaaGreat
open Go.RowKit Go.MapKept

theorem u_sector : Tryz.prog.underlying 86 = some (.array 64 5) := by kernel_rfl

theorem u_int : Tryz.prog.underlying 3 = some (.int .i64) := by kernel_rfl
theorem u_secmap : Tryz.prog.underlying 81 = some (.map 3 86) := by kernel_rfl
theorem i_sector : (Tryz.prog.info? 86).map (·.size) = some 64 := by kernel_rfl

theorem u_waits : Tryz.prog.underlying 82 = some (.slice 89) := by kernel_rfl
theorem i_write : (Tryz.prog.info? 89).map (fun i => (i.zero, i.size, i.bytes)) = some (some (.agg (.int .i64 0 :: cellsV zeroSec).toArray), 65, 72) := by kernel_rfl
theorem s_write : (Tryz.prog.info? 89).map (fun i => i.size) = some 65 := by kernel_rfl
theorem z_write (w : World) : (zeroValue 89).run Tryz.prog w = .ok (.agg (.int .i64 0 :: cellsV zeroSec).toArray) w := by kernel_rfl
noncomputable def f_write : Array Field := match Tryz.prog.underlying 89 with | some (.struct fs) => fs | _ => #[]
theorem u_write : Tryz.prog.underlying 89 = some (.struct f_write) := by kernel_rfl
theorem p_write (w : World) : (f_write.mapM (fun f => do pure (f.offset, ← sizeOf f.type) : Field → Sem (Nat × Nat))).run Tryz.prog w = .ok #[(0, 1), (1, 64)] w := by kernel_rfl

/-- A write, made of its place and its bytes. -/
theorem build_write (x : Int) (l : List UInt8) (hl : l.length = 64) (w : World) :
    (Instr.build 89 #[(0, .int .i64 x), (1, .agg (cellsV l).toArray)]).run Tryz.prog w = .ok (.agg (.int .i64 x :: cellsV l).toArray) w := by
  refine run_build_struct (z_write w) u_write (p_write w) ?_
  have e : (Value.agg (.int .i64 0 :: cellsV zeroSec).toArray).cells = (.int .i64 0 :: cellsV zeroSec).toArray := rfl
  rw [e, fill_one _ _ 0 _ _ 0 1 rfl rfl (by simp), fill_one _ _ 1 _ _ 1 64 rfl (by simp [Value.cells, hl]) (by simp [zeroSec, Value.cells])]
  simp [Instr.fill, Value.cells, zeroSec]

theorem ne_nil_of_64 {l : List UInt8} (h : l.length = 64) : l ≠ [] := by intro e; simp [e] at h

set_option maxRecDepth 100000 in
set_option maxHeartbeats 400000 in
theorem write_tail {p : Nat} {d : DiskM} {R : Assn} {w : World} (h : Bears w (diskA p d * R)) (i : Nat) (l : List UInt8) (ad : Option Addr) (cap : Nat) (hi : i < d.len) (hl : l.length = 64)
    (hb : R.Tells (fun w => BytesIn w (.slice ad l.length cap) l)) (hck : d.check (i : Int) = 0) (hst : d.step.1 = 0) (hroom : d.step.2.waits.length < 1099511627776) (hlen2 : d.step.2.len = d.len) :
    Calls Tryz.prog 71 #[.pointer (some ⟨p, 0, none⟩), .int .i64 i, .slice ad l.length cap] w fun e w' => e = .returned (.int .i64 0) ∧
      Bears w' (diskA p { d.step.2 with waits := d.step.2.waits ++ [(i, l)] } * R) := by
  have hlen : ((l.length : Int) != 64) = false := by rw [hl]; rfl
  have hck' := Lib.hid hck
  have hst' := Lib.hid hst
  have hl' := Lib.hid hl
  clear hck hst hl
  go_enter Tryz.func71, Tryz.ntmps71
  go_wp2_with fail
  refine (check_any h _).mono ?_
  rintro e w' ⟨rfl, rfl⟩
  rw [hck'.out]
  go_wp2_with fail
  refine (step_any h).mono ?_
  rintro e w1 ⟨rfl, h1⟩
  rw [hst'.out]
  obtain ⟨b, o, rfl, hr⟩ := (hb _ h1.right).at (ne_nil_of_64 hl'.out)
  obtain ⟨ms, mn, wv, ls, ln, hwf, hs, hn, h2⟩ := Bears.disk.1 h1
  obtain ⟨hc, hf⟩ := disk_cells h2
  have c2 := hc 2
  have c3 := hc 3
  have f3 := hf 3
  simp at c2 c3
  clear hc hf
  go_wp2_with fail
  have hat := run_arrayAt (P := Tryz.prog) w1.drew 86 5 64 (some ⟨b, o, none⟩) l.length cap u_sector (by rw [hl'.out]; exact Nat.le_refl _)
  refine wp_region_tail 8 (by kernel_rfl) (by kernel_rfl) ?_
  simp only [List.take_succ_cons, List.take_zero, List.drop_succ_cons, List.drop_zero]
  iterate 7 still_step
  refine wpStill_load_mid _ _ rfl rfl b o rfl (cellsV l) _ hr u_sector rfl (by rw [length_cellsV, hl'.out]; exact i_sector) ?_
  refine wpStill_nil ?_
  have h3 := h2.drew.pull4
  refine wpList_mapUpdate_bears (val := secV l) h3 rfl rfl u_secmap u_int rfl rfl rfl ?_
  intro w2 h4
  clear hat c2 c3 f3 h2 h3 hr
  obtain ⟨b', o', he, hr⟩ := (hb _ h4.right.right.right.right).at (ne_nil_of_64 hl'.out)
  cases he
  have h5 := h4.pull2
  obtain ⟨hc, hf⟩ := disk_cells h5
  have c3 := hc 3
  have f3 := hf 3
  simp at c3
  clear hc hf
  go_wp2_with fail
  have hat := fun w => run_arrayAt (P := Tryz.prog) w 86 5 64 (some ⟨b, o, none⟩) l.length cap u_sector (by rw [hl'.out]; exact Nat.le_refl _)
  have hlt := World.block_lt_of_cell? w2 _ c3
  have hra := fun ob => rangeAt_alloc (rangeAt_drew hr) (by intro e; have := congrArg List.length e; rw [length_cellsV, hl'.out] at this; exact absurd this (by decide)) ob
  refine wp_region_L (fun w' => w'.cell? ⟨p, 3, none⟩ = some wv ∧ w'.rangeAt b o (cellsV l)) 12 [(true, 0), (true, 1), (true, 2), (true, 3), (true, 4), (true, 5), (true, 6), (true, 7), (true, 8), (true, 9), (false, 10), (false, 11)] [(true, 12), (true, 13), (false, 14)]
    (by kernel_rfl) (by kernel_rfl) ⟨c3, hr⟩ ?_
  simp only [pick, List.getElem?_cons_zero, List.getElem?_cons_succ]
  refine wpL_yield (v := ?_) rfl (fun w' hS => ?_) ?_
  rotate_left
  · (have s1 := hS.1; clear hS; go_simp; try with_reducible rfl)
  simp only [Act.put, List.setIfInBounds_toArray, List.set_cons_zero, List.set_cons_succ]
  refine wpL_yield (v := ?_) rfl (fun w' hS => ?_) ?_
  rotate_left
  · (have s1 := hS.1; clear hS; go_simp; try with_reducible rfl)
  simp only [Act.put, List.setIfInBounds_toArray, List.set_cons_zero, List.set_cons_succ]
  refine wpL_yield (v := ?_) rfl (fun w' hS => ?_) ?_
  rotate_left
  · (have s1 := hS.1; clear hS; go_simp; try with_reducible rfl)
  simp only [Act.put, List.setIfInBounds_toArray, List.set_cons_zero, List.set_cons_succ]
  refine wpL_yield (v := ?_) rfl (fun w' hS => ?_) ?_
  rotate_left
  · (have s1 := hS.1; clear hS; go_simp; try with_reducible rfl)
  simp only [Act.put, List.setIfInBounds_toArray, List.set_cons_zero, List.set_cons_succ]
  refine wpL_yield (v := ?_) rfl (fun w' hS => ?_) ?_
  rotate_left
  · (have s1 := hS.1; clear hS; go_simp; try with_reducible rfl)
  simp only [Act.put, List.setIfInBounds_toArray, List.set_cons_zero, List.set_cons_succ]
  refine wpL_yield (v := ?_) rfl (fun w' hS => ?_) ?_
  rotate_left
  · (have s1 := hS.1; clear hS; go_simp; try with_reducible rfl)
  simp only [Act.put, List.setIfInBounds_toArray, List.set_cons_zero, List.set_cons_succ]
  refine wpL_yield (v := ?_) rfl (fun w' hS => ?_) ?_
  rotate_left
  · (have s1 := hS.1; clear hS; go_simp; try with_reducible rfl)
  simp only [Act.put, List.setIfInBounds_toArray, List.set_cons_zero, List.set_cons_succ]
  refine wpL_yield (v := ?_) rfl (fun w' hS => ?_) ?_
  rotate_left
  · (have s1 := hS.1; clear hS; go_simp; try with_reducible rfl)
  simp only [Act.put, List.setIfInBounds_toArray, List.set_cons_zero, List.set_cons_succ]
  refine wpL_load_mid _ _ rfl rfl b o rfl (cellsV l) _ (fun w hS => hS.2) u_sector rfl (by rw [length_cellsV, hl'.out]; exact i_sector) ?_
  refine wpL_build _ _ #[(0, .int .i64 (i : Int)), (1, .agg (cellsV l).toArray)] rfl rfl rfl (build_write _ _ hl'.out) ?_
  obtain ⟨i0, hi0, hz0, hz1, hz2⟩ := info_parts i_write
  refine wpL_buildSlice _ _ _ #[(0, .agg (.int .i64 (i : Int) :: cellsV l).toArray)] rfl rfl rfl (run_buildSlice_one (size := 65) u_waits (by rw [hi0]; exact congrArg some hz1) (by decide) (by decide) (z_write _) (by simp [Value.cells, zeroSec]) (by simp [Value.cells, hl'.out])) ⟨(World.cell?_alloc_lt _ _ _ hlt).trans c3, hra _⟩ ?_
  have h6 := (h5.drew.alloc (.cells (.int .i64 (i : Int) :: cellsV l).toArray 89))
  have h7 := h6.pull4
  refine wpL_eff rfl (wp_append_bears h7 rfl u_waits hi0 hz0 hz1 hz2 (by simp [Value.cells, zeroSec]) (by decide) rfl (ad := ⟨w2.drew.heap.size, 0, none⟩) (m := 1) (c := 1) (news := .int .i64 (i : Int) :: cellsV l) rfl
    (by simp [hl'.out]) (World.news_of_block (cs := (.int .i64 (i : Int) :: cellsV l).toArray) h6.obj) (by intro u hu; simp only [List.mem_cons] at hu; rcases hu with rfl | hu; rfl; exact oneCell_cellsV l u hu) (by unfold maxLen; omega) (by omega) ?_)
  intro a' c' w3 h8
  have h9 := h8.pull3
  obtain ⟨hc', hf'⟩ := disk_cells h9
  have c3' := hc' 3
  have f3' := hf' 3
  simp at c3'
  obtain ⟨b', o', he, hr'⟩ := (hb _ h9.right.right.right.right.right).at (ne_nil_of_64 hl'.out)
  cases he
  refine ⟨⟨c3', hr'⟩, ?_⟩
  refine wpL_nil ?_
  clear hc' hf' hat hlt hra c3 f3
  simp only [Act.put, List.setIfInBounds_toArray, List.set_cons_zero, List.set_cons_succ]
  refine wpL_yield (v := ?_) rfl (fun w' hS => ?_) ?_
  rotate_left
  · (go_simp; try with_reducible rfl)
  simp only [Act.put, List.setIfInBounds_toArray, List.set_cons_zero, List.set_cons_succ]
  refine wpL_yield (v := ?_) rfl (fun w' hS => ?_) ?_
  rotate_left
  · (go_simp; try with_reducible rfl)
  simp only [Act.put, List.setIfInBounds_toArray, List.set_cons_zero, List.set_cons_succ]
  refine wpL_store _ _ _ rfl rfl rfl rfl (by go_simp; rfl) trivial ?_
  refine wpL_nil ?_
  go_wp2
  go_ret
  refine ⟨rfl, Bears.disk.2 ⟨ms, mn, .slice a' (d.step.2.waits.length + 1) c', ls, putL (i : Int) (secV l) ln, ⟨hwf.len, hwf.sure, ?_, hwf.fuse, hwf.steps⟩, hs, ?_, ?_⟩⟩
  · intro q hq
    simp only [List.mem_append, List.mem_singleton] at hq
    rcases hq with hq | rfl
    · exact hwf.waits q hq
    · exact ⟨by rw [hlen2]; exact hi, hl'.out⟩
  · show SecMap _ (settle d.step.2.sure (d.step.2.waits ++ [(i, l)]))
    rw [settle_append]
    exact hn.put i l
  · have h10 := (h9.setCell (i := 3) (.slice a' (d.step.2.waits.length + 1) c')).pull3.right
    refine h10.cast ?_
    simp [waitCells, diskObj]
    ac_rfl

theorem step_waits (d : DiskM) : d.step.2.waits = d.waits := by unfold DiskM.step; split <;> rfl
theorem step_len (d : DiskM) : d.step.2.len = d.len := by unfold DiskM.step; split <;> rfl
theorem step_sure (d : DiskM) : d.step.2.sure = d.sure := by unfold DiskM.step; split <;> rfl

end Go.Proofs.YtcggloceabjjdaaGreat

/- Walks of the disk's functions, part 3: Barrier; no condition. -/
namespace Go.Proofs.YtcggloceabjjdaaGreat
open Go.RowKit Go.MapKept

theorem waitCells_at (l : List (Nat × Sec)) (h : ∀ p ∈ l, p.2.length = 64) : ∀ (k : Nat) (hk : k < l.length), ((waitCells l).drop (k * 65)).take 65 = .int .i64 ((l[k].1 : Nat) : Int) :: cellsV l[k].2 := by
  induction l with
  | nil => intro k hk; simp at hk
  | cons p l ih =>
    intro k hk
    have hp := h p (by simp)
    have e : waitCells (p :: l) = (.int .i64 (p.1 : Int) :: cellsV p.2) ++ waitCells l := rfl
    rw [e]
    cases k with
    | zero =>
      rw [Nat.zero_mul, List.drop_zero, List.take_left' (by simp [hp])]
      rfl
    | succ k =>
      have e2 : (.int .i64 (p.1 : Int) :: cellsV p.2 : List Value).length = 65 := by simp [hp]
      rw [show (k + 1) * 65 = (.int .i64 (p.1 : Int) :: cellsV p.2 : List Value).length + k * 65 by omega, List.drop_append, List.drop_of_length_le (Nat.le_add_right _ _), Nat.add_sub_cancel_left, List.nil_append]
      exact ih (fun q hq => h q (by simp [hq])) k (by simpa using hk)

set_option maxRecDepth 100000 in
set_option maxHeartbeats 400000 in
theorem barrier_yes {p : Nat} {d : DiskM} {R : Assn} {w : World} (h : Bears w (diskA p d * R)) (ho : d.off = false) (hst : d.step.1 = 0) (hroom : d.waits.length < 1099511627776) :
    Calls Tryz.prog 72 #[.pointer (some ⟨p, 0, none⟩)] w fun e w' => e = .returned (.int .i64 0) ∧ Bears w' (diskA p { d.step.2 with sure := d.now, waits := [] } * R) := by
  obtain ⟨ms, mn, wv, ls, ln, hwf, hs, hn, h0⟩ := Bears.disk.1 h
  obtain ⟨hc, hf⟩ := disk_cells h0
  have c4 := hc 4
  simp [ho] at c4
  clear hc hf
  have Hst := Lib.hid hst
  clear hst
  go_enter Tryz.func72, Tryz.ntmps72
  go_wp2_with fail
  refine (step_any h).mono ?_
  rintro e w1 ⟨rfl, h1⟩
  rw [Hst.out]
  clear c4 hs hn h0 h hwf
  have hroom2 : d.step.2.waits.length < 1099511627776 := by rw [step_waits]; exact hroom
  have hnow : d.step.2.now = d.now := by unfold DiskM.now; rw [step_waits, step_sure]
  have Hnow := Lib.hid hnow
  clear hnow
  obtain ⟨ms, mn, wv, ls, ln, hwf, hs, hn, h2⟩ := Bears.disk.1 h1
  obtain ⟨hc, hf⟩ := disk_cells h2
  have c3 := hc 3
  simp at c3
  clear hc hf
  obtain ⟨a, c, rfl, hnc, hcm, hrow⟩ := h2.pull2.rowForm
  go_wp2_with fail
  go_loopw [20] (fun i wr => ∃ k : Nat, k ≤ d.step.2.waits.length ∧ i = .int .i64 k ∧ ∃ ls', SecMap ls' (settle d.step.2.sure (d.step.2.waits.take k)) ∧
      Bears wr (diskObj p d.step.2 ms mn (.slice a d.step.2.waits.length c) * (rowA 89 65 (.slice a d.step.2.waits.length c) d.step.2.waits.length (waitCells d.step.2.waits) * (mapA ms ls' * (mapA mn ln * R)))))
    (fun i _ => d.step.2.waits.length - (intOf i).toNat)
  case atStart => exact ⟨0, Nat.zero_le _, rfl, ls, hs, h2⟩
  case round =>
    obtain ⟨k, hk, rfl, ls', hs', h3⟩ := hrel
    by_cases hlt : k < d.step.2.waits.length
    · obtain ⟨g, rfl, hr⟩ := h3.pull2.rowAt hlt
      rw [waitCells_at _ (fun q hq => (hwf.waits q hq).2) k hlt] at hr
      have hp := (hwf.waits _ (List.getElem_mem hlt)).2
      have i1 : Option.map (fun x => x.size) (Tryz.prog.info? 89) = some (Value.int .i64 ((d.step.2.waits[k].1 : Nat) : Int) :: cellsV d.step.2.waits[k].2).length := by
        rw [List.length_cons, length_cellsV, hp]; exact s_write
      have o1 : ∀ v ∈ (Value.int .i64 ((d.step.2.waits[k].1 : Nat) : Int) :: cellsV d.step.2.waits[k].2).toArray.toList, v.oneCell' = true := by
        intro v hv
        simp only [List.mem_cons] at hv
        rcases hv with rfl | hv
        · rfl
        · exact oneCell_cellsV _ _ hv
      have z1 : (Value.int .i64 ((d.step.2.waits[k].1 : Nat) : Int) :: cellsV d.step.2.waits[k].2).toArray.size = (Value.agg (Value.int .i64 0 :: cellsV zeroSec).toArray).cells.size := by
        simp [Value.cells, hp, zeroSec]
      have z2 : Option.map (fun x => x.size) (Tryz.prog.info? 89) = some (Value.agg (Value.int .i64 0 :: cellsV zeroSec).toArray).cells.size := by
        simp only [Value.cells]; exact s_write
      go_wp2_with (first
        | (refine wpList_load_mid rfl 89 _ rfl g (k * 65) rfl _ _ hr u_write rfl i1 ?_)
        | (refine wpList_alloc_z rfl rfl (z_write _) ?_)
        | (refine wpList_store_obj (h3.alloc _) rfl rfl rfl rfl z1 z2 o1 ?_; intro w2 h4))
      obtain ⟨hc, _⟩ := disk_cells h4.pull2
      have c1 := hc 1
      simp at c1
      have c5 := cell_of_obj h4.obj 0
      simp at c5
      have hr5 : w2.drew.rangeAt wr.heap.size 1 (cellsV d.step.2.waits[k].2) := rangeAt_tail (o := 0) (rangeAt_of_obj h4.obj)
      clear hc
      refine wp_region_tail 8 (by kernel_rfl) (by kernel_rfl) ?_
      simp only [List.take_succ_cons, List.take_zero, List.drop_succ_cons, List.drop_zero]
      iterate 7 still_step
      refine wpStill_load_mid _ _ rfl rfl wr.heap.size 1 rfl (cellsV d.step.2.waits[k].2) _ hr5 u_sector rfl (by rw [length_cellsV, hp]; exact i_sector) ?_
      refine wpStill_nil ?_
      refine wpList_mapUpdate_bears (val := secV d.step.2.waits[k].2) h4.drew.pull4 rfl rfl u_secmap u_int rfl rfl rfl ?_
      intro w3 h5
      clear c1 c5 hr5 h4 h3 hr
      go_wp2
      go_roundw
      case rel =>
        refine ⟨k + 1, hlt, by go_num, _, ?_, h5.pull2.right.pull3.pull3.cast (by ac_rfl)⟩
        rw [List.take_succ_eq_append_getElem hlt, settle_append]
        exact hs'.put _ _
      case measure => simp [intOf]; omega
    · obtain rfl : k = d.step.2.waits.length := by omega
      obtain ⟨hc, hf⟩ := disk_cells h3
      have c3' := hc 3
      have f3' := hf 3
      simp at c3'
      clear hc hf c3 h2
      go_wp2
      go_ret
      rw [List.take_length] at hs'
      have h4 := (h3.setCell (i := 3) (.slice none 0 0)).pull2.right
      have hx : settle d.step.2.sure d.step.2.waits = d.now := Hnow.out
      rw [hx] at hs'
      refine ⟨rfl, Bears.disk.2 ⟨ms, mn, .slice none 0 0, ls', ln, ⟨hwf.len, fun i => ?_, by simp, hwf.fuse, hwf.steps⟩, hs', ?_, ?_⟩⟩
      · show (d.now i).length = 64
        rw [← hx]
        exact settle_length hwf.sure (fun q hq => (hwf.waits q hq).2) i
      · show SecMap ln d.now
        rw [← hx]
        exact hn
      · exact (Bears.pull2 ((Bears.nilRow (e := 89) (size := 65)).2 h4)).cast (by simp [diskObj, waitCells])

theorem step_zero (d : DiskM) (h : d.step.1 = 0) : d.step.2.off = d.off := by
  unfold DiskM.step at h ⊢
  by_cases h0 : d.fuse = 0
  · simp [h0] at h
  · simp [h0]

set_option maxHeartbeats 400000 in
theorem barrier_any {p : Nat} {d : DiskM} {R : Assn} {w : World} (h : Bears w (diskA p d * R)) (hroom : d.waits.length < 1099511627776) :
    Calls Tryz.prog 72 #[.pointer (some ⟨p, 0, none⟩)] w fun e w' => e = .returned (.int .i64 d.barrier.1) ∧ Bears w' (diskA p d.barrier.2 * R) := by
  by_cases ho : d.off = true
  · obtain ⟨ms, mn, wv, ls, ln, hwf, hs, hn, h0⟩ := Bears.disk.1 h
    obtain ⟨hc, hf⟩ := disk_cells h0
    have c4 := hc 4
    simp [ho] at c4
    clear hc hf
    have hfin : d.barrier = (2, d) := by simp [DiskM.barrier, ho]
    rw [hfin]
    have Ho := Lib.hid ho
    clear ho hfin
    go_enter Tryz.func72, Tryz.ntmps72
    go_wp2
    go_ret
    exact ⟨rfl, h⟩
  · have ho : d.off = false := by simpa using ho
    by_cases hst : d.step.1 = 0
    · have hfin : d.barrier = (0, { d.step.2 with sure := d.now, waits := [] }) := by simp [DiskM.barrier, ho, hst]
      rw [hfin]
      exact barrier_yes h ho hst hroom
    · have hfin : d.barrier = d.step := by simp [DiskM.barrier, ho, hst]
      rw [hfin]
      have hst' : (d.step.1 != 0) = true := by simpa using hst
      obtain ⟨ms, mn, wv, ls, ln, hwf, hs, hn, h0⟩ := Bears.disk.1 h
      obtain ⟨hc, hf⟩ := disk_cells h0
      have c4 := hc 4
      simp [ho] at c4
      clear hc hf hfin hst hs hn h0 hwf
      go_enter Tryz.func72, Tryz.ntmps72
      go_wp2_with fail
      refine (step_any h).mono ?_
      rintro e w1 ⟨rfl, h1⟩
      go_wp2
      go_ret
      exact ⟨rfl, h1⟩

set_option maxHeartbeats 400000 in
theorem write_any {p : Nat} {d : DiskM} {R : Assn} {w : World} (h : Bears w (diskA p d * R)) (i : Int) (l : List UInt8) (ad : Option Addr) (cap : Nat)
    (hb : R.Tells (fun w => BytesIn w (.slice ad l.length cap) l)) (hroom : d.waits.length < 1099511627776) :
    Calls Tryz.prog 71 #[.pointer (some ⟨p, 0, none⟩), .int .i64 i, .slice ad l.length cap] w fun e w' => e = .returned (.int .i64 (d.write i l).1) ∧ Bears w' (diskA p (d.write i l).2 * R) := by
  by_cases hck : d.check i = 0
  · by_cases hl : l.length = 64
    · by_cases hst : d.step.1 = 0
      · have h0 : 0 ≤ i ∧ i < d.len := by
          unfold DiskM.check at hck
          split at hck
          · simp at hck
          · split at hck
            · simp at hck
            · omega
        obtain ⟨n, rfl⟩ := Int.eq_ofNat_of_zero_le h0.1
        have hfin : d.write (n : Int) l = (0, { d.step.2 with waits := d.step.2.waits ++ [(n, l)] }) := by
          simp only [DiskM.write, hck, hl, hst, step_waits]
          simp
        rw [hfin]
        exact write_tail h n l ad cap (by omega) hl hb hck hst (by rw [step_waits]; exact hroom) (step_len d)
      · have hfin : d.write i l = d.step := by simp [DiskM.write, hck, hl, hst]
        rw [hfin]
        have hst' : (d.step.1 != 0) = true := by simpa using hst
        have hlen : ((l.length : Int) != 64) = false := by rw [hl]; rfl
        have hck' := Lib.hid hck
        clear hfin hst hl hb hck
        go_enter Tryz.func71, Tryz.ntmps71
        go_wp2_with fail
        refine (check_any h _).mono ?_
        rintro e w' ⟨rfl, rfl⟩
        rw [hck'.out]
        go_wp2_with fail
        refine (step_any h).mono ?_
        rintro e w1 ⟨rfl, h1⟩
        go_wp2
        go_ret
        exact ⟨rfl, h1⟩
    · have hfin : d.write i l = (11, d) := by simp [DiskM.write, hck, hl]
      rw [hfin]
      have hlen : ((l.length : Int) != 64) = true := by rw [bne_iff_ne]; omega
      have hck' := Lib.hid hck
      clear hfin hl hb hck
      go_enter Tryz.func71, Tryz.ntmps71
      go_wp2_with fail
      refine (check_any h _).mono ?_
      rintro e w' ⟨rfl, rfl⟩
      rw [hck'.out]
      go_wp2
      go_ret
      exact ⟨rfl, h⟩
  · have hfin : d.write i l = (d.check i, d) := by simp [DiskM.write, hck]
    rw [hfin]
    have hck' : (d.check i != 0) = true := by simpa using hck
    clear hfin hb hck
    go_enter Tryz.func71, Tryz.ntmps71
    go_wp2_with fail
    refine (check_any h _).mono ?_
    rintro e w' ⟨rfl, rfl⟩
    go_wp2
    go_ret
    exact ⟨rfl, h⟩

end Go.Proofs.YtcggloceabjjdaaGreat

/- Walks of the disk's functions, part 4: Read, New, small ones; no condition. -/
namespace Go.Proofs.YtcggloceabjjdaaGreat
open Go.RowKit Go.MapKept

theorem z_sector (w : World) : (zeroValue 86).run Tryz.prog w = .ok (secV zeroSec) w := by kernel_rfl

theorem check_range {d : DiskM} {i : Int} (h : d.check i = 0) : d.off = false ∧ 0 ≤ i ∧ i < d.len := by
  unfold DiskM.check at h
  split at h
  · simp at h
  · split at h
    · simp at h
    · rename_i h1 h2
      exact ⟨by simpa using h1, by omega, by omega⟩

theorem DiskM.WF.now {d : DiskM} (h : d.WF) (i : Nat) : (d.now i).length = 64 := settle_length h.sure (fun q hq => (h.waits q hq).2) i

set_option maxHeartbeats 400000 in
theorem read_ok {p : Nat} {d : DiskM} {R : Assn} {w : World} (h : Bears w (diskA p d * R)) (i : Nat) (hck : d.check (i : Int) = 0) :
    Calls Tryz.prog 38 #[.pointer (some ⟨p, 0, none⟩), .int .i64 i] w fun e w' => ∃ g, e = .returned (.tuple #[.slice (some ⟨g, 0, none⟩) 64 64, .int .i64 0]) ∧
      Bears w' (Assn.obj g (.cells (cellsV (d.now i)).toArray 86 (0, 0)) * (diskA p d * R)) := by
  obtain ⟨ms, mn, wv, ls, ln, hwf, hs, hn, h0⟩ := Bears.disk.1 h
  obtain ⟨hc, hf⟩ := disk_cells h0
  have c2 := hc 2
  simp at c2
  clear hc hf
  have hl := hwf.now i
  have z1 : (cellsV (d.now i)).toArray.size = (secV zeroSec).cells.size := by simp [Value.cells, secV, hl, zeroSec]
  have z2 : Option.map (fun x => x.size) (Tryz.prog.info? 86) = some (secV zeroSec).cells.size := i_sector
  have hck' := Lib.hid hck
  have hn' := Lib.hid (hn i)
  clear hck hl
  go_enter Tryz.func38, Tryz.ntmps38
  go_wp2_with fail
  refine (check_any h _).mono ?_
  rintro e w' ⟨rfl, rfl⟩
  rw [hck'.out]
  go_wp2_with (first
    | (at_lookup; refine wpList_lookup_bears h0.pull4 rfl rfl u_secmap u_int (z_sector _) rfl rfl ?_; rw [hn'.out])
    | (refine wpList_alloc_z rfl rfl (z_sector _) ?_)
    | (refine wpList_store_obj (cs := (cellsV (d.now i)).toArray) (h.alloc _) rfl rfl rfl rfl z1 z2 (by simpa using oneCell_cellsV (d.now i)) ?_; intro w2 h4))
  go_ret2
  exact ⟨_, rfl, h4⟩

set_option maxHeartbeats 400000 in
theorem read_no {p : Nat} {d : DiskM} {R : Assn} {w : World} (h : Bears w (diskA p d * R)) (i : Int) (hck : d.check i ≠ 0) :
    Calls Tryz.prog 38 #[.pointer (some ⟨p, 0, none⟩), .int .i64 i] w fun e w' => e = .returned (.tuple #[.slice none 0 0, .int .i64 (d.check i)]) ∧ w = w' := by
  have hck' : (d.check i != 0) = true := by simpa using hck
  clear hck
  go_enter Tryz.func38, Tryz.ntmps38
  go_wp2_with fail
  refine (check_any h _).mono ?_
  rintro e w' ⟨rfl, rfl⟩
  go_wp2
  go_ret2
  exact ⟨rfl, rfl⟩

set_option maxHeartbeats 400000 in
theorem len_any {p : Nat} {d : DiskM} {R : Assn} {w : World} (h : Bears w (diskA p d * R)) :
    Calls Tryz.prog 37 #[.pointer (some ⟨p, 0, none⟩)] w fun e w' => e = .returned (.int .i64 d.len) ∧ w = w' := by
  obtain ⟨ms, mn, wv, ls, ln, hwf, hs, hn, h0⟩ := Bears.disk.1 h
  have c0 := (disk_cells h0).1 0
  simp at c0
  go_enter Tryz.func37, Tryz.ntmps37
  go_wp2
  go_ret
  exact ⟨rfl, rfl⟩

set_option maxHeartbeats 400000 in
theorem fuse_any {p : Nat} {d : DiskM} {R : Assn} {w : World} (h : Bears w (diskA p d * R)) (n : Int) (hn0 : n < 9223372036854775808) :
    Calls Tryz.prog 20 #[.pointer (some ⟨p, 0, none⟩), .int .i64 n] w fun e w' => e = .returned (.tuple #[]) ∧ Bears w' (diskA p (d.setFuse n) * R) := by
  obtain ⟨ms, mn, wv, ls, ln, hwf, hs, hn, h0⟩ := Bears.disk.1 h
  have c4 := (disk_cells h0).1 4
  have c5 := (disk_cells h0).1 5
  have f5 := (disk_cells h0).2 5
  simp at c4 c5
  by_cases ho : d.off = true
  · have hfin : d.setFuse n = d := by simp [DiskM.setFuse, ho]
    rw [hfin]
    clear hfin
    go_enter Tryz.func20, Tryz.ntmps20
    go_wp2
    go_end0
    exact ⟨rfl, h⟩
  · have ho : d.off = false := by simpa using ho
    have hfin : d.setFuse n = { d with fuse := max n (-1) } := by simp [DiskM.setFuse, ho]
    rw [hfin]
    have Hn := Lib.hid hn0
    clear hfin hn0
    go_enter Tryz.func20, Tryz.ntmps20
    go_wp2
    all_goals
      go_end0
      have := Hn.out
      refine ⟨rfl, Bears.disk.2 ⟨ms, mn, wv, ls, ln, ⟨hwf.len, hwf.sure, hwf.waits, ⟨by simp only; omega, by simp only; omega⟩, hwf.steps⟩, hs, hn, ?_⟩⟩
      first
        | (have hm : max n (-1) = n := by omega
           rw [hm]; exact (h0.setCell (i := 5) _).cast (by simp [diskObj, ho]))
        | (have hm : max n (-1) = -1 := by omega
           rw [hm]; exact (h0.setCell (i := 5) _).cast (by simp [diskObj, ho]))

set_option maxHeartbeats 400000 in
theorem new_ok {R : Assn} {w : World} (h : Bears w R) (n : Nat) (h1 : 1 ≤ n) (h2 : n ≤ 8192) :
    Calls Tryz.prog 33 #[.int .i64 n] w fun e w' => ∃ p, e = .returned (.tuple #[.pointer (some ⟨p, 0, none⟩), .int .i64 0]) ∧ Bears w' (diskA p (DiskM.new n) * R) := by
  have hmm := @run_makeMap Tryz.prog
  go_enter Tryz.func33, Tryz.ntmps33
  go_wp2
  go_ret2
  refine ⟨w.heap.size + 1 + 1, rfl, Bears.disk.2 ⟨w.heap.size, w.heap.size + 1, .slice none 0 0, [], [], ⟨h2, fun _ => rfl, by simp [DiskM.new], by simp [DiskM.new], by simp [DiskM.new]⟩, SecMap.nil, SecMap.nil, ?_⟩⟩
  have h3 := (h.alloc (.map #[] 0)).toMapA (l := []) ⟨rfl, stamped_empty 0⟩
  have h4 := (h3.alloc (.map #[] 0)).toMapA (l := []) ⟨rfl, stamped_empty 0⟩
  have h5 := h4.alloc (.cells #[.int .i64 (n : Int), .map (some w.heap.size), .map (some (w.heap.size + 1)), .slice none 0 0, .bool false, .int .i64 (-1), .int .i64 0] 84)
  have h6 := Bears.pull2 ((Bears.nilRow (e := 89) (size := 65)).2 h5)
  exact h6.cast (by simp [diskObj, waitCells, DiskM.new]; ac_rfl)

theorem new_no (w : World) (n : Int) (h1 : n < 1 ∨ 8192 < n) :
    Calls Tryz.prog 33 #[.int .i64 n] w fun e w' => e = .returned (.tuple #[.pointer none, .int .i64 1]) ∧ w = w' := by
  rcases h1 with h1 | h1
  · go_enter Tryz.func33, Tryz.ntmps33
    go_wp2
    go_ret2
    exact ⟨rfl, rfl⟩
  · have h2 : ¬ n < 1 := by omega
    go_enter Tryz.func33, Tryz.ntmps33
    go_wp2
    go_ret2
    exact ⟨rfl, rfl⟩

end Go.Proofs.YtcggloceabjjdaaGreat

/- Walks of the disk's functions, part 5: Boot, Clone; no condition. -/
namespace Go.Proofs.YtcggloceabjjdaaGreat
open Go.RowKit Go.MapKept

set_option maxRecDepth 100000 in
set_option maxHeartbeats 400000 in
theorem mclone_any {b : Nat} {l : List (Int × Value)} {R : Assn} {w : World} (h : Bears w (mapA b l * R)) :
    Calls Tryz.prog 56 #[.map (some b)] w fun e w' => ∃ b', e = .returned (.map (some b')) ∧ Bears w' (mapA b' l * (mapA b l * R)) := by
  obtain ⟨es, clock, hm, h0⟩ := h.ofMapA
  have hq := fun w => run_eql_map_nil (P := Tryz.prog) w 81 _ _ (some b) u_secmap
  go_enter Tryz.func56, Tryz.ntmps56
  go_wp2
  rw [run_callFunc_extern Tryz.func88 (by kernel_rfl) (by kernel_rfl) (by kernel_rfl) (e := Extern.MapsClone.clone) (by kernel_rfl), run_maps_clone_sl w 81 h0.obj]
  simp only [Result.andThen]
  rw [Oper.upon_value]
  go_wp2
  rw [run_typeAssert_map_sl _ 81 20 _ _ _ u_secmap]
  simp only [Result.andThen]
  rw [Oper.upon_value]
  go_wp2
  go_ret
  exact ⟨_, rfl, (((h0.toMapA hm).alloc (.map es clock)).toMapA hm)⟩

set_option maxRecDepth 100000 in
set_option maxHeartbeats 400000 in
theorem sclone_any {v : Value} {n : Nat} {xs : List Value} {R : Assn} {w : World} (h : Bears w (rowA 89 65 v n xs * R)) (h1 : ∀ u ∈ xs, u.oneCell' = true) (hn : n < 1099511627776) :
    Calls Tryz.prog 57 #[v] w fun e w' => ∃ v', e = .returned v' ∧ Bears w' (rowA 89 65 v' n xs * (rowA 89 65 v n xs * R)) := by
  obtain ⟨i0, hi0, hz0, hz1, hz2⟩ := info_parts i_write
  obtain ⟨hl, h0⟩ := h.row
  rcases h0 with ⟨rfl, rfl⟩ | ⟨g, cap, cur, rfl, _, hg, hnc, hm, hs, ht⟩
  · have hq := fun w => Lib.run_eql_slice_nil (P := Tryz.prog) w 82 _ none 0 0 0 0 u_waits
    obtain rfl : xs = [] := List.eq_nil_of_length_eq_zero (by simpa using hl)
    go_enter Tryz.func57, Tryz.ntmps57
    go_wp2
    go_ret
    exact ⟨_, rfl, Bears.nilRow.2 h⟩
  · have hq := fun w => Lib.run_eql_slice_nil (P := Tryz.prog) w 82 _ (some ⟨g, 0, none⟩) n cap 0 0 u_waits
    have h2 := h.alloc (.cells #[] 89)
    have h3 : Bears (w.alloc (.cells #[] 89)) (rowA 89 65 (.slice (some ⟨w.heap.size, 0, none⟩) 0 0) 0 [] * (rowA 89 65 (.slice (some ⟨g, 0, none⟩) n cap) n xs * R)) := by
      obtain ⟨F, G, H, ⟨hb, rfl⟩, hR, hd, rfl⟩ := h2
      exact ⟨_, _, H, ⟨⟨by simp, .inr ⟨w.heap.size, 0, #[], rfl, Nat.zero_le _, hb, Nat.le_refl _, Nat.zero_le _, by simp, by simp⟩⟩, by funext b; simp [Value.ownBlock, eq_comm]⟩, hR, hd, rfl⟩
    have hnews : ∀ j u, xs[j]? = some u → (w.alloc (.cells #[] 89)).cell? ((⟨g, 0, none⟩ : Addr).add j) = some u := fun j u hu => h3.right.row.cells (g := g) rfl j u hu
    clear hg
    go_enter Tryz.func57, Tryz.ntmps57
    go_wp2_with (at_builtin; refine wpList_append_bears h3 rfl rfl u_waits hi0 hz0 hz1 hz2 (by simp [Value.cells, zeroSec]) (by decide) rfl (ad := ⟨g, 0, none⟩) (m := n) (c := cap) (news := xs) rfl hl hnews h1 (by unfold maxLen; omega) (by omega) ?_; intro a' c' w3 h4)
    go_ret
    exact ⟨_, rfl, h4.cast (by simp)⟩

end Go.Proofs.YtcggloceabjjdaaGreat

/- Walks of the disk's functions, part 6: Boot; no condition. -/
namespace Go.Proofs.YtcggloceabjjdaaGreat
open Go.RowKit Go.MapKept

set_option maxRecDepth 100000 in
set_option maxHeartbeats 400000 in
theorem boot_any {p : Nat} {d : DiskM} {R : Assn} {w : World} (h : Bears w (diskA p d * R)) (ks : List Int) (ad : Option Addr) (cap : Nat)
    (hk : R.Tells (fun w => IntsIn w (.slice ad ks.length cap) ks)) (hb : ∀ x ∈ ks, -9223372036854775808 ≤ x ∧ x ≤ 9223372036854775807) (hlen : ks.length ≤ 9223372036854775807) (hroom : d.waits.length < 1099511627776) :
    Calls Tryz.prog 23 #[.pointer (some ⟨p, 0, none⟩), .slice ad ks.length cap] w fun e w' => e = .returned (.tuple #[]) ∧ Bears w' (diskA p (d.boot ks) * R) := by
  obtain ⟨ms, mn, wv, ls, ln, hwf, hs, hn, h2⟩ := Bears.disk.1 h
  obtain ⟨hc, hf⟩ := disk_cells h2
  have c3 := hc 3
  simp at c3
  clear hc hf
  obtain ⟨a, c, rfl, hnc, hcm, hrow⟩ := h2.pull2.rowForm
  clear hrow
  go_enter Tryz.func23, Tryz.ntmps23
  go_wp2_with fail
  go_loopw [11] (fun i wr => ∃ k : Nat, k ≤ d.waits.length ∧ i = .int .i64 k ∧ ∃ ls', SecMap ls' (settle d.sure (kept ks 0 (d.waits.take k))) ∧
      Bears wr (diskObj p d ms mn (.slice a d.waits.length c) * (rowA 89 65 (.slice a d.waits.length c) d.waits.length (waitCells d.waits) * (mapA ms ls' * (mapA mn ln * R)))))
    (fun i _ => d.waits.length - (intOf i).toNat)
  case atStart => exact ⟨0, Nat.zero_le _, rfl, ls, hs, h2⟩
  case round =>
    obtain ⟨k, hk', rfl, ls', hs', h3⟩ := hrel
    by_cases hlt : k < d.waits.length
    · obtain ⟨g, rfl, hr⟩ := h3.pull2.rowAt hlt
      rw [waitCells_at _ (fun q hq => (hwf.waits q hq).2) k hlt] at hr
      have hp := (hwf.waits _ (List.getElem_mem hlt)).2
      have i1 : Option.map (fun x => x.size) (Tryz.prog.info? 89) = some (Value.int .i64 ((d.waits[k].1 : Nat) : Int) :: cellsV d.waits[k].2).length := by
        rw [List.length_cons, length_cellsV, hp]; exact s_write
      have o1 : ∀ v ∈ (Value.int .i64 ((d.waits[k].1 : Nat) : Int) :: cellsV d.waits[k].2).toArray.toList, v.oneCell' = true := by
        intro v hv
        simp only [List.mem_cons] at hv
        rcases hv with rfl | hv
        · rfl
        · exact oneCell_cellsV _ _ hv
      have z1 : (Value.int .i64 ((d.waits[k].1 : Nat) : Int) :: cellsV d.waits[k].2).toArray.size = (Value.agg (Value.int .i64 0 :: cellsV zeroSec).toArray).cells.size := by
        simp [Value.cells, hp, zeroSec]
      have z2 : Option.map (fun x => x.size) (Tryz.prog.info? 89) = some (Value.agg (Value.int .i64 0 :: cellsV zeroSec).toArray).cells.size := by
        simp only [Value.cells]; exact s_write
      by_cases hks : ks = []
      · have hks0 : ¬ (0 : Int) < (ks.length : Int) := by simp [hks]
        have hks1 := Lib.hid hks
        clear hks
        go_wp2_with (first
          | (refine wpList_load_mid rfl 89 _ rfl g (k * 65) rfl _ _ hr u_write rfl i1 ?_)
          | (refine wpList_alloc_z rfl rfl (z_write _) ?_)
          | (refine wpList_store_obj (h3.alloc _) rfl rfl rfl rfl z1 z2 o1 ?_; intro w2 h4))
        go_roundw
        case rel =>
          refine ⟨k + 1, hlt, by go_num, ls', ?_, h4.right⟩
          rw [List.take_succ_eq_append_getElem hlt, kept_append]
          simp only [keeps, hks1.out]
          simpa [hks1.out] using hs'
        case measure => simp [intOf]; omega
      · have hpos : 0 < ks.length := List.length_pos_iff.2 hks
        have hks0 : (0 : Int) < (ks.length : Int) := by omega
        obtain ⟨kb, ko, rfl, _⟩ := (hk _ h.right).at hks
        have hks1 := Lib.hid hks
        clear hks
        have hm0 : (0 : Int) ≤ (k : Int) % (ks.length : Int) := Int.emod_nonneg _ (by omega)
        have hm1 : (k : Int) % (ks.length : Int) < (ks.length : Int) := Int.emod_lt_of_pos _ (by omega)
        have hkm : k % ks.length < ks.length := Nat.mod_lt _ hpos
        have hin : ks.getD (k % ks.length) 0 ∈ ks := by rw [List.getD_eq_getElem?_getD, List.getElem?_eq_getElem hkm]; exact List.getElem_mem hkm
        have hx0 := (hb _ hin).1
        have hx1 := (hb _ hin).2
        have hko := fun w2 (h4 : Bears w2 R) => (hk w2 h4).cell hkm
        clear hin hkm hb hk
        generalize hx : ks.getD (k % ks.length) 0 = x at hx0 hx1 hko
        have Hx := Lib.hid hx
        clear hx
        go_wp2_with (first
          | (refine wpList_load_mid rfl 89 _ rfl g (k * 65) rfl _ _ hr u_write rfl i1 ?_)
          | (refine wpList_alloc_z rfl rfl (z_write _) ?_)
          | (refine wpList_store_obj (h3.alloc _) rfl rfl rfl rfl z1 z2 o1 ?_; intro w2 h4; have hkc := hko _ h4.right.right.right.right.right))
        · have hodd : (x.tmod 2 != 0) = true := by assumption
          have hkeep : keeps ks k = true := by
            unfold keeps
            rw [Hx.out, ← tmod_two, hodd]
            simpa using hks1.out
          have Hk := Lib.hid hkeep
          clear hkeep hodd hkc hko
          obtain ⟨hc, _⟩ := disk_cells h4.pull2
          have c1 := hc 1
          simp at c1
          have c5 := cell_of_obj h4.obj 0
          simp at c5
          have hr5 : w2.drew.rangeAt wr.heap.size 1 (cellsV d.waits[k].2) := rangeAt_tail (o := 0) (rangeAt_of_obj h4.obj)
          clear hc
          refine wp_region_tail 8 (by kernel_rfl) (by kernel_rfl) ?_
          simp only [List.take_succ_cons, List.take_zero, List.drop_succ_cons, List.drop_zero]
          iterate 7 still_step
          refine wpStill_load_mid _ _ rfl rfl wr.heap.size 1 rfl (cellsV d.waits[k].2) _ hr5 u_sector rfl (by rw [length_cellsV, hp]; exact i_sector) ?_
          refine wpStill_nil ?_
          refine wpList_mapUpdate_bears (val := secV d.waits[k].2) h4.drew.pull4 rfl rfl u_secmap u_int rfl rfl rfl ?_
          intro w3 h5
          clear c1 c5 hr5 h4 h3 hr
          go_wp2
          go_roundw
          case rel =>
            refine ⟨k + 1, hlt, by go_num, _, ?_, h5.pull2.right.pull3.pull3.cast (by ac_rfl)⟩
            rw [List.take_succ_eq_append_getElem hlt, kept_append, Nat.zero_add, List.length_take, Nat.min_eq_left hk', Hk.out, if_pos rfl, settle_append]
            exact hs'.put _ _
          case measure => simp [intOf]; omega
        · have hodd : (x.tmod 2 != 0) = false := by assumption
          have hkeep : keeps ks k = false := by
            unfold keeps
            rw [Hx.out, ← tmod_two, hodd]
            simp
          go_roundw
          case rel =>
            refine ⟨k + 1, hlt, by go_num, ls', ?_, h4.right⟩
            rw [List.take_succ_eq_append_getElem hlt, kept_append, Nat.zero_add, List.length_take, Nat.min_eq_left hk', hkeep]
            simpa using hs'
          case measure => simp [intOf]; omega
    · obtain rfl : k = d.waits.length := by omega
      rw [List.take_length] at hs'
      obtain ⟨hc, hf⟩ := disk_cells h3
      have c1' := hc 1
      simp at c1'
      clear hc hf c3 h2
      go_wp2_with fail
      refine (mclone_any h3.pull3).mono ?_
      rintro e w4 ⟨b', rfl, h4⟩
      obtain ⟨hc, hf⟩ := disk_cells h4.pull3
      have c2' := hc 2
      have f2 := hf 2
      have c3' := hc 3
      have f3 := hf 3
      have c4' := hc 4
      have f4 := hf 4
      have c5' := hc 5
      have f5 := hf 5
      simp at c2' c3' c4' c5'
      clear hc hf c1'
      go_wp2
      go_end0
      have h5 := (((h4.pull3.setCell (i := 2) (.map (some b'))).setCell (i := 3) (.slice none 0 0)).setCell (i := 4) (.bool false)).setCell (i := 5) (.int .i64 (-1))
      have h6 := (h5.pull4.right).pull4.right
      refine ⟨rfl, Bears.disk.2 ⟨ms, b', .slice none 0 0, ls', ls', ⟨hwf.len, fun i => ?_, by simp [DiskM.boot], by simp [DiskM.boot], hwf.steps⟩, hs', ?_, ?_⟩⟩
      · exact settle_length hwf.sure (fun q hq => (hwf.waits q (kept_sub ks _ _ q hq)).2) i
      · exact hs'
      · exact (Bears.pull2 ((Bears.nilRow (e := 89) (size := 65)).2 h6)).cast (by simp [diskObj, waitCells, DiskM.boot]; ac_rfl)

end Go.Proofs.YtcggloceabjjdaaGreat

/- Walks of the disk's functions, part 7: Clone; no condition. -/
namespace Go.Proofs.YtcggloceabjjdaaGreat
open Go.RowKit Go.MapKept

theorem i_disk : (Tryz.prog.info? 84).map (fun i => i.size) = some 7 := by kernel_rfl
theorem z_disk (w : World) : (zeroValue 84).run Tryz.prog w = .ok (.agg #[.int .i64 0, .map none, .map none, .slice none 0 0, .bool false, .int .i64 0, .int .i64 0]) w := by kernel_rfl
noncomputable def f_disk : Array Field := match Tryz.prog.underlying 84 with | some (.struct fs) => fs | _ => #[]
theorem u_disk : Tryz.prog.underlying 84 = some (.struct f_disk) := by kernel_rfl

theorem oneCell_waits (l : List (Nat × Sec)) : ∀ u ∈ waitCells l, u.oneCell' = true := by
  intro u hu
  obtain ⟨p, _, hu⟩ := List.mem_flatMap.1 hu
  simp only [List.mem_cons] at hu
  rcases hu with rfl | hu
  · rfl
  · exact oneCell_cellsV _ _ hu

set_option maxRecDepth 100000 in
set_option maxHeartbeats 400000 in
theorem clone_any {p : Nat} {d : DiskM} {R : Assn} {w : World} (h : Bears w (diskA p d * R)) (hroom : d.waits.length < 1099511627776) :
    Calls Tryz.prog 16 #[.pointer (some ⟨p, 0, none⟩)] w fun e w' => ∃ q, e = .returned (.pointer (some ⟨q, 0, none⟩)) ∧ Bears w' (diskA q d * (diskA p d * R)) := by
  obtain ⟨ms, mn, wv, ls, ln, hwf, hs, hn, h2⟩ := Bears.disk.1 h
  obtain ⟨a, c, rfl, hnc, hcm, hrow⟩ := h2.pull2.rowForm
  clear hrow
  have hr := rangeAt_of_obj h2.obj
  go_enter Tryz.func16, Tryz.ntmps16
  go_wp2_with (first
    | (refine wpList_load_mid rfl 84 _ rfl p 0 rfl _ _ hr u_disk rfl i_disk ?_)
    | (refine wpList_alloc_z rfl rfl (z_disk _) ?_)
    | (refine wpList_store_obj (h2.alloc _) rfl rfl rfl rfl rfl i_disk ?_ ?_; (intro v hv; simp at hv; rcases hv with rfl | rfl | rfl | rfl | rfl | rfl | rfl <;> rfl); intro w2 h4))
  obtain ⟨hc, _⟩ := disk_cells h4.pull2
  have c1 := hc 1
  have c2 := hc 2
  have c3 := hc 3
  simp at c1 c2 c3
  clear hc hr h2 h
  refine wp_region_L (fun w' => w'.cell? ⟨p, 1, none⟩ = some (.map (some ms)) ∧ w'.cell? ⟨p, 2, none⟩ = some (.map (some mn)) ∧ w'.cell? ⟨p, 3, none⟩ = some (.slice a d.waits.length c)) 19
    [(true, 0), (true, 1), (true, 2), (true, 3), (true, 5), (true, 6), (true, 7), (true, 8), (true, 10), (true, 11), (true, 12), (true, 13), (false, 4), (false, 9), (false, 14), (true, 15), (false, 16), (true, 17), (false, 18)] [(true, 19), (false, 20)]
    (by kernel_rfl) (by kernel_rfl) ⟨c1, c2, c3⟩ ?_
  simp only [pick, List.getElem?_cons_zero, List.getElem?_cons_succ]
  clear c1 c2 c3
  refine wpL_yield (v := ?_) rfl (fun w' hS => ?_) ?_
  rotate_left
  · (obtain ⟨s1, s2, s3⟩ := hS; go_simp; try with_reducible rfl)
  simp only [Act.put, List.setIfInBounds_toArray, List.set_cons_zero, List.set_cons_succ]
  refine wpL_yield (v := ?_) rfl (fun w' hS => ?_) ?_
  rotate_left
  · (obtain ⟨s1, s2, s3⟩ := hS; go_simp; try with_reducible rfl)
  simp only [Act.put, List.setIfInBounds_toArray, List.set_cons_zero, List.set_cons_succ]
  refine wpL_yield (v := ?_) rfl (fun w' hS => ?_) ?_
  rotate_left
  · (obtain ⟨s1, s2, s3⟩ := hS; go_simp; try with_reducible rfl)
  simp only [Act.put, List.setIfInBounds_toArray, List.set_cons_zero, List.set_cons_succ]
  refine wpL_yield (v := ?_) rfl (fun w' hS => ?_) ?_
  rotate_left
  · (obtain ⟨s1, s2, s3⟩ := hS; go_simp; try with_reducible rfl)
  simp only [Act.put, List.setIfInBounds_toArray, List.set_cons_zero, List.set_cons_succ]
  refine wpL_yield (v := ?_) rfl (fun w' hS => ?_) ?_
  rotate_left
  · (obtain ⟨s1, s2, s3⟩ := hS; go_simp; try with_reducible rfl)
  simp only [Act.put, List.setIfInBounds_toArray, List.set_cons_zero, List.set_cons_succ]
  refine wpL_yield (v := ?_) rfl (fun w' hS => ?_) ?_
  rotate_left
  · (obtain ⟨s1, s2, s3⟩ := hS; go_simp; try with_reducible rfl)
  simp only [Act.put, List.setIfInBounds_toArray, List.set_cons_zero, List.set_cons_succ]
  refine wpL_yield (v := ?_) rfl (fun w' hS => ?_) ?_
  rotate_left
  · (obtain ⟨s1, s2, s3⟩ := hS; go_simp; try with_reducible rfl)
  simp only [Act.put, List.setIfInBounds_toArray, List.set_cons_zero, List.set_cons_succ]
  refine wpL_yield (v := ?_) rfl (fun w' hS => ?_) ?_
  rotate_left
  · (obtain ⟨s1, s2, s3⟩ := hS; go_simp; try with_reducible rfl)
  simp only [Act.put, List.setIfInBounds_toArray, List.set_cons_zero, List.set_cons_succ]
  refine wpL_yield (v := ?_) rfl (fun w' hS => ?_) ?_
  rotate_left
  · (obtain ⟨s1, s2, s3⟩ := hS; go_simp; try with_reducible rfl)
  simp only [Act.put, List.setIfInBounds_toArray, List.set_cons_zero, List.set_cons_succ]
  refine wpL_yield (v := ?_) rfl (fun w' hS => ?_) ?_
  rotate_left
  · (obtain ⟨s1, s2, s3⟩ := hS; go_simp; try with_reducible rfl)
  simp only [Act.put, List.setIfInBounds_toArray, List.set_cons_zero, List.set_cons_succ]
  refine wpL_yield (v := ?_) rfl (fun w' hS => ?_) ?_
  rotate_left
  · (obtain ⟨s1, s2, s3⟩ := hS; go_simp; try with_reducible rfl)
  simp only [Act.put, List.setIfInBounds_toArray, List.set_cons_zero, List.set_cons_succ]
  refine wpL_yield (v := ?_) rfl (fun w' hS => ?_) ?_
  rotate_left
  · (obtain ⟨s1, s2, s3⟩ := hS; go_simp; try with_reducible rfl)
  simp only [Act.put, List.setIfInBounds_toArray, List.set_cons_zero, List.set_cons_succ]
  refine wpL_eff rfl ?_
  go_simp
  refine (mclone_any h4.drew.pull4).mono ?_
  rintro e w5 ⟨b1, rfl, h5⟩
  refine ⟨?_, ?_⟩
  · obtain ⟨hc, _⟩ := disk_cells h5.pull4
    exact ⟨hc 1, hc 2, hc 3⟩
  refine wpL_eff rfl ?_
  go_simp
  refine (mclone_any h5.pull6).mono ?_
  rintro e w6 ⟨b2, rfl, h6⟩
  refine ⟨?_, ?_⟩
  · obtain ⟨hc, _⟩ := disk_cells h6.pull6
    exact ⟨hc 1, hc 2, hc 3⟩
  refine wpL_eff rfl ?_
  go_simp
  refine (sclone_any h6.pull7 (oneCell_waits _) hroom).mono ?_
  rintro e w7 ⟨v', rfl, h7⟩
  obtain ⟨a', c', rfl, _⟩ := h7.rowForm
  clear h4 h5 h6
  refine ⟨?_, ?_⟩
  · obtain ⟨hc, _⟩ := disk_cells h7.pull8
    exact ⟨hc 1, hc 2, hc 3⟩
  have h8 := h7.pull7
  have k1 := (disk_cells h8).1 1
  have k2 := (disk_cells h8).1 2
  have k3 := (disk_cells h8).1 3
  have g1 := (disk_cells h8).2 1
  have g2 := (disk_cells h8).2 2
  have g3 := (disk_cells h8).2 3
  have hd8 := disk_cells h7.pull8
  have e1 := hd8.1 1
  have e2 := hd8.1 2
  have e3 := hd8.1 3
  have hne : p ≠ w.heap.size := h8.pull8.ne
  have hne' := Ne.symm hne
  simp at k1 k2 k3 e1 e2 e3
  clear hd8
  refine wpL_yield (v := ?_) rfl (fun w' hS => ?_) ?_
  rotate_left
  · (go_simp; try with_reducible rfl)
  simp only [Act.put, List.setIfInBounds_toArray, List.set_cons_zero, List.set_cons_succ]
  refine wpL_store _ _ _ rfl rfl rfl rfl (by go_simp; rfl) ⟨by go_simp, by go_simp, by go_simp⟩ ?_
  refine wpL_yield (v := ?_) rfl (fun w' hS => ?_) ?_
  rotate_left
  · (go_simp; try with_reducible rfl)
  simp only [Act.put, List.setIfInBounds_toArray, List.set_cons_zero, List.set_cons_succ]
  refine wpL_store _ _ _ rfl rfl rfl rfl (by go_simp; rfl) ⟨by go_simp, by go_simp, by go_simp⟩ ?_
  refine wpL_nil ?_
  refine wpL_yield (v := ?_) rfl (fun w' hS => ?_) ?_
  rotate_left
  · (go_simp; try with_reducible rfl)
  simp only [Act.put, List.setIfInBounds_toArray, List.set_cons_zero, List.set_cons_succ]
  refine wpL_store _ _ _ rfl rfl rfl rfl (by go_simp; rfl) trivial ?_
  refine wpL_nil ?_
  go_wp2
  go_ret
  have h9 := (((h8.setCell (i := 1) (.map (some b1))).setCell (i := 2) (.map (some b2))).setCell (i := 3) (.slice a' d.waits.length c'))
  refine ⟨w.heap.size, rfl, Bears.disk.2 ⟨b1, b2, .slice a' d.waits.length c', ls, ln, hwf, hs, hn, ?_⟩⟩
  have h10 : Bears _ (diskObj p d ms mn (.slice a d.waits.length c) * (rowA 89 65 (.slice a d.waits.length c) d.waits.length (waitCells d.waits) * (mapA ms ls * (mapA mn ln * (Assn.obj w.heap.size _ *
    (rowA 89 65 (.slice a' d.waits.length c') d.waits.length (waitCells d.waits) * (mapA b1 ls * (mapA b2 ln * R)))))))) := h9.cast (by ac_rfl)
  have h11 := Bears.disk.2 ⟨ms, mn, .slice a d.waits.length c, ls, ln, hwf, hs, hn, h10⟩
  refine h11.cast ?_
  simp [diskObj]
  ac_rfl

end Go.Proofs.YtcggloceabjjdaaGreat

/- The disk's functions, with what they answer named; no condition. -/
namespace Go.Proofs.YtcggloceabjjdaaGreat
open Go.RowKit Go.MapKept

theorem u_bytes : Tryz.prog.underlying 34 = some (.slice 5) := by kernel_rfl
theorem u_byte : Tryz.prog.underlying 5 = some (.int .u8) := by kernel_rfl
theorem u_string : Tryz.prog.underlying 9 = some .string := by kernel_rfl

/-- A string of bytes. -/
abbrev strV (l : List UInt8) : Value := .string ⟨l.toArray⟩

theorem run_convert_in {w : World} {ad : Option Addr} {n cap : Nat} {l : List UInt8} (h : BytesIn w (.slice ad n cap) l) :
    (convert 34 9 (.slice ad n cap)).run Tryz.prog w = .ok (strV l) w := by
  by_cases hl : l = []
  · subst hl
    have := h.len
    subst this
    rw [run_convert_bytes_string w 34 9 5 _ _ _ u_bytes u_byte u_string]
    cases ad with
    | none => simp [Conv.bytesToString]; rfl
    | some a => simp [Conv.bytesToString, loadCells, loadCellsFrom]; rfl
  · obtain ⟨b, o, rfl, hr⟩ := h.at hl
    have := h.len
    subst this
    exact run_convert_bytes_back w 34 9 5 ⟨b, o, none⟩ cap l u_bytes u_byte u_string (fun j hj => by
      rw [Addr.add_mid]
      exact hr j _ (by simp [cellsV, hj, byteV]))

theorem write_to {p : Nat} {d d' : DiskM} {R : Assn} {w : World} {i r : Int} {l : List UInt8} {ad : Option Addr} {n cap : Nat} (h : Bears w (diskA p d * R)) (heq : d.write i l = (r, d')) (hb : R.Tells (fun w => BytesIn w (.slice ad n cap) l))
    (hroom : d.waits.length < 1099511627776) :
    Calls Tryz.prog 71 #[.pointer (some ⟨p, 0, none⟩), .int .i64 i, .slice ad n cap] w fun e w' => e = .returned (.int .i64 r) ∧ Bears w' (diskA p d' * R) := by
  have hn := (hb w h.right).len
  subst hn
  have := write_any h i l ad cap hb hroom
  rw [heq] at this
  exact this

theorem barrier_to {p : Nat} {d d' : DiskM} {R : Assn} {w : World} {r : Int} (h : Bears w (diskA p d * R)) (heq : d.barrier = (r, d')) (hroom : d.waits.length < 1099511627776) :
    Calls Tryz.prog 72 #[.pointer (some ⟨p, 0, none⟩)] w fun e w' => e = .returned (.int .i64 r) ∧ Bears w' (diskA p d' * R) := by
  have := barrier_any h hroom
  rw [heq] at this
  exact this

theorem read_to {p : Nat} {d : DiskM} {R : Assn} {w : World} (i : Int) {s : Sec} (h : Bears w (diskA p d * R)) (hck : d.check i = 0) (hs : d.now i.toNat = s) :
    Calls Tryz.prog 38 #[.pointer (some ⟨p, 0, none⟩), .int .i64 i] w fun e w' => ∃ g, e = .returned (.tuple #[.slice (some ⟨g, 0, none⟩) 64 64, .int .i64 0]) ∧
      Bears w' (Assn.obj g (.cells (cellsV s).toArray 86 (0, 0)) * (diskA p d * R)) := by
  obtain ⟨n, rfl⟩ := Int.eq_ofNat_of_zero_le (check_range hck).2.1
  have := read_ok h n hck
  rw [show ((n : Int)).toNat = n from rfl] at hs
  rw [hs] at this
  exact this

theorem read_bad {p : Nat} {d : DiskM} {R : Assn} {w : World} {c : Int} (h : Bears w (diskA p d * R)) (i : Int) (heq : d.check i = c) (hc : c ≠ 0) :
    Calls Tryz.prog 38 #[.pointer (some ⟨p, 0, none⟩), .int .i64 i] w fun e w' => e = .returned (.tuple #[.slice none 0 0, .int .i64 c]) ∧ w = w' := by
  subst heq
  exact read_no h i hc

theorem boot_to {p : Nat} {d d' : DiskM} {R : Assn} {w : World} (ks : List Int) {ad : Option Addr} {n cap : Nat} (h : Bears w (diskA p d * R)) (hn : n = ks.length) (heq : d.boot ks = d') (hk : R.Tells (fun w => IntsIn w (.slice ad n cap) ks))
    (hb : ∀ x ∈ ks, -9223372036854775808 ≤ x ∧ x ≤ 9223372036854775807) (hlen : ks.length ≤ 9223372036854775807) (hroom : d.waits.length < 1099511627776) :
    Calls Tryz.prog 23 #[.pointer (some ⟨p, 0, none⟩), .slice ad n cap] w fun e w' => e = .returned (.tuple #[]) ∧ Bears w' (diskA p d' * R) := by
  subst hn
  have := boot_any h ks ad cap hk hb hlen hroom
  rw [heq] at this
  exact this

theorem fuse_to {p : Nat} {d d' : DiskM} {R : Assn} {w : World} {n : Int} (h : Bears w (diskA p d * R)) (heq : d.setFuse n = d') (hn : n < 9223372036854775808) :
    Calls Tryz.prog 20 #[.pointer (some ⟨p, 0, none⟩), .int .i64 n] w fun e w' => e = .returned (.tuple #[]) ∧ Bears w' (diskA p d' * R) := by
  have := fuse_any h n hn
  rw [heq] at this
  exact this

theorem Bears.byteCell {w : World} {b : Nat} {l : List UInt8} {t : TypeId} {R : Assn} (h : Bears w (Assn.obj b (.cells (cellsV l).toArray t (0, 0)) * R)) {j : Nat} (hj : j < l.length) : w.cell? ⟨b, j, none⟩ = some (byteV (l.getD j 0)) := by
  rw [cell_of_obj h.obj]
  simp [cellsV, hj]

theorem Bears.setByte {w : World} {b : Nat} {l : List UInt8} {t : TypeId} {R : Assn} (h : Bears w (Assn.obj b (.cells (cellsV l).toArray t (0, 0)) * R)) (j : Nat) (c : UInt8) :
    Bears (w.setCell ⟨b, j, none⟩ (byteV c)) (Assn.obj b (.cells (cellsV (l.set j c)).toArray t (0, 0)) * R) :=
  (h.setCell (i := j) (byteV c)).cast (by simp [cellsV, List.map_set])

/-- A conversion of bytes to a string, at the list of a region's operations. -/
theorem wpList_conv {P : Program} {ops : Array Oper} {rest : List Oper} {o : Oper} {a : Act} {Q : Exit → Act → World → Prop} {w : World} {ss dd : TypeId} {x : Operand} {v u : Value} (hg : Region.wanted o (yielded ops a.tmps) = true) (ho : o.op = .convert ss dd x) (hx : a.eval x = v)
    (hrun : (convert ss dd v).run P w = .ok u w) (h : wpList P ops Q rest (a.put o.dst u) w) : wpList P ops Q (o :: rest) a w := by
  refine wpList_step fun K hK => ?_
  rw [if_pos hg]
  exact wp_of_run (exec_convert ho hx hrun) (hK _ _ h)

theorem str_eq (a b : List UInt8) : ((⟨a.toArray⟩ : ByteArray).toList == (⟨b.toArray⟩ : ByteArray).toList) = decide (a = b) := by
  rw [ByteArray.toList_mk, ByteArray.toList_mk, Bool.eq_iff_iff]
  simp

/-- An operation whose run is known. -/
theorem wpList_op {P : Program} {ops : Array Oper} {rest : List Oper} {o : Oper} {a : Act} {Q : Exit → Act → World → Prop} {w w' : World} {v : Value} (hg : o.guard = none) (hrun : (execOp a.eval o).run P w = .ok (.value v) w')
    (h : wpList P ops Q rest (a.put o.dst v) w') : wpList P ops Q (o :: rest) a w := by
  refine wpList_plain hg fun _ hK => ?_
  unfold Oper.wp
  simp [hrun]
  exact hK _ _ h

/-- A slice, cut with three indices. -/
theorem exec_slice3 {P : Program} {ev : Operand → Value} {o : Oper} {t : TypeId} {x a b c : Operand} {g lo hi mx len cap : Nat} {w : World} {e : TypeId} (ho : o.op = .slice t x (some a) (some b) (some c)) (ht : P.underlying t = some (.slice e)) (hz : (Go.sizeOf e).run P w = .ok 1 w)
    (hx : ev x = .slice (some ⟨g, 0, none⟩) len cap) (ha : ev a = .int .i64 lo) (hb : ev b = .int .i64 hi) (hc : ev c = .int .i64 mx) (h1 : lo < hi) (h2 : hi ≤ mx) (h3 : mx ≤ cap) :
    (execOp ev o).run P w = .ok (.value (.slice (some ⟨g, lo, none⟩) (hi - lo) (mx - lo))) w := by
  unfold execOp
  go_simp
  rw [if_pos (by omega), if_neg (by omega)]

theorem exec_copy {P : Program} {ev : Operand → Value} {o : Oper} {d s : Operand} {t t' : TypeId} {v u v' : Value} {w w' : World} (ho : o.op = .call { callee := .builtin .copy, args := #[d, s], argTypes := #[t, t'] }) (hd : ev d = v) (hs : ev s = u)
    (hr : (Builtin.copy_ #[t, t'] o.type #[v, u]).run P w = .ok v' w') : (execOp ev o).run P w = .ok (.value v') w' := by
  unfold execOp
  simp only [ho, resolve, invoke, builtin, Sem.run_bind, Sem.run_pure, Result.andThen_ok, List.map_toArray, List.map_cons, List.map_nil, hd, hs, hr]

end Go.Proofs.YtcggloceabjjdaaGreat

/- The log's small functions; no condition. -/
namespace Go.Proofs.YtcggloceabjjdaaGreat
open Go.RowKit Go.MapKept

theorem lists_any (w : World) (n : Nat) (hn : n ≤ 9223372036854775000) :
    Calls Tryz.prog 99 #[.int .i64 n] w fun e w' => e = .returned (.int .i64 (listsN n)) ∧ w = w' := by
  go_enter Tryz.func99, Tryz.ntmps99
  go_wp2
  go_ret
  exact ⟨by unfold listsN; go_num, rfl⟩

theorem room_any (w : World) (n : Int) (hn : -9223372036854775808 ≤ n ∧ n ≤ 9223372036854775807) :
    Calls Tryz.prog 82 #[.int .i64 n] w fun e w' => e = .returned (.int .i64 (roomN n.toNat)) ∧ w = w' := by
  by_cases h3 : n < 3
  · go_enter Tryz.func82, Tryz.ntmps82
    go_wp2
    go_ret
    refine ⟨?_, rfl⟩
    rw [show roomN n.toNat = 0 by unfold roomN; rw [if_pos (by omega)]]
    rfl
  · have e1 : (n - 1).tdiv 33 = (n - 1) / 33 := Int.tdiv_eq_ediv_of_nonneg (by omega)
    have e2 : (n - 1).tmod 33 = (n - 1) % 33 := Int.tmod_eq_emod_of_nonneg (by omega)
    go_enter Tryz.func82, Tryz.ntmps82
    go_wp2
    all_goals
      go_ret
      refine ⟨?_, rfl⟩
      unfold roomN
      rw [if_neg (by omega)]
      go_num

theorem there_any {p : Nat} {d : DiskM} {R : Assn} {w : World} (h : Bears w (diskA p d * R)) (at' size : Int) (ha : -9223372036854775808 ≤ at' ∧ at' ≤ 9223372036854775807) (hs : -9223372036854775808 ≤ size ∧ size ≤ 9223372036854775807) :
    Calls Tryz.prog 79 #[.pointer (some ⟨p, 0, none⟩), .int .i64 at', .int .i64 size] w fun e w' => e = .returned (.bool (wThere d at' size)) ∧ Bears w' (diskA p d * R) := by
  obtain ⟨_, _, _, _, _, hwf, _⟩ := Bears.disk.1 h
  have hlen := hwf.len
  unfold wThere
  by_cases h3 : 3 ≤ size
  · by_cases h4 : size ≤ (d.len : Int)
    · by_cases h5 : 0 ≤ at'
      · simp only [h3, h4, h5, decide_true, Bool.true_and]
        go_enter Tryz.func79, Tryz.ntmps79
        go_wp2_with fail
        refine (len_any h).mono ?_
        rintro e w' ⟨rfl, rfl⟩
        go_wp2_with fail
        refine (len_any h).mono ?_
        rintro e w' ⟨rfl, rfl⟩
        go_wp2_with fail
        go_ret
        exact ⟨rfl, h⟩
      · simp only [h3, h4, h5, decide_true, Bool.true_and, decide_false, Bool.false_and]
        go_enter Tryz.func79, Tryz.ntmps79
        go_wp2_with fail
        refine (len_any h).mono ?_
        rintro e w' ⟨rfl, rfl⟩
        go_wp2_with fail
        go_ret
        exact ⟨rfl, h⟩
    · simp only [h3, h4, decide_true, Bool.true_and, decide_false, Bool.false_and]
      go_enter Tryz.func79, Tryz.ntmps79
      go_wp2_with fail
      refine (len_any h).mono ?_
      rintro e w' ⟨rfl, rfl⟩
      go_wp2_with fail
      go_ret
      exact ⟨rfl, h⟩
  · simp only [h3, decide_false, Bool.false_and]
    go_enter Tryz.func79, Tryz.ntmps79
    go_wp2_with fail
    go_ret
    exact ⟨rfl, h⟩

theorem or_byte (x c : Int) (hx : x % 256 = 0) (h0 : 0 ≤ c) (h1 : c < 256) (hl : -9223372036854775808 ≤ x) (hh : x + c ≤ 9223372036854775807) : bits .or .i64 x c = x + c := by
  have e1 : (BitVec.ofInt 64 x).toNat = (x % 18446744073709551616).toNat := by simp [BitVec.toNat_ofInt]
  have e2 : (BitVec.ofInt 64 c).toNat = c.toNat := by simp [BitVec.toNat_ofInt]; omega
  have e3 : (BitVec.ofInt 64 x ||| BitVec.ofInt 64 c).toNat = (x % 18446744073709551616).toNat + c.toNat := by
    rw [BitVec.toNat_or, e1, e2]
    exact nat_join 8 _ _ (by omega) (by omega)
  show IntKind.i64.wrap ((BitVec.ofInt 64 x ||| BitVec.ofInt 64 c).toNat : Nat) = x + c
  rw [e3, IntKind.wrap_i64]
  omega

theorem number_any {blk o m cap : Nat} {l : List UInt8} {ty : TypeId} {R : Assn} {w : World} (h : Bears w (Assn.obj blk (.cells (cellsV l).toArray ty (0, 0)) * R)) (n : Int) (hm : o + m ≤ l.length) (hm8 : m ≤ 8) :
    Calls Tryz.prog 98 #[.slice (some ⟨blk, o, none⟩) m cap, .int .i64 n] w fun e w' => e = .returned (.tuple #[]) ∧ Bears w' (Assn.obj blk (.cells (cellsV (putAt l o (numB m n))).toArray ty (0, 0)) * R) := by
  go_enter Tryz.func98, Tryz.ntmps98
  go_wp2_with fail
  go_loopw [7] (fun i wr => ∃ k : Nat, k ≤ m ∧ i = .int .i64 k ∧ Bears wr (Assn.obj blk (.cells (cellsV (putAt l (o + (m - k)) (numB k n))).toArray ty (0, 0)) * R))
    (fun i _ => m - (intOf i).toNat)
  case atStart => exact ⟨0, by omega, rfl, h.cast (by rw [numB, putAt_nil])⟩
  case round =>
    obtain ⟨k, hk, rfl, h1⟩ := hrel
    by_cases hlt : k < m
    · have hs : (putAt l (o + (m - k)) (numB k n)).set (o + (m - 1 - k)) (byteAt n k) = putAt l (o + (m - (k + 1))) (numB (k + 1) n) := by
        rw [show o + (m - k) = (o + (m - 1 - k)) + 1 by omega, putAt_set (by rw [numB_length]; omega)]
        rw [show m - 1 - k = m - (k + 1) by omega]
        rfl
      have hll : (putAt l (o + (m - k)) (numB k n)).length = l.length := putAt_length (by rw [numB_length]; omega)
      have hb := byteV_byteAt n k
      have h2 := h1.setByte (o + (m - 1 - k)) (byteAt n k)
      rw [hs] at h2
      have hc := h1.byteCell (j := o + (m - 1 - k)) (by rw [hll]; omega)
      have hf := frozen_of_obj h1.obj (o + (m - 1 - k))
      generalize (putAt l (o + (m - k)) (numB k n)).getD (o + (m - 1 - k)) 0 = old at hc
      generalize putAt l (o + (m - k)) (numB k n) = l1 at h1 hll
      unfold byteV at h2 hb
      rw [hb] at h2
      clear hb hs hll
      go_wp2_with fail
      go_roundw
      case rel => exact ⟨k + 1, hlt, by go_num, h2⟩
      case measure => simp [intOf]; omega
    · obtain rfl : k = m := by omega
      go_wp2
      go_end0
      exact ⟨rfl, h1.cast (by simp)⟩

theorem taken_any {ad : Option Addr} {m cap : Nat} {l : List UInt8} {R : Assn} {w : World} (h : Bears w R) (hb : R.Tells (fun w => BytesIn w (.slice ad m cap) l)) (hl : l.length ≤ 9223372036854775807) :
    Calls Tryz.prog 80 #[.slice ad m cap] w fun e w' => e = .returned (.int .i64 (takenB l)) ∧ Bears w' R := by
  obtain rfl := (hb _ h).len
  go_enter Tryz.func80, Tryz.ntmps80
  go_wp2_with fail
  go_loopw [3, 8] (fun n i wr => ∃ k : Nat, k ≤ l.length ∧ i = .int .i64 k ∧ n = .int .i64 (takenB (l.take k)) ∧ Bears wr R)
    (fun _ i _ => l.length - (intOf i).toNat)
  case atStart => exact ⟨0, by omega, rfl, by simp [takenB, beN, wrap64], h⟩
  case round =>
    obtain ⟨k, hk, rfl, rfl, h1⟩ := hrel
    by_cases hlt : k < l.length
    · obtain ⟨b, o, rfl, hcell⟩ := (hb _ h1).cell hlt
      have e1 : takenB (l.take (k + 1)) = wrap64 (takenB (l.take k) * 256) + (l.getD k 0).toNat := by
        have e : l.take (k + 1) = l.take k ++ [l.getD k 0] := by rw [List.take_succ_eq_append_getElem hlt]; simp [hlt]
        rw [e]
        unfold takenB
        rw [beN_snoc]
        have := (l.getD k 0).toNat_lt
        unfold wrap64
        omega
      have hr : -9223372036854775808 ≤ takenB (l.take k) ∧ takenB (l.take k) ≤ 9223372036854775807 := by unfold takenB wrap64; omega
      have hc := (l.getD k 0).toNat_lt
      have ho := or_byte (wrap64 (takenB (l.take k) * 256)) ((l.getD k 0).toNat : Int) (by unfold wrap64; omega) (by omega) (by omega) (by unfold wrap64; omega) (by unfold wrap64; omega)
      generalize l.getD k 0 = c at hcell e1 hc ho
      generalize takenB (l.take k) = x at hr ho e1
      have E1 := Lib.hid e1
      have Ho := Lib.hid ho
      clear e1 ho
      go_wp2_with fail
      go_roundw
      case rel =>
        refine ⟨k + 1, hlt, by go_num, ?_, h1⟩
        rw [E1.out, ← Ho.out]
      case measure => simp [intOf]; omega
    · obtain rfl : k = l.length := by omega
      go_wp2
      go_ret
      exact ⟨by simp, h1⟩

theorem setList_cellsV {l s : List UInt8} {o : Nat} (h : o + s.length ≤ l.length) : setList (cellsV l).toArray o (cellsV s) = (cellsV (putAt l o s)).toArray := by
  apply Array.toList_inj.1
  rw [setList_toList _ _ _ (by simpa using h)]
  simp [cellsV, putAt]

theorem headB_built (size groups hand : Int) : putAt (putAt (putAt (putAt (List.replicate 64 0) 0 markB) 13 (numB 4 size)) 17 (numB 8 groups)) 25 (numB 2 hand) = headB size groups hand := rfl

/-- The mark, copied into new bytes. -/
theorem copy_mark {w : World} {g : Nat} {l : List UInt8} {R : Assn} (h : Bears w (Assn.obj g (.cells (cellsV l).toArray 5 (0, 0)) * R)) (hl : l.length = 64) :
    ∃ w', (Builtin.copy_ #[34, 9] 3 #[.slice (some ⟨g, 0, none⟩) 64 64, .string ⟨#[101, 115, 116, 97, 102, 101, 116, 116, 101, 58, 108, 111, 103]⟩]).run Tryz.prog w = .ok (goInt 13) w' ∧
      Bears w' (Assn.obj g (.cells (cellsV (putAt l 0 markB)).toArray 5 (0, 0)) * R) := by
  have hz : ∀ w, (Go.sizeOf 5).run Tryz.prog w = .ok 1 w := fun w => by kernel_rfl
  refine ⟨_, run_copy_string (P := Tryz.prog) w 34 9 3 5 g 0 64 64 ⟨#[101, 115, 116, 97, 102, 101, 116, 116, 101, 58, 108, 111, 103]⟩ Tryz.underlying34 hz (by decide)
    (fun j hj => by rw [Nat.zero_add, cell_of_obj h.obj]; have : j < 13 := hj; simp [hl]; omega) (fun j hj => frozen_of_obj h.obj _), ?_⟩
  have h2 := h.setCells 0 (cellsV markB)
  rw [setList_cellsV (by rw [hl]; decide)] at h2
  exact h2

set_option maxRecDepth 100000 in
set_option maxHeartbeats 800000 in
theorem whead_any {R : Assn} {w : World} (h : Bears w R) (size groups hand : Int) :
    Calls Tryz.prog 81 #[.int .i64 size, .int .i64 groups, .int .i64 hand] w fun e w' => ∃ g, e = .returned (.slice (some ⟨g, 0, none⟩) 64 64) ∧ Bears w' (Assn.obj g (.cells (cellsV (headB size groups hand)).toArray 5 (0, 0)) * R) := by
  rw [← headB_built]
  have hzl : (List.replicate 64 (0 : UInt8)).length = 64 := rfl
  have hmk : ∀ w, (Instr.makeSlice 34 (.int .i64 64) (.int .i64 64)).run Tryz.prog w = .ok (.slice (some ⟨w.heap.size, 0, none⟩) 64 64) (w.alloc (.cells (cellsV (List.replicate 64 0)).toArray 5)) := fun _ => by kernel_rfl
  generalize List.replicate 64 (0 : UInt8) = z at hzl hmk
  have h1 := h.alloc (.cells (cellsV z).toArray 5)
  obtain ⟨w1, hcp, h2⟩ := copy_mark h1 hzl
  have l1 : (putAt z 0 markB).length = 64 := by rw [putAt_length (by rw [hzl]; decide)]; exact hzl
  generalize putAt z 0 markB = z1 at l1 h2
  have l2 : (putAt z1 13 (numB 4 size)).length = 64 := by rw [putAt_length (by rw [l1, numB_length]; decide)]; exact l1
  have l3 : (putAt (putAt z1 13 (numB 4 size)) 17 (numB 8 groups)).length = 64 := by rw [putAt_length (by rw [l2, numB_length]; decide)]; exact l2
  clear h h1
  go_enter Tryz.func81, Tryz.ntmps81
  go_wp2_with (refine wpList_op rfl (exec_copy rfl rfl rfl hcp) ?_)
  refine (number_any (o := 13) (m := 4) h2 size (by rw [l1]; decide) (by decide)).mono ?_
  rintro e w2 ⟨rfl, h3⟩
  go_wp2_with fail
  refine (number_any (o := 17) (m := 8) h3 groups (by rw [l2]; decide) (by decide)).mono ?_
  rintro e w3 ⟨rfl, h4⟩
  go_wp2_with fail
  refine (number_any (o := 25) (m := 2) h4 hand (by rw [l3]; decide) (by decide)).mono ?_
  rintro e w4 ⟨rfl, h5⟩
  go_wp2_with fail
  go_ret
  exact ⟨_, rfl, h5⟩

end Go.Proofs.YtcggloceabjjdaaGreat
