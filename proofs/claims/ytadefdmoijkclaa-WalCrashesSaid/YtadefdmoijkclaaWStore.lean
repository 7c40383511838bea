/- Blocks that are never written again; rows of puts; arrays of bools; no condition. -/
import Derived.Test.YtadefdmoijkclaaWLawD
namespace Go.Proofs.Ytadefdmoijkclaa
open Go.RowKit Go.MapKept

/-- Blocks that stay as they are. -/
def storeA : List (Nat × Obj) → Assn
  | [] => Assn.emp
  | (b, o) :: S => Assn.obj b o * storeA S
theorem Bears.toStore {w : World} {b : Nat} {o : Obj} {S : List (Nat × Obj)} {R : Assn} (h : Bears w (Assn.obj b o * (storeA S * R))) : Bears w (storeA ((b, o) :: S) * R) :=
  h.cast (Assn.mul_assoc' _ _ _).symm
theorem Bears.noStore {w : World} {R : Assn} : Bears w R → Bears w (storeA [] * R) := fun h => h.cast (Assn.emp_mul R).symm
theorem storeA_tells {b : Nat} {o : Obj} : ∀ {S : List (Nat × Obj)} {R : Assn}, (b, o) ∈ S → (storeA S * R).Tells (fun w => w.heap[b]? = some o)
  | [], _, h => absurd h (by simp)
  | (b', o') :: S, R, h => by
    intro w hw
    have h2 : Bears w (Assn.obj b' o' * (storeA S * R)) := hw.cast (Assn.mul_assoc' _ _ _)
    rcases List.mem_cons.1 h with e | h
    · obtain ⟨rfl, rfl⟩ := Prod.mk.inj e
      exact h2.obj
    · exact storeA_tells h w h2.right

theorem Bears.emptyRow {w : World} {R : Assn} (h : Bears w R) (e : TypeId) (size : Nat) : Bears (w.alloc (.cells #[] e)) (rowA e size (.slice (some ⟨w.heap.size, 0, none⟩) 0 0) 0 [] * R) := by
  obtain ⟨F, G, H, ⟨hb, rfl⟩, hR, hd, rfl⟩ := h.alloc (.cells #[] e)
  exact ⟨_, _, H, ⟨⟨by simp, .inr ⟨w.heap.size, 0, #[], rfl, Nat.zero_le _, hb, Nat.le_refl _, Nat.zero_le _, by simp, by simp⟩⟩, by funext b; simp [Value.ownBlock, eq_comm]⟩, hR, hd, rfl⟩

theorem drop_take_cells : ∀ (l : List PutM) (k : Nat), k < l.length → ((putCells l).drop (k * 2)).take 2 = [.int .i64 (l.getD k default).sector, (l.getD k default).val]
  | [], _, h => absurd h (by simp)
  | p :: l, 0, _ => rfl
  | p :: l, k + 1, h => by
    have := drop_take_cells l k (by simpa using h)
    rw [show (k + 1) * 2 = k * 2 + 1 + 1 by omega]
    simpa [putCells] using this

theorem PutsIn.row {w : World} {v : Value} {n : Nat} {l : List PutM} {R : Assn} (h : Bears w (rowA 37 2 v n (putCells l) * R)) (hn : n = l.length) (hb : ∀ p ∈ l, R.Tells (fun w => BytesIn w p.val p.bytes)) : PutsIn w v l := by
  subst hn
  obtain ⟨a, c, rfl, hc, _, hr⟩ := h.rowForm
  refine ⟨a, c, rfl, hc, fun hne => ?_⟩
  obtain ⟨g, rfl, _⟩ := hr 0 (List.length_pos_iff.2 hne)
  refine ⟨g, 0, rfl, fun k hk => ?_⟩
  obtain ⟨g', he, h2⟩ := hr k hk
  cases he
  rw [drop_take_cells l k hk] at h2
  refine ⟨by rw [Nat.zero_add]; exact h2 0 _ rfl, by rw [Nat.zero_add]; exact h2 1 _ rfl, hb _ (getD_mem hk) w h.right⟩

/-- A put whose bytes lie in a block of the store. -/
def PutHeld (S : List (Nat × Obj)) (p : PutM) : Prop := ∃ g, p = putOf p.sector g p.bytes ∧ (g, Obj.cells (cellsV p.bytes).toArray 5 (0, 0)) ∈ S
theorem PutHeld.tells {S : List (Nat × Obj)} {p : PutM} (h : PutHeld S p) {R : Assn} : (storeA S * R).Tells (fun w => BytesIn w p.val p.bytes) := by
  obtain ⟨g, hp, hm⟩ := h
  intro w hw
  have := storeA_tells hm w hw
  rw [hp]
  exact BytesIn.obj' this _
theorem PutHeld.mono {S : List (Nat × Obj)} {p : PutM} {q : Nat × Obj} (h : PutHeld S p) : PutHeld (q :: S) p := by
  obtain ⟨g, hp, hm⟩ := h
  exact ⟨g, hp, List.mem_cons_of_mem _ hm⟩
theorem rowPuts_tells {v : Value} {n : Nat} {l : List PutM} {S : List (Nat × Obj)} {R : Assn} (hn : n = l.length) (hh : ∀ p ∈ l, PutHeld S p) : (rowA 37 2 v n (putCells l) * (storeA S * R)).Tells (fun w => PutsIn w v l) :=
  fun _ h => PutsIn.row h hn (fun p hp => (hh p hp).tells)

theorem putCells_snoc (l : List PutM) (p : PutM) : putCells (l ++ [p]) = putCells l ++ [.int .i64 p.sector, p.val] := by simp [putCells]
theorem wMayTo_snoc {n a s : Nat} (p : PutM) : ∀ (l seen : List PutM), wMayTo n a s seen (l ++ [p]) = (wMayTo n a s seen l && wOk n a s (seen ++ l) p)
  | [], seen => by simp [wMayTo]
  | q :: l, seen => by
    simp only [List.cons_append, wMayTo]
    rw [wMayTo_snoc p l (seen ++ [q]), List.append_assoc, Bool.and_assoc]
    rfl

theorem u_puts : Try.prog.underlying 33 = some (.slice 37) := by kernel_rfl
theorem i_put : (Try.prog.info? 37).map (fun i => (i.zero, i.size, i.bytes)) = some (some (.agg #[.int .i64 0, .slice none 0 0]), 2, 32) := by kernel_rfl

/-! ### Arrays of bools -/
def boolsV (l : List Bool) : List Value := l.map Value.bool
theorem Bears.boolCell {w : World} {b : Nat} {l : List Bool} {t : TypeId} {R : Assn} (h : Bears w (Assn.obj b (.cells (boolsV l).toArray t (0, 0)) * R)) {j : Nat} (hj : j < l.length) : w.cell? ⟨b, j, none⟩ = some (.bool (l.getD j false)) := by
  rw [cell_of_obj h.obj]
  simp [boolsV, hj]
theorem Bears.setBool {w : World} {b : Nat} {l : List Bool} {t : TypeId} {R : Assn} (h : Bears w (Assn.obj b (.cells (boolsV l).toArray t (0, 0)) * R)) (j : Nat) (c : Bool) :
    Bears (w.setCell ⟨b, j, none⟩ (.bool c)) (Assn.obj b (.cells (boolsV (l.set j c)).toArray t (0, 0)) * R) :=
  (h.setCell (i := j) (.bool c)).cast (by simp [boolsV, List.map_set])

theorem wfull_num {R : Assn} {w : World} (h : Bears w R) (c c2 : UInt8) {x y : Int} (hx : x = c.toNat) (hy : y = c2.toNat) :
    Calls Try.prog 14 #[.int .u8 x, .int .u8 y] w fun e w' => ∃ g, e = .returned (.slice (some ⟨g, 0, none⟩) 64 64) ∧ Bears w' (Assn.obj g (.cells (cellsV (fullS c c2)).toArray 5 (0, 0)) * R) := by
  subst hx hy
  exact wfull_any h c c2

/-- A value that is built of nothing. -/
theorem exec_build0 {P : Program} {ev : Operand → Value} {o : Oper} {t : TypeId} {v : Value} {w : World} (ho : o.op = .build t #[]) (h : (Instr.build t #[]).run P w = .ok v w) : (execOp ev o).run P w = .ok (.value v) w := by
  unfold execOp
  simp only [ho, List.map_toArray, List.map_nil, Sem.run_bind, h, Result.andThen_ok]
  rfl

end Go.Proofs.Ytadefdmoijkclaa
