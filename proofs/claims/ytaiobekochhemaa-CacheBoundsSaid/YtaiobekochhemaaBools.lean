/- Arrays of bools; a value that is built of nothing; no condition. -/
import Derived.Test.YtaiobekochhemaaPutRow
namespace Go.Proofs.Ytaiobekochhemaa
open Go.RowKit Go.MapKept

def boolsV (l : List Bool) : List Value := l.map Value.bool
theorem Bears.boolCell {w : World} {b : Nat} {l : List Bool} {t : TypeId} {R : Assn} (h : Bears w (Assn.obj b (.cells (boolsV l).toArray t (0, 0)) * R)) {j : Nat} (hj : j < l.length) : w.cell? ⟨b, j, none⟩ = some (.bool (l.getD j false)) := by
  rw [cell_of_obj h.obj]
  simp [boolsV, hj]
theorem Bears.setBool {w : World} {b : Nat} {l : List Bool} {t : TypeId} {R : Assn} (h : Bears w (Assn.obj b (.cells (boolsV l).toArray t (0, 0)) * R)) (j : Nat) (c : Bool) :
    Bears (w.setCell ⟨b, j, none⟩ (.bool c)) (Assn.obj b (.cells (boolsV (l.set j c)).toArray t (0, 0)) * R) :=
  (h.setCell (i := j) (.bool c)).cast (by simp [boolsV, List.map_set])
theorem oneCell_bools (l : List Bool) : ∀ v ∈ boolsV l, v.oneCell' = true := by
  intro v hv
  obtain ⟨u, _, rfl⟩ := List.mem_map.1 hv
  rfl
theorem exec_build0 {P : Program} {ev : Operand → Value} {o : Oper} {t : TypeId} {v : Value} {w : World} (ho : o.op = .build t #[]) (h : (Instr.build t #[]).run P w = .ok v w) : (execOp ev o).run P w = .ok (.value v) w := by
  unfold execOp
  simp only [ho, List.map_toArray, List.map_nil, Sem.run_bind, h, Result.andThen_ok]
  rfl
theorem wpList_load_range {P : Program} {w : World} {ops : Array Oper} {rest : List Oper} {o : Oper} {a : Act} {Q : Exit → Act → World → Prop} (ty : TypeId) (x : Operand) (hg : o.guard = none) (ho : o.op = .load ty x) (b off : Nat) (hx : a.eval x = .pointer (some ⟨b, off, none⟩)) (cs : List Value) (d : TypeDesc) (hc : w.rangeAt b off cs)
    (hu : P.underlying ty = some d) (hd : d.isRow = true) (hi : (P.info? ty).map (·.size) = some cs.length)
    (h : wpList P ops Q rest (a.put o.dst (.agg cs.toArray)) w) : wpList P ops Q (o :: rest) a w := by
  refine wpList_plain hg fun _ hK' => ?_
  unfold Oper.wp execOp
  simp only [ho, hx, Instr.loadAt, Instr.sureAddr, Sem.run_bind, Sem.run_pure, Result.andThen_ok, run_loadVar_mid w b off ty cs d hc hu hd hi]
  exact hK' _ _ h

end Go.Proofs.Ytaiobekochhemaa
