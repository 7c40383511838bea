/- The disk's functions, with what they answer named; no condition. -/
import Derived.Test.YtaiobekochhemaaDiskW7
import Derived.Laws.IdiomStrings
namespace Go.Proofs.Ytaiobekochhemaa
open Go.RowKit Go.MapKept

theorem u_bytes : Try.prog.underlying 43 = some (.slice 5) := by kernel_rfl
theorem u_byte : Try.prog.underlying 5 = some (.int .u8) := by kernel_rfl
theorem u_string : Try.prog.underlying 9 = some .string := by kernel_rfl

/-- A string of bytes. -/
abbrev strV (l : List UInt8) : Value := .string ⟨l.toArray⟩

theorem run_convert_in {w : World} {ad : Option Addr} {n cap : Nat} {l : List UInt8} (h : BytesIn w (.slice ad n cap) l) :
    (convert 43 9 (.slice ad n cap)).run Try.prog w = .ok (strV l) w := by
  by_cases hl : l = []
  · subst hl
    have := h.len
    subst this
    rw [run_convert_bytes_string w 43 9 5 _ _ _ u_bytes u_byte u_string]
    cases ad with
    | none => simp [Conv.bytesToString]; rfl
    | some a => simp [Conv.bytesToString, loadCells, loadCellsFrom]; rfl
  · obtain ⟨b, o, rfl, hr⟩ := h.at hl
    have := h.len
    subst this
    exact run_convert_bytes_back w 43 9 5 ⟨b, o, none⟩ cap l u_bytes u_byte u_string (fun j hj => by
      rw [Addr.add_mid]
      exact hr j _ (by simp [cellsV, hj, byteV]))

theorem write_to {p : Nat} {d d' : DiskM} {R : Assn} {w : World} {i r : Int} {l : List UInt8} {ad : Option Addr} {n cap : Nat} (h : Bears w (diskA p d * R)) (heq : d.write i l = (r, d')) (hb : R.Tells (fun w => BytesIn w (.slice ad n cap) l))
    (hroom : d.waits.length < 1099511627776) :
    Calls Try.prog 63 #[.pointer (some ⟨p, 0, none⟩), .int .i64 i, .slice ad n cap] w fun e w' => e = .returned (.int .i64 r) ∧ Bears w' (diskA p d' * R) := by
  have hn := (hb w h.right).len
  subst hn
  have := write_any h i l ad cap hb hroom
  rw [heq] at this
  exact this

theorem barrier_to {p : Nat} {d d' : DiskM} {R : Assn} {w : World} {r : Int} (h : Bears w (diskA p d * R)) (heq : d.barrier = (r, d')) (hroom : d.waits.length < 1099511627776) :
    Calls Try.prog 64 #[.pointer (some ⟨p, 0, none⟩)] w fun e w' => e = .returned (.int .i64 r) ∧ Bears w' (diskA p d' * R) := by
  have := barrier_any h hroom
  rw [heq] at this
  exact this

theorem read_to {p : Nat} {d : DiskM} {R : Assn} {w : World} (i : Int) {s : Sec} (h : Bears w (diskA p d * R)) (hck : d.check i = 0) (hs : d.now i.toNat = s) :
    Calls Try.prog 46 #[.pointer (some ⟨p, 0, none⟩), .int .i64 i] w fun e w' => ∃ g, e = .returned (.tuple #[.slice (some ⟨g, 0, none⟩) 64 64, .int .i64 0]) ∧
      Bears w' (Assn.obj g (.cells (cellsV s).toArray 125 (0, 0)) * (diskA p d * R)) := by
  obtain ⟨n, rfl⟩ := Int.eq_ofNat_of_zero_le (check_range hck).2.1
  have := read_ok h n hck
  rw [show ((n : Int)).toNat = n from rfl] at hs
  rw [hs] at this
  exact this

theorem read_bad {p : Nat} {d : DiskM} {R : Assn} {w : World} {c : Int} (h : Bears w (diskA p d * R)) (i : Int) (heq : d.check i = c) (hc : c ≠ 0) :
    Calls Try.prog 46 #[.pointer (some ⟨p, 0, none⟩), .int .i64 i] w fun e w' => e = .returned (.tuple #[.slice none 0 0, .int .i64 c]) ∧ w = w' := by
  subst heq
  exact read_no h i hc

theorem boot_to {p : Nat} {d d' : DiskM} {R : Assn} {w : World} (ks : List Int) {ad : Option Addr} {n cap : Nat} (h : Bears w (diskA p d * R)) (hn : n = ks.length) (heq : d.boot ks = d') (hk : R.Tells (fun w => IntsIn w (.slice ad n cap) ks))
    (hb : ∀ x ∈ ks, -9223372036854775808 ≤ x ∧ x ≤ 9223372036854775807) (hlen : ks.length ≤ 9223372036854775807) (hroom : d.waits.length < 1099511627776) :
    Calls Try.prog 45 #[.pointer (some ⟨p, 0, none⟩), .slice ad n cap] w fun e w' => e = .returned (.tuple #[]) ∧ Bears w' (diskA p d' * R) := by
  subst hn
  have := boot_any h ks ad cap hk hb hlen hroom
  rw [heq] at this
  exact this

theorem fuse_to {p : Nat} {d d' : DiskM} {R : Assn} {w : World} {n : Int} (h : Bears w (diskA p d * R)) (heq : d.setFuse n = d') (hn : n < 9223372036854775808) :
    Calls Try.prog 44 #[.pointer (some ⟨p, 0, none⟩), .int .i64 n] w fun e w' => e = .returned (.tuple #[]) ∧ Bears w' (diskA p d' * R) := by
  have := fuse_any h n hn
  rw [heq] at this
  exact this

theorem Bears.byteCell {w : World} {b : Nat} {l : List UInt8} {t : TypeId} {R : Assn} (h : Bears w (Assn.obj b (.cells (cellsV l).toArray t (0, 0)) * R)) {j : Nat} (hj : j < l.length) : w.cell? ⟨b, j, none⟩ = some (byteV (l.getD j 0)) := by
  rw [cell_of_obj h.obj]
  simp [cellsV, hj]

theorem Bears.setByte {w : World} {b : Nat} {l : List UInt8} {t : TypeId} {R : Assn} (h : Bears w (Assn.obj b (.cells (cellsV l).toArray t (0, 0)) * R)) (j : Nat) (c : UInt8) :
    Bears (w.setCell ⟨b, j, none⟩ (byteV c)) (Assn.obj b (.cells (cellsV (l.set j c)).toArray t (0, 0)) * R) :=
  (h.setCell (i := j) (byteV c)).cast (by simp [cellsV, List.map_set])

/-- A conversion of bytes to a string, at the list of a region's operations. -/
theorem wpList_conv {P : Program} {ops : Array Oper} {rest : List Oper} {o : Oper} {a : Act} {Q : Exit → Act → World → Prop} {w : World} {ss dd : TypeId} {x : Operand} {v u : Value} (hg : Region.wanted o (yielded ops a.tmps) = true) (ho : o.op = .convert ss dd x) (hx : a.eval x = v)
    (hrun : (convert ss dd v).run P w = .ok u w) (h : wpList P ops Q rest (a.put o.dst u) w) : wpList P ops Q (o :: rest) a w := by
  refine wpList_step fun K hK => ?_
  rw [if_pos hg]
  exact wp_of_run (exec_convert ho hx hrun) (hK _ _ h)

theorem str_eq (a b : List UInt8) : ((⟨a.toArray⟩ : ByteArray).toList == (⟨b.toArray⟩ : ByteArray).toList) = decide (a = b) := by
  rw [ByteArray.toList_mk, ByteArray.toList_mk, Bool.eq_iff_iff]
  simp

/-- An operation whose run is known. -/
theorem wpList_op {P : Program} {ops : Array Oper} {rest : List Oper} {o : Oper} {a : Act} {Q : Exit → Act → World → Prop} {w w' : World} {v : Value} (hg : o.guard = none) (hrun : (execOp a.eval o).run P w = .ok (.value v) w')
    (h : wpList P ops Q rest (a.put o.dst v) w') : wpList P ops Q (o :: rest) a w := by
  refine wpList_plain hg fun _ hK => ?_
  unfold Oper.wp
  simp [hrun]
  exact hK _ _ h

/-- A slice, cut with three indices. -/
theorem exec_slice3 {P : Program} {ev : Operand → Value} {o : Oper} {t : TypeId} {x a b c : Operand} {g lo hi mx len cap : Nat} {w : World} {e : TypeId} (ho : o.op = .slice t x (some a) (some b) (some c)) (ht : P.underlying t = some (.slice e)) (hz : (Go.sizeOf e).run P w = .ok 1 w)
    (hx : ev x = .slice (some ⟨g, 0, none⟩) len cap) (ha : ev a = .int .i64 lo) (hb : ev b = .int .i64 hi) (hc : ev c = .int .i64 mx) (h1 : lo < hi) (h2 : hi ≤ mx) (h3 : mx ≤ cap) :
    (execOp ev o).run P w = .ok (.value (.slice (some ⟨g, lo, none⟩) (hi - lo) (mx - lo))) w := by
  unfold execOp
  go_simp
  rw [if_pos (by omega), if_neg (by omega)]

theorem exec_copy {P : Program} {ev : Operand → Value} {o : Oper} {d s : Operand} {t t' : TypeId} {v u v' : Value} {w w' : World} (ho : o.op = .call { callee := .builtin .copy, args := #[d, s], argTypes := #[t, t'] }) (hd : ev d = v) (hs : ev s = u)
    (hr : (Builtin.copy_ #[t, t'] o.type #[v, u]).run P w = .ok v' w') : (execOp ev o).run P w = .ok (.value v') w' := by
  unfold execOp
  simp only [ho, resolve, invoke, builtin, Sem.run_bind, Sem.run_pure, Result.andThen_ok, List.map_toArray, List.map_cons, List.map_nil, hd, hs, hr]

end Go.Proofs.Ytaiobekochhemaa
