/- Texts of this claim, put together: IW16, IW17, IW18, IW19, IW20, IW21; no condition. -/
import Derived.Test.YtggbnelbnbaoiaaGreatMd7a2dd1f3a
import Derived.Lib.SliceRun
import Derived.Lib.MinMax

set_option linter.unusedSimpArgs false
set_option linter.unusedVariables false

/- Walks of the files' functions, part 16: cut; no condition. -/
namespace Go.Proofs.YtggbnelbnbaoiaaGreat
open Go.RowKit Go.MapKept

theorem addr_add (g o n : Nat) : (⟨g, o, none⟩ : Addr).add n = ⟨g, o + n, none⟩ := by
  unfold Addr.add
  split
  · subst_vars; rfl
  · rfl
/-- A slice, cut with two indices; with the first one alone. -/
theorem exec_slice2 {P : Program} {ev : Operand → Value} {op : Oper} {t : TypeId} {x a b : Operand} {g o lo hi len cap : Nat} {w : World} {e : TypeId} (ho : op.op = .slice t x (some a) (some b) none) (ht : P.underlying t = some (.slice e)) (hz : (Go.sizeOf e).run P w = .ok 1 w)
    (hx : ev x = .slice (some ⟨g, o, none⟩) len cap) (ha : ev a = .int .i64 lo) (hb : ev b = .int .i64 hi) (h1 : lo < hi) (h3 : hi ≤ cap) :
    (execOp ev op).run P w = .ok (.value (.slice (some ⟨g, o + lo, none⟩) (hi - lo) (cap - lo))) w := by
  unfold execOp
  go_simp
  rw [if_pos (by omega)]
  go_simp
  omega
theorem exec_slice1 {P : Program} {ev : Operand → Value} {op : Oper} {t : TypeId} {x a : Operand} {g o lo len cap : Nat} {w : World} {e : TypeId} (ho : op.op = .slice t x (some a) none none) (ht : P.underlying t = some (.slice e)) (hz : (Go.sizeOf e).run P w = .ok 1 w)
    (hx : ev x = .slice (some ⟨g, o, none⟩) len cap) (ha : ev a = .int .i64 lo) (h1 : lo ≤ len) (h3 : lo < cap) :
    (execOp ev op).run P w = .ok (.value (.slice (some ⟨g, o + lo, none⟩) (len - lo) (cap - lo))) w := by
  unfold execOp
  go_simp
  omega

theorem cutB_cutB {b : Nat → UInt8} {m n : Nat} (h : n ≤ m) : cutB (cutB b m) n = cutB b n := by
  funext j
  unfold cutB
  by_cases e : j < n
  · rw [if_pos e, if_pos e, if_pos (by omega)]
  · rw [if_neg e, if_neg e]
theorem cutB_over {b : Nat → UInt8} {m : Nat} (h : ∀ j, m ≤ j → b j = 0) : cutB b m = b := by
  funext j
  unfold cutB
  split
  · rfl
  · rw [h j (by omega)]
theorem shrinkX_fits {x : NodeM} (h : x.Fits) (j : Nat) : (shrinkX x j).Fits := by
  unfold shrinkX
  split
  · exact ⟨h.kind, h.links, h.size, h.d0, h.d1, h.d2, h.d3, by simp, h.wide⟩
  · split
    · exact ⟨h.kind, h.links, h.size, h.d0, h.d1, h.d2, h.d3, h.near, by simp⟩
    · exact h

/-- What cut's loop leaves, at c blocks. -/
structure Cutten (len : Nat) (G G' : Nat → Sec) (X : Nat → NodeM) (B : Nat → Nat → UInt8) (Ls : Nat → LayM) (n c : Nat) (x' : NodeM) (L' : LayM) : Prop where
  core : Core len G' (updF X n x') (updF B n (cutB (B n) (64 * c))) (updF Ls n L') []
  lenB : L'.blk.length = c
  blk : blkN len G' = blkN len G + ((costN (Ls n).blk.length : Int) - costN c)
  ino : ∀ m, inodeB len G' m = inodeB len G m
  kind : x'.kind = (X n).kind
  links : x'.links = (X n).links
  size : x'.size = (X n).size
  fits : (X n).Fits → x'.Fits
section
variable {f s p len g xb n j : Nat} {k : List Nat} {d : DiskM} {F G : Nat → Sec} {X : Nat → NodeM} {B : Nat → Nat → UInt8} {Ls : Nat → LayM} {R : Assn} {w : World}

theorem Cutten.start (hc : Core len G X B Ls []) (hn : n < 256) : Cutten len G G X B Ls n (Ls n).blk.length (X n) (Ls n) := by
  refine ⟨?_, rfl, by omega, fun _ => rfl, rfl, rfl, rfl, id⟩
  rw [updF_id, updF_id, cutB_over (hc.data n hn).tail, updF_id]
  exact hc
theorem Cutten.step {G' G2 : Nat → Sec} {x' : NodeM} {L' : LayM} {c : Nat} (h : Cutten len G G' X B Ls n (c + 1) x' L')
    (hs : Shrunk len G' G2 (updF X n x') (updF B n (cutB (B n) (64 * (c + 1)))) (updF Ls n L') n c []) : Cutten len G G2 X B Ls n c (shrinkX x' c) (shrinkL L' c) := by
  obtain ⟨h1, h2, h3⟩ := hs
  simp only [updF_self, updF_updF] at h1 h2
  rw [cutB_cutB (by omega)] at h1
  have hg := goneL_len L' c
  refine ⟨h1, ?_, ?_, fun m => by rw [h3, h.ino], ?_, ?_, ?_, fun hf => shrinkX_fits (h.fits hf) c⟩
  · show (L'.blk.take c).length = c
    rw [List.length_take, h.lenB]; omega
  · rw [h2, h.blk]
    simp only [List.length_nil]
    omega
  · rw [← h.kind]; unfold shrinkX; split
    · rfl
    · split <;> rfl
  · rw [← h.links]; unfold shrinkX; split
    · rfl
    · split <;> rfl
  · rw [← h.size]; unfold shrinkX; split
    · rfl
    · split <;> rfl

/-- What cut leaves. -/
structure CutTo (len : Nat) (G G' : Nat → Sec) (X : Nat → NodeM) (B : Nat → Nat → UInt8) (Ls : Nat → LayM) (n tz : Nat) (x' : NodeM) (L' : LayM) : Prop where
  core : Core len G' (updF X n x') (updF B n (cutB (B n) tz)) (updF Ls n L') []
  lenB : L'.blk.length = nBlk tz
  blk : blkN len G' = blkN len G + ((costN (Ls n).blk.length : Int) - costN (nBlk tz))
  ino : ∀ m, m < 256 → inodeB len G' m = inodeB len G m
  kind : x'.kind = (X n).kind
  links : x'.links = (X n).links
  size : x'.size = tz
  fits : (X n).Fits → x'.Fits

/-- Bytes are cleared in a row. -/
theorem clear_row {ty : TypeId} {w : World} {g o c m dCap : Nat} {l : List UInt8} {R : Assn} (h : Bears w (rowA 5 1 (.slice (some ⟨g, 0, none⟩) 64 c) 64 (cellsV l) * R)) (hl : l.length = 64) (hm : 0 < m) (ho : o + m = 64) :
    ∃ w', (Builtin.clear_ #[22] ty #[.slice (some ⟨g, o, none⟩) m dCap]).run Tryz.prog w = .ok (.tuple #[]) w' ∧
      Bears w' (rowA 5 1 (.slice (some ⟨g, 0, none⟩) 64 c) 64 (cellsV (putAt l o (List.replicate m 0))) * R) := by
  have hrun := Lib.run_clear_slice (P := Tryz.prog) w 22 5 ty (.int .u8 0) u_bytes (fun w => by kernel_rfl) (by simp [Value.cells]) rfl g o m dCap hm
    (fun j hj => by
      rw [h.rowCell (i := o + j) (by omega) (v := (cellsV l)[o + j]'(by simp; omega)) (List.getElem?_eq_getElem _)]
      rfl)
    (fun j hj => h.rowFrozen _)
  refine ⟨_, hrun, ?_⟩
  have e : List.replicate m (Value.int .u8 0) = cellsV (List.replicate m 0) := by
    unfold cellsV byteV
    rw [List.map_replicate]
    rfl
  rw [e]
  have h2 := h.rowSets (cellsV (List.replicate m 0)) o (by simp; omega)
  rw [setList_cellsV (by simp; omega)] at h2
  exact h2
theorem exec_clear {P : Program} {ev : Operand → Value} {o : Oper} {d : Operand} {t : TypeId} {v v' : Value} {w w' : World} (ho : o.op = .call { callee := .builtin .clear, args := #[d], argTypes := #[t] }) (hd : ev d = v)
    (hr : (Builtin.clear_ #[t] o.type #[v]).run P w = .ok v' w') : (execOp ev o).run P w = .ok (.value v') w' := by
  unfold execOp
  simp only [ho, resolve, invoke, builtin, Sem.run_bind, Sem.run_pure, Result.andThen_ok, List.map_toArray, List.map_cons, List.map_nil, hd, hr]

theorem chunk_cut {b : Nat → UInt8} {tz k : Nat} (hk : tz / 64 = k) : putAt (chunkB (cutB b (64 * (k + 1))) k) (tz % 64) (List.replicate (64 - tz % 64) 0) = chunkB (cutB b tz) k := by
  have hl : (chunkB (cutB b (64 * (k + 1))) k).length = 64 := chunkB_length _ _
  have hl2 : (List.replicate (64 - tz % 64) (0 : UInt8)).length = 64 - tz % 64 := by simp
  refine chunk_ext (by rw [putAt_length (by rw [hl, hl2]; omega)]; exact hl) (chunkB_length _ _) fun j hj => ?_
  rw [chunkB_getD _ _ hj]
  unfold putAt
  rw [List.getD_eq_getElem?_getD, List.append_assoc, List.getElem?_append]
  have ht : ((chunkB (cutB b (64 * (k + 1))) k).take (tz % 64)).length = tz % 64 := by rw [List.length_take, hl]; omega
  rw [ht, hl2]
  by_cases h1 : j < tz % 64
  · rw [if_pos h1, List.getElem?_take, if_pos h1, ← List.getD_eq_getElem?_getD, chunkB_getD _ _ hj]
    unfold cutB
    rw [if_pos (by omega), if_pos (by omega)]
  · rw [if_neg h1, List.getElem?_append_left (by rw [hl2]; omega), List.getElem?_replicate, if_pos (by omega)]
    unfold cutB
    rw [if_neg (by omega)]
    rfl

theorem Cutten.done {G' : Nat → Sec} {x' : NodeM} {L' : LayM} {tz : Nat} (hto : tz ≤ 16384) (h : Cutten len G G' X B Ls n (nBlk tz) x' L') (h0 : cutB (B n) (64 * nBlk tz) = cutB (B n) tz) : CutTo len G G' X B Ls n tz { x' with size := tz } L' := by
  refine ⟨?_, h.lenB, h.blk, fun m _ => h.ino m, h.kind, h.links, rfl, fun hf => ?_⟩
  · have := h.core
    rw [h0] at this
    exact this.renode (NodeM.same_attr x' x'.kind x'.links tz)
  · have := h.fits hf
    exact ⟨this.kind, this.links, by simp only; omega, this.d0, this.d1, this.d2, this.d3, this.near, this.wide⟩

set_option maxRecDepth 100000 in
set_option maxHeartbeats 4000000 in
theorem cut_any (h : Bears w (nodeObj xb (X n) * (filesObj f s * (spA s p d len g k true F G * R)))) (hc : Core len G X B Ls []) (hn : n < 256) (hk : (Ls n).blk.length = nBlk (X n).size) (hs : (X n).size ≤ 16384) (h0 : ∀ j, (X n).size ≤ j → B n j = 0) (tz : Nat) (hto : tz ≤ (X n).size) :
    Calls Tryz.prog 99 #[.pointer (some ⟨f, 0, none⟩), .pointer (some ⟨xb, 0, none⟩), .int .i64 tz] w fun e w' => e = .returned (.int .i64 0) ∧ ∃ (G' : Nat → Sec) (x' : NodeM) (L' : LayM) (k' : List Nat),
      CutTo len G G' X B Ls n tz x' L' ∧ Bears w' (nodeObj xb x' * (filesObj f s * (spA s p d len g k' true F G' * R))) := by
  have c2 := cell_of_obj h.obj 2
  simp only [List.getElem?_toArray, List.getElem?_cons_zero, List.getElem?_cons_succ] at c2
  have hb1 := fun w => blocks_any (X n).size w (by omega)
  have hb2 := fun w => blocks_any tz w (by omega)
  have hst := Cutten.start hc hn
  rw [hk] at hst
  have Hst := Lib.hid hst
  have Hb1 := Lib.hid hb1
  have Hb2 := Lib.hid hb2
  have Hk := Lib.hid hk
  have Hc := Lib.hid hc
  have H0 := Lib.hid h0
  have hle : nBlk tz ≤ nBlk (X n).size := by unfold nBlk; omega
  have hmx : nBlk (X n).size ≤ 256 := by unfold nBlk; omega
  generalize hsz : nBlk (X n).size = sb at Hst Hb1 Hk hle hmx
  generalize htz : nBlk tz = tb at Hb2 hle
  have Hsz := Lib.hid hsz
  have Htz := Lib.hid htz
  clear hb1 hb2 hst hk hc h0 hsz htz
  go_enter Tryz.func99, Tryz.ntmps99
  go_wp2_with fail
  refine (Hb1.out _).mono ?_
  rintro e w' ⟨rfl, rfl⟩
  go_wp2_with fail
  go_loopw [7] (fun i wr => ∃ c : Nat, tb ≤ c ∧ c ≤ sb ∧ i = .int .i64 ((c : Int) - 1) ∧ ∃ (G' : Nat → Sec) (x' : NodeM) (L' : LayM) (k' : List Nat), Cutten len G G' X B Ls n c x' L' ∧ Bears wr (nodeObj xb x' * (filesObj f s * (spA s p d len g k' true F G' * R)))) (fun i _ => (intOf i + 1).toNat)
  case atStart => exact ⟨sb, hle, by omega, rfl, G, _, _, k, Hst.out, h⟩
  case round =>
    obtain ⟨c, hc1, hc2, rfl, G', x', L', k', hC, h3⟩ := hrel
    have HC := Lib.hid hC
    clear hC
    by_cases hlt : tb < c
    · obtain ⟨c, rfl⟩ : ∃ b, c = b + 1 := ⟨c - 1, by omega⟩
      go_wp2_with fail
      refine (Hb2.out _).mono ?_
      rintro e w' ⟨rfl, rfl⟩
      have hge : (tb : Int) ≤ (c : Int) := by omega
      have hsh := shrink_any (X := updF X n x') (B := updF B n (cutB (B n) (64 * (c + 1)))) (Ls := updF Ls n L') (R := R) (f := f) (s := s) (p := p) (g := g) (xb := xb) (k := k') (d := d) (F := F) (w := wr) (n := n) (j := c) (by rw [updF_self]; exact h3) HC.out.core hn (by rw [updF_self]; exact HC.out.lenB) (by omega)
      rw [updF_self] at hsh
      have Hsh := Lib.hid hsh
      clear hsh
      go_wp2_with fail
      refine Hsh.out.mono ?_
      rintro e w4 ⟨rfl, G2, k2, hS, h4⟩
      have HC2 := Lib.hid (HC.out.step hS)
      clear hS
      go_wp2_with fail
      go_roundw
      case rel => exact ⟨c, by omega, by omega, by go_num, G2, _, _, k2, HC2.out, h4⟩
      case measure => simp [intOf]
    · obtain rfl : c = tb := by omega
      clear hlt hc1
      go_wp2_with fail
      refine (Hb2.out _).mono ?_
      rintro e w' ⟨rfl, rfl⟩
      have c0 := cell_of_obj h3.obj 0
      have c1 := cell_of_obj h3.obj 1
      have c2 := cell_of_obj h3.obj 2
      have c3 := cell_of_obj h3.obj 3
      have c4 := cell_of_obj h3.obj 4
      have c5 := cell_of_obj h3.obj 5
      have c6 := cell_of_obj h3.obj 6
      have c7 := cell_of_obj h3.obj 7
      have c8 := cell_of_obj h3.obj 8
      simp only [List.getElem?_toArray, List.getElem?_cons_zero, List.getElem?_cons_succ] at c0 c1 c2 c3 c4 c5 c6 c7 c8
      have f2 := frozen_of_obj h3.obj 2
      have hsx := HC.out.size
      have hfin : cutB (B n) (64 * c) = cutB (B n) tz → CutTo len G G' X B Ls n tz { x' with size := tz } L' := fun h => by
        have := Htz.out
        subst this
        exact Cutten.done (by omega) HC.out h
      have Hfin := Lib.hid hfin
      have hset := h3.setCell (i := 2) (.int .i64 tz)
      clear hfin
      by_cases hA : tz < (X n).size ∧ 0 < tz % 64
      · obtain ⟨hA1, hA2⟩ := hA
        have htb : c = tz / 64 + 1 := by have := Htz.out; unfold nBlk at this; omega
        obtain ⟨kq, hkq⟩ : ∃ q, tz / 64 = q := ⟨_, rfl⟩
        obtain ⟨lo, hlo⟩ : ∃ r, tz % 64 = r := ⟨_, rfl⟩
        obtain ⟨hl1, hl2⟩ := h3.right.right.spOk
        have hcore := HC.out.core
        have hL : LayOn G' x' L' := by have := hcore.lay n hn; rwa [updF_self, updF_self] at this
        have hown : ∀ i ∈ L'.own, OwnOk len G' i := by have := hcore.ownOk hn; rwa [updF_self] at this
        have hD : DataOn G' L' (cutB (B n) (64 * c)) := by have := hcore.data n hn; rwa [updF_self, updF_self] at this
        have hlen := HC.out.lenB
        have hblk := block_any (h3.cast (by ac_rfl) : Bears _ (filesObj f s * (spA s p d len g k' true F G' * (nodeObj xb x' * R)))) hL hown (j := kq) (by omega) rfl
        have hw := hcore.writes hn (k := kq) (by rw [updF_self]; omega) (b := cutB (B n) tz) (by
          intro j hj
          rw [updF_self]
          unfold cutB
          by_cases e : j < tz
          · rw [if_pos e, if_pos (by omega)]
          · rw [if_neg e]
            by_cases e2 : j < 64 * c
            · exfalso; omega
            · rw [if_neg e2])
        simp only [updF_self, updF_updF] at hw
        have hoq := hown _ (LayM.mem_blk (k := kq) (by omega))
        have hGq := hD.at' kq (by omega)
        have hcc := chunk_cut (b := B n) hkq
        rw [hlo, ← hkq, ← htb, hkq] at hcc
        generalize L'.blk.getD kq 0 = q at hblk hoq hGq hw
        have hct : CutTo len G (updS G' q (chunkB (cutB (B n) tz) kq)) X B Ls n tz { x' with size := tz } L' := by
          refine ⟨hw.renode (NodeM.same_attr x' x'.kind x'.links tz), by rw [hlen]; exact Htz.out.symm, by rw [blk_updS hoq.lo, HC.out.blk, Htz.out], fun m hm => by rw [inodeB_blk hoq.lo hm hl1 hl2, HC.out.ino m], HC.out.kind, HC.out.links, rfl, fun hf => ?_⟩
          have := HC.out.fits hf
          exact ⟨this.kind, this.links, by simp only; omega, this.d0, this.d1, this.d2, this.d3, this.near, this.wide⟩
        have hrd := fun w' Q (h : Bears w' (filesObj f s * (spA s p d len g k' true F G' * Q))) => sreads_any h.pull2 q rfl hoq.chk hoq.lo hoq.hi hGq
        have hwr := fun w' Q ad cap (h : Bears w' (spA s p d len g k' true F G' * (rowA 5 1 (.slice ad 64 cap) 64 (cellsV (chunkB (cutB (B n) tz) kq)) * Q))) =>
          swrites_any h q rfl hoq.chk hoq.lo hoq.hi (b := chunkB (cutB (B n) tz) kq) (ad := ad) (bn := 64) (cap := cap) (fun w' hw' => rowA_bytes (chunkB_length _ _).symm _ hw')
        simp only [wrN_ok (chunkB_length _ _)] at hwr
        have hch : (chunkB (cutB (B n) (64 * c)) kq).length = 64 := chunkB_length _ _
        generalize chunkB (cutB (B n) (64 * c)) kq = C0 at hcc hch hrd
        generalize chunkB (cutB (B n) tz) kq = C1 at hcc hct hwr
        have q1 : (tz : Int) % 64 = (lo : Int) := by omega
        have q2 : (tz : Int).tmod 64 = (lo : Int) := by rw [Int.tmod_eq_emod_of_nonneg (by omega)]; exact q1
        have q3 : (tz : Int) / 64 = (kq : Int) := by omega
        have q4 : (tz : Int).tdiv 64 = (kq : Int) := by rw [Int.tdiv_eq_ediv_of_nonneg (by omega)]; exact q3
        have hz8 : ∀ w, (Go.sizeOf 5).run Tryz.prog w = .ok 1 w := fun w => by kernel_rfl
        have d1 : (tz : Int) < (x'.size : Int) := by omega
        have d2 : (0 : Int) < (lo : Int) := by omega
        have hlo1 : 0 < lo ∧ lo < 64 := by omega
        have Hblk := Lib.hid hblk
        have Hrd := Lib.hid hrd
        have Hwr := Lib.hid hwr
        have Hct := Lib.hid hct
        have Hcc := Lib.hid hcc
        have Hch := Lib.hid hch
        clear hblk hrd hwr hct hcc hch hcore hL hown hD hlen hw hoq hGq htb hlo hkq hset hsx Hfin
        go_wp2_with fail
        refine Hblk.out.mono ?_
        rintro e w5 ⟨rfl, h5⟩
        have f5 := files_cell h5
        go_wp2_with fail
        refine (Hrd.out _ _ h5).mono ?_
        rintro e w6 ⟨ad, cap, rfl, h6⟩
        obtain ⟨rg, rfl, _⟩ := h6.rowAt (k := 0) (by decide)
        obtain ⟨_, cap', e1, hcap, _⟩ := h6.rowForm
        simp only [Value.slice.injEq] at e1
        obtain ⟨-, -, rfl⟩ := e1
        obtain ⟨w7, hcl, h7⟩ := clear_row (ty := 0) (o := 0 + lo) (m := 64 - lo) (dCap := cap - lo) h6 Hch.out (by omega) (by omega)
        rw [Nat.zero_add, Hcc.out] at h7
        have f7 := files_cell h7.pull3
        go_wp2_with (first
          | (refine wpList_op rfl (exec_slice1 (o := 0) (lo := lo) rfl Tryz.underlying22 (hz8 _) rfl (by go_simp) (by omega) (by omega)) ?_)
          | (refine wpList_op rfl (exec_clear rfl rfl hcl) ?_))
        refine (Hwr.out _ _ _ _ h7.pull2).mono ?_
        rintro e w8 ⟨rfl, h8⟩
        have h9 := (h8.cast (by ac_rfl) : Bears _ (rowA 5 1 (.slice (some ⟨rg, 0, none⟩) 64 cap) 64 (cellsV C1) * (nodeObj xb x' * (filesObj f s * (spA s p d len g (q :: k') true F (updS G' q C1) * R))))).right
        have g2 := frozen_of_obj h9.obj 2
        have e2 := cell_of_obj h9.obj 2
        have hset := h9.setCell (i := 2) (.int .i64 tz)
        go_wp2_with fail
        go_ret
        exact ⟨rfl, _, _, L', _, Hct.out, hset⟩
      · have hcut : cutB (B n) (64 * c) = cutB (B n) tz := by
          have := Htz.out
          unfold nBlk at this
          by_cases hB : tz < (X n).size
          · rw [show 64 * c = tz by omega]
          · rw [cutB_over (fun j hj => H0.out j (by omega)), cutB_over (fun j hj => H0.out j (by omega))]
        have Hr := Lib.hid (Hfin.out hcut)
        clear hcut
        obtain ⟨r, hr⟩ : ∃ r, tz % 64 = r := ⟨_, rfl⟩
        have q1 : (tz : Int) % 64 = (r : Int) := by omega
        have q2 : (tz : Int).tmod 64 = (r : Int) := by rw [Int.tmod_eq_emod_of_nonneg (by omega)]; exact q1
        rw [hr] at hA
        have hd : (x'.size : Int) ≤ (tz : Int) ∨ ((tz : Int) < (x'.size : Int) ∧ r = 0) := by omega
        clear hr hA hsx
        rcases hd with hd | ⟨hd, rfl⟩
        all_goals
          go_wp2_with fail
          go_ret
          exact ⟨rfl, G', _, L', k', Hr.out, hset.cast (by simp)⟩

end

end Go.Proofs.YtggbnelbnbaoiaaGreat

/- Walks of the files' functions, part 17: Read; no condition. -/
namespace Go.Proofs.YtggbnelbnbaoiaaGreat
open Go.RowKit Go.MapKept

theorem chunk_part {b : Nat → UInt8} {l : List UInt8} (hb : ∀ j, b j = l.getD j 0) {k lo hi : Nat} (h1 : lo ≤ hi) (h2 : hi ≤ 64) (h3 : 64 * k + hi ≤ l.length) : ((chunkB b k).drop lo).take (hi - lo) = (l.drop (64 * k + lo)).take (hi - lo) := by
  apply List.ext_getElem (by simp [chunkB_length]; omega)
  intro i h4 h5
  simp only [List.getElem_take, List.getElem_drop]
  have hi2 : lo + i < 64 := by simp [chunkB_length] at h4; omega
  have e := chunkB_getD b k hi2
  rw [List.getD_eq_getElem?_getD, List.getElem?_eq_getElem (by rw [chunkB_length]; exact hi2), Option.getD_some] at e
  rw [e, hb, List.getD_eq_getElem?_getD, List.getElem?_eq_getElem (by simp at h5; omega), Option.getD_some]
  congr 1
  omega
theorem take_more {l : List UInt8} {a i m : Nat} : (l.drop a).take i ++ (l.drop (a + i)).take m = (l.drop a).take (i + m) := by
  rw [← List.drop_drop, List.take_add]

section
variable {f s p len g : Nat} {k : List Nat} {d : DiskM} {op : Bool} {F G : Nat → Sec} {Fs : Nat → FileM} {Ls : Nat → LayM} {R : Assn} {w : World}

theorem FsOn.nodK {n : Nat} (h : FsOn len G Fs Ls) (hn : n < 256) : (dec (inodeB len G n)).kind = (Fs n).kind := h.kind n hn
theorem FsOn.nodS {n : Nat} (h : FsOn len G Fs Ls) (hn : n < 256) : (dec (inodeB len G n)).size = (Fs n).data.length := h.size n hn

set_option maxRecDepth 100000 in
set_option maxHeartbeats 1000000 in
theorem iread_any (h : Bears w (filesObj f s * (spA s p d len g k op F G * R))) (hF : FsOn len G Fs Ls) {n at' many : Nat} (hn : n < 256) (hk : (Fs n).kind ≠ 0) (hat : at' ≤ 9223372036854775807) (hmany : many ≤ 9223372036854775807) :
    Calls Tryz.prog 15 #[.pointer (some ⟨f, 0, none⟩), .int .i64 n, .int .i64 at', .int .i64 many] w fun e w' => ∃ ad l cap, e = .returned (.tuple #[.slice ad l cap, .int .i64 0]) ∧
      Bears w' (bufA (.slice ad l cap) (((Fs n).data.drop at').take many) * (filesObj f s * (spA s p d len g k op F G * R))) := by
  obtain ⟨i0, hi0, hz0, hz1, hz2⟩ := info_parts i_byte
  have hz8 : ∀ w, (Go.sizeOf 5).run Tryz.prog w = .ok 1 w := fun w => by kernel_rfl
  have hg := get_any h n hn (by rw [hF.nodK hn]; exact hk)
  have hL : LayOn G (dec (inodeB len G n)) (Ls n) := hF.core.lay n hn
  have hD := hF.core.data n hn
  have hown := hF.core.ownOk hn
  have hsz := hF.nodS hn
  have hlen := hF.blk n hn
  have hmx := hF.max n hn
  have hbd : ∀ j, byF Fs n j = (Fs n).data.getD j 0 := fun _ => rfl
  generalize dec (inodeB len G n) = x at hg hL hsz
  generalize byF Fs n = bf at hD hbd
  generalize (Fs n).data = dt at hsz hlen hmx hbd
  have hblk := fun w' Q j r (h : Bears w' (filesObj f s * (spA s p d len g k op F G * Q))) (hj : j < (Ls n).blk.length) (hr : (Ls n).blk.getD j 0 = r) => block_any h hL hown hj hr
  have hrd := fun w' Q j (h : Bears w' (filesObj f s * (spA s p d len g k op F G * Q))) (hj : j < (Ls n).blk.length) => by
    have ho := hown _ (LayM.mem_blk hj)
    exact sreads_any h.pull2 _ rfl ho.chk ho.lo ho.hi (hD.at' j hj)
  obtain ⟨E, hE⟩ : ∃ E, min many (dt.length - at') = E := ⟨_, rfl⟩
  have htk : (dt.drop at').take many = (dt.drop at').take E := by
    rw [← hE, List.take_eq_take_iff, List.length_drop]; omega
  have hmax : max (0 : Int) ((x.size : Int) - (at' : Int)) = ((dt.length - at' : Nat) : Int) := by rw [hsz]; omega
  have hmin : min (many : Int) ((dt.length - at' : Nat) : Int) = (E : Int) := by omega
  have hE2 : E = 0 ∨ at' + E ≤ dt.length := by omega
  have hAE : at' + E ≤ 9223372036854775807 := by omega
  have n1 : decide ((at' : Int) < 0) = false := decide_eq_false (by omega)
  have n2 : decide ((many : Int) < 0) = false := decide_eq_false (by omega)
  rw [htk]
  have hend : IntKind.i64.wrap ((at' : Int) + (E : Int)) = (at' : Int) + (E : Int) := IntWalk.i64_in _ (by omega)
  have hsub : IntKind.i64.wrap ((x.size : Int) - (at' : Int)) = (x.size : Int) - (at' : Int) := IntWalk.i64_in _ (by omega)
  have Hg := Lib.hid hg
  have Hblk := Lib.hid hblk
  have Hrd := Lib.hid hrd
  have Hlen := Lib.hid hlen
  have Hbd := Lib.hid hbd
  have Hsz := Lib.hid hsz
  clear hg hblk hrd hL hD hown hF hlen htk hE hk hbd hsz
  go_enter Tryz.func15, Tryz.ntmps15
  go_wp2_with fail
  refine Hg.out.mono ?_
  rintro e w1 ⟨rfl, h1⟩
  have h2 : Bears _ (nodeObj w1.heap.size x * (filesObj f s * (spA s p d len g k op F G * R))) := h1.alloc (.cells #[.int .i64 x.kind, .int .i64 x.links, .int .i64 x.size, .int .i64 x.d0, .int .i64 x.d1, .int .i64 x.d2, .int .i64 x.d3, .int .i64 x.near, .int .i64 x.wide] 94)
  have c2 := cell_of_obj h2.obj 2
  simp only [List.getElem?_toArray, List.getElem?_cons_zero, List.getElem?_cons_succ] at c2
  go_wp2_with fail
  generalize w1.heap.size = xb at h2 ⊢
  have h3 := Bears.nilRow (e := 5) (size := 1) |>.2 h2
  go_loopw [2, 12] (fun a o wr => ∃ i : Nat, i ≤ E ∧ a = .int .i64 ((at' : Int) + (i : Int)) ∧ ∃ ad cap, o = .slice ad i cap ∧ Bears wr (rowA 5 1 (.slice ad i cap) i (cellsV ((dt.drop at').take i)) * (filesObj f s * (spA s p d len g k op F G * (nodeObj xb x * R))))) (fun a _ _ => (at' + E) - (intOf a).toNat)
  case atStart => exact ⟨0, by omega, by simp, none, 0, rfl, (h3.cast (by ac_rfl) : Bears _ (rowA 5 1 (.slice none 0 0) 0 [] * (filesObj f s * (spA s p d len g k op F G * (nodeObj xb x * R)))))⟩
  case round =>
    obtain ⟨i, hi, rfl, ad, cap, rfl, h4⟩ := hrel
    by_cases hlt : i < E
    · have hAt : at' + E ≤ dt.length := by omega
      obtain ⟨kq, hkq⟩ : ∃ q, (at' + i) / 64 = q := ⟨_, rfl⟩
      obtain ⟨lo, hlo⟩ : ∃ q, (at' + i) % 64 = q := ⟨_, rfl⟩
      obtain ⟨m, hm⟩ : ∃ m, min (64 - lo) (E - i) = m := ⟨_, rfl⟩
      have hpos : 64 * kq + lo = at' + i := by omega
      have hm1 : 0 < m ∧ lo + m ≤ 64 ∧ i + m ≤ E := by omega
      have q1 : ((at' : Int) + (i : Int)) % 64 = (lo : Int) := by omega
      have q2 : ((at' : Int) + (i : Int)).tmod 64 = (lo : Int) := by rw [Int.tmod_eq_emod_of_nonneg (by omega)]; exact q1
      have q3 : ((at' : Int) + (i : Int)) / 64 = (kq : Int) := by omega
      have q4 : ((at' : Int) + (i : Int)).tdiv 64 = (kq : Int) := by rw [Int.tdiv_eq_ediv_of_nonneg (by omega)]; exact q3
      have i1 : (at' : Int) + (i : Int) < (at' : Int) + (E : Int) := by omega
      have i2 : min (64 : Int) ((lo : Int) + ((at' : Int) + (E : Int)) - ((at' : Int) + (i : Int))) = ((lo + m : Nat) : Int) := by omega
      have hjl : kq < (Ls n).blk.length := by rw [Hlen.out]; unfold nBlk; omega
      have hpart := chunk_part (b := bf) (l := dt) Hbd.out (k := kq) (lo := lo) (hi := lo + m) (by omega) (by omega) (by omega)
      rw [Nat.add_sub_cancel_left, hpos] at hpart
      have hb5 := fun w' (h : Bears w' (filesObj f s * (spA s p d len g k op F G * (rowA 5 1 (.slice ad i cap) i (cellsV ((dt.drop at').take i)) * (nodeObj xb x * R))))) => Hblk.out w' _ kq _ h hjl rfl
      have hr5 := fun w' (h : Bears w' (filesObj f s * (spA s p d len g k op F G * (rowA 5 1 (.slice ad i cap) i (cellsV ((dt.drop at').take i)) * (nodeObj xb x * R))))) => Hrd.out w' _ kq h hjl
      generalize (Ls n).blk.getD kq 0 = q at hb5 hr5
      have hcl : (chunkB bf kq).length = 64 := chunkB_length _ _
      generalize chunkB bf kq = C at hpart hr5 hcl
      have c0 := cell_of_obj h4.pull4.obj 0
      have c1 := cell_of_obj h4.pull4.obj 1
      have c2 := cell_of_obj h4.pull4.obj 2
      have c3 := cell_of_obj h4.pull4.obj 3
      have c4 := cell_of_obj h4.pull4.obj 4
      have c5 := cell_of_obj h4.pull4.obj 5
      have c6 := cell_of_obj h4.pull4.obj 6
      have c7 := cell_of_obj h4.pull4.obj 7
      have c8 := cell_of_obj h4.pull4.obj 8
      simp only [List.getElem?_toArray, List.getElem?_cons_zero, List.getElem?_cons_succ] at c0 c1 c2 c3 c4 c5 c6 c7 c8
      have Hb5 := Lib.hid hb5
      have Hr5 := Lib.hid hr5
      have Hpart := Lib.hid hpart
      have Hcl := Lib.hid hcl
      clear hb5 hr5 hpart hcl hkq hlo hm hpos hjl hE2
      go_wp2_with fail
      refine (Hb5.out _ (h4.cast (by ac_rfl))).mono ?_
      rintro e w5 ⟨rfl, h5⟩
      have f5 := files_cell h5
      go_wp2_with fail
      refine (Hr5.out _ h5).mono ?_
      rintro e w6 ⟨ad6, cap6, rfl, h6⟩
      obtain ⟨rg, rfl, _⟩ := h6.rowAt (k := 0) (by decide)
      obtain ⟨_, cap', e1, hcap, _⟩ := h6.rowForm
      simp only [Value.slice.injEq] at e1
      obtain ⟨-, -, rfl⟩ := e1
      have h7 := h6.pull4
      have hra : w6.rangeAt rg lo (cellsV ((C.drop lo).take m)) := by
        intro j v hv
        have hj : j < m := by
          have := (List.getElem?_eq_some_iff.1 hv).1
          simp at this
          omega
        refine h6.rowCell (i := lo + j) (by omega) ?_
        unfold cellsV at hv ⊢
        rw [List.map_take, List.map_drop, List.getElem?_take, if_pos hj, List.getElem?_drop] at hv
        exact hv
      rw [Hpart.out] at hra
      have hnews := addr_cells hra
      have hnl : (cellsV ((dt.drop (at' + i)).take m)).length = m := by rw [length_cellsV, List.length_take, List.length_drop]; omega
      have Hnews := Lib.hid hnews
      have Hnl := Lib.hid hnl
      have Hra := Lib.hid hra
      clear hnews hnl hra
      go_wp2_with (first
        | (refine wpList_op rfl (exec_slice2 (o := 0) (lo := lo) (hi := lo + m) rfl Tryz.underlying22 (hz8 _) rfl (by go_simp) (by go_simp) (by omega) (by omega)) ?_; rw [Nat.add_sub_cancel_left])
        | (at_builtin; refine wpList_append_bears h7 rfl rfl u_bytes hi0 hz0 hz1 hz2 (by simp [Value.cells]) (by decide) rfl (m := m) rfl (by rw [Hnl.out, Nat.mul_one]) Hnews.out (oneCell_cellsV _) (by unfold maxLen; omega) (by omega) ?_; intro a8 c8 w8 h8))
      have h9 : Bears w8 (rowA 5 1 (.slice a8 (i + m) c8) (i + m) (cellsV ((dt.drop at').take (i + m))) * (filesObj f s * (spA s p d len g k op F G * (nodeObj xb x * R)))) := by
        have := h8.pull2.right
        unfold cellsV at this ⊢
        rw [← List.map_append, take_more] at this
        exact this.cast (by ac_rfl)
      go_roundw
      case rel => exact ⟨i + m, by omega, by go_num, a8, c8, rfl, h9⟩
      case measure => simp [intOf]; omega
    · obtain rfl : i = E := by omega
      go_wp2_with fail
      go_ret2
      exact ⟨ad, i, cap, rfl, (h4.cast (by ac_rfl) : Bears _ (nodeObj xb x * (rowA 5 1 (.slice ad i cap) i (cellsV ((dt.drop at').take i)) * (filesObj f s * (spA s p d len g k op F G * R))))).right.bufRow⟩

end

end Go.Proofs.YtggbnelbnbaoiaaGreat

/- Walks of the files' functions, part 18: Write; no condition. -/
namespace Go.Proofs.YtggbnelbnbaoiaaGreat
open Go.RowKit Go.MapKept

/-- What is left of a slice behind its first bytes. -/
abbrev restAd (ad : Option Addr) (cap lo : Nat) : Option Addr := if cap = lo then ad else ad.map (·.add lo)
theorem exec_rest {P : Program} {ev : Operand → Value} {op : Oper} {t : TypeId} {x a : Operand} {ad : Option Addr} {lo len cap : Nat} {w : World} {e : TypeId} (ho : op.op = .slice t x (some a) none none) (ht : P.underlying t = some (.slice e)) (hz : (Go.sizeOf e).run P w = .ok 1 w)
    (hx : ev x = .slice ad len cap) (ha : ev a = .int .i64 lo) (h1 : lo ≤ len) :
    (execOp ev op).run P w = .ok (.value (.slice (restAd ad cap lo) (len - lo) (cap - lo))) w := by
  unfold execOp restAd
  go_simp
theorem BytesIn.rest {w : World} {ad : Option Addr} {n cap lo : Nat} {l : List UInt8} (h : BytesIn w (.slice ad n cap) l) (h1 : lo ≤ n) (h2 : n ≤ cap) : BytesIn w (.slice (restAd ad cap lo) (n - lo) (cap - lo)) (l.drop lo) := by
  have hn := h.len
  refine ⟨_, _, by rw [List.length_drop, hn], fun hne => ?_⟩
  have hlt : lo < l.length := by
    rcases Nat.lt_or_ge lo l.length with q | q
    · exact q
    · rw [List.drop_of_length_le q] at hne; exact absurd rfl hne
  obtain ⟨b, o, rfl, hr⟩ := h.at (by intro e; rw [e] at hlt; simp at hlt)
  refine ⟨b, o + lo, by unfold restAd; rw [if_neg (by omega), Option.map_some, addr_add], fun j v hv => ?_⟩
  have := hr (lo + j) v (by unfold cellsV at hv ⊢; rw [List.map_drop, List.getElem?_drop] at hv; exact hv)
  rw [← Nat.add_assoc] at this
  exact this

theorem copy_row2 {w : World} {g o c dLen dCap sn sc : Nat} {l s : List UInt8} {ad : Option Addr} {R : Assn} (h : Bears w (rowA 5 1 (.slice (some ⟨g, 0, none⟩) 64 c) 64 (cellsV l) * R)) (hl : l.length = 64) (hs : R.Tells (fun w => BytesIn w (.slice ad sn sc) s))
    (hne : s ≠ []) {m : Nat} (hm : m = Nat.min s.length dLen) (hfit : o + dLen = 64) :
    ∃ w', (Builtin.copy_ #[22, 22] 3 #[.slice (some ⟨g, o, none⟩) dLen dCap, .slice ad sn sc]).run Tryz.prog w = .ok (goInt m) w' ∧
      Bears w' (rowA 5 1 (.slice (some ⟨g, 0, none⟩) 64 c) 64 (cellsV (putAt l o (s.take m))) * R) := by
  obtain rfl : sn = s.length := (hs _ h.right).len
  obtain ⟨b, so, rfl, hr⟩ := (hs _ h.right).at hne
  have hml : m ≤ s.length ∧ m ≤ dLen := ⟨by rw [hm]; exact Nat.min_le_left _ _, by rw [hm]; exact Nat.min_le_right _ _⟩
  have htl : (cellsV (s.take m)).length = m := by rw [length_cellsV, List.length_take]; omega
  have hrun := run_copy_cells (P := Tryz.prog) w 22 22 3 5 g o dLen dCap ⟨b, so, none⟩ s.length sc (cellsV (s.take m)) u_bytes (by kernel_rfl) (by rw [htl]; exact hm)
    (fun j v hv => by
      have hv2 : (cellsV s)[j]? = some v := by
        unfold cellsV at hv ⊢
        rw [List.map_take, List.getElem?_take] at hv
        split at hv
        · exact hv
        · cases hv
      exact addr_cells hr j v hv2)
    (fun j hj => by
      rw [htl] at hj
      rw [h.rowCell (i := o + j) (by omega) (v := (cellsV l)[o + j]'(by simp; omega)) (List.getElem?_eq_getElem _)]
      rfl)
    (fun j hj => h.rowFrozen _) (oneCell_cellsV _)
  rw [htl] at hrun
  refine ⟨_, hrun, ?_⟩
  have hl2 : (s.take m).length = m := by rw [List.length_take]; omega
  have h2 := h.rowSets (cellsV (s.take m)) o (by rw [htl]; omega)
  rw [setList_cellsV (by rw [hl2]; omega)] at h2
  exact h2

/-- What the growing leaves, at c blocks. -/
structure GrownTo (len : Nat) (G G' : Nat → Sec) (X : Nat → NodeM) (B : Nat → Nat → UInt8) (Ls : Nat → LayM) (n c : Nat) (x' : NodeM) (L' : LayM) : Prop where
  core : Core len G' (updF X n x') B (updF Ls n L') []
  lenB : L'.blk.length = c
  blk : blkN len G' = blkN len G - ((costN c : Int) - costN (Ls n).blk.length)
  ino : ∀ m, m < 256 → inodeB len G' m = inodeB len G m
  kind : x'.kind = (X n).kind
  links : x'.links = (X n).links
  size : x'.size = (X n).size
  fits : (X n).Fits → x'.Fits

section
variable {f s p len g xb n j : Nat} {k : List Nat} {d : DiskM} {F G : Nat → Sec} {X : Nat → NodeM} {B : Nat → Nat → UInt8} {Ls : Nat → LayM} {R : Assn} {w : World}

theorem GrownTo.start (hc : Core len G X B Ls []) : GrownTo len G G X B Ls n (Ls n).blk.length (X n) (Ls n) := by
  refine ⟨?_, rfl, by omega, fun _ _ => rfl, rfl, rfl, rfl, id⟩
  rw [updF_id, updF_id]
  exact hc
theorem GrownTo.step {G' G2 : Nat → Sec} {x' x2 : NodeM} {L' L2 : LayM} {c : Nat} {k' k2 : List Nat} (h : GrownTo len G G' X B Ls n c x' L') (hs : Grown len G' G2 (updF X n x') B (updF Ls n L') n c x2 L2 k' k2) : GrownTo len G G2 X B Ls n (c + 1) x2 L2 := by
  obtain ⟨h1, h2, h3, h4, h5, h6, h7, h8, _⟩ := hs
  simp only [updF_self, updF_updF] at h1 h5 h6 h7 h8
  refine ⟨h1, h2, ?_, fun m hm => by rw [h4 m hm, h.ino m hm], by rw [h5, h.kind], by rw [h6, h.links], by rw [h7, h.size], fun hf => h8 (h.fits hf)⟩
  rw [h3, h.blk]
  omega
theorem costN_mono : ∀ {a b : Nat}, a ≤ b → costN a ≤ costN b := by
  intro a b h
  unfold costN nIn
  by_cases h1 : 4 < a
  · by_cases h2 : 36 < a
    · rw [if_pos h1, if_pos h2, if_pos (by omega), if_pos (by omega)]; omega
    · rw [if_pos h1, if_neg h2, if_pos (by omega)]; omega
  · rw [if_neg h1, if_neg (c := 36 < a) (by omega)]; omega

/-- The bytes are written as far as i. -/
structure Wrote (len : Nat) (G G' : Nat → Sec) (X : Nat → NodeM) (B : Nat → Nat → UInt8) (Ls : Nat → LayM) (n : Nat) (b : Nat → UInt8) : Prop where
  core : Core len G' X (updF B n b) Ls []
  blk : blkN len G' = blkN len G
  ino : ∀ m, m < 256 → inodeB len G' m = inodeB len G m
theorem Wrote.step {G' : Nat → Sec} {b b' : Nat → UInt8} {c : Nat} (h : Wrote len G G' X B Ls n b) (hn : n < 256) (hc : c < (Ls n).blk.length) (h1 : 1024 ≤ len) (h2 : len ≤ 8192) (hsame : ∀ j, j / 64 ≠ c → b' j = b j) :
    Wrote len G (updS G' ((Ls n).blk.getD c 0) (chunkB b' c)) X B Ls n b' := by
  have ho := h.core.ownOk hn _ (LayM.mem_blk hc)
  have hw := h.core.writes hn hc (b := b') (by intro j hj; rw [updF_self]; exact hsame j hj)
  rw [updF_updF] at hw
  exact ⟨hw, by rw [blk_updS ho.lo, h.blk], fun m hm => by rw [inodeB_blk ho.lo hm h1 h2, h.ino m hm]⟩

end

end Go.Proofs.YtggbnelbnbaoiaaGreat

/- Walks of the files' functions, part 19: Write, where there is room; no condition. -/
namespace Go.Proofs.YtggbnelbnbaoiaaGreat
open Go.RowKit Go.MapKept

theorem costN_le {b : Nat} (h : b ≤ 256) : costN b ≤ 300 := by
  unfold costN nIn
  split <;> split <;> omega
theorem costI_nat {n : Nat} (h : n ≤ 16384) : costI (n : Int) = (costN (nBlk n) : Int) := by
  unfold costI
  rw [if_neg (by omega), Int.toNat_natCast]

section
variable {f s p len g : Nat} {k : List Nat} {d : DiskM} {F G : Nat → Sec} {Fs : Nat → FileM} {Ls : Nat → LayM} {R : Assn} {w : World}

set_option maxRecDepth 100000 in
set_option maxHeartbeats 4000000 in
theorem iwrite_any (h : Bears w (filesObj f s * (spA s p d len g k true F G * R))) (hF : FsOn len G Fs Ls) {n at' : Nat} (hn : n < 256) (hk : (Fs n).kind ≠ 0) {b : List UInt8} {ad : Option Addr} {bn cap : Nat} (hb : R.Tells (fun w => BytesIn w (.slice ad bn cap) b)) (hcap : bn ≤ cap) (hne : b ≠ [])
    (hmx : at' + b.length ≤ 16384) (hfit : (costN (nBlk (max (Fs n).data.length (at' + b.length))) : Int) - costN (nBlk (Fs n).data.length) ≤ blkN len G) :
    Calls Tryz.prog 10 #[.pointer (some ⟨f, 0, none⟩), .int .i64 n, .int .i64 at', .slice ad bn cap] w fun e w' => e = .returned (.int .i64 0) ∧ ∃ (G' : Nat → Sec) (Ls' : Nat → LayM) (k' : List Nat),
      FsOn len G' (updF Fs n { Fs n with data := wrD (Fs n).data at' b }) Ls' ∧ blkN len G' = blkN len G - ((costN (nBlk (max (Fs n).data.length (at' + b.length))) : Int) - costN (nBlk (Fs n).data.length)) ∧
      Bears w' (filesObj f s * (spA s p d len g k' true F G' * R)) := by
  obtain ⟨hl1, hl2⟩ := h.pull2.spOk
  have hbn : bn = b.length := (hb _ h.right.right).len
  have hbp : 0 < b.length := List.length_pos_iff.2 hne
  have hcl := closed_any h
  have hg := fun w' (h : Bears w' (filesObj f s * (spA s p d len g k true F G * R))) => get_any h n hn (by rw [hF.nodK hn]; exact hk)
  have hfx : (nodF len G n).Fits := dec_fits _
  have hxs : (nodF len G n).size = (Fs n).data.length := hF.size n hn
  have hmd := hF.max n hn
  have hlen := hF.blk n hn
  have hst := GrownTo.start (n := n) hF.core
  have hput := fun (G' : Nat → Sec) Ls' x f => FsOn.put (G' := G') (Ls' := Ls') (x := x) (f := f) hF hn
  rw [hlen] at hst
  have hgx : dec (inodeB len G n) = nodF len G n := rfl
  rw [hgx] at hg
  generalize hX : nodF len G = X at hg hfx hxs hst hput
  generalize hx : X n = x at hg hfx hxs
  obtain ⟨old, hold⟩ : ∃ o, Fs n = o := ⟨_, rfl⟩
  have hbf : byF Fs n = fun j => old.data.getD j 0 := by unfold byF; rw [hold]
  rw [hold] at hxs hmd hlen hfit hst ⊢
  generalize hBy : byF Fs = BF at hst hput hbf
  obtain ⟨en, hen⟩ : ∃ e, max old.data.length (at' + b.length) = e := ⟨_, rfl⟩
  rw [hen] at hfit ⊢
  have hen1 : en ≤ 16384 := by omega
  have hmax : max (x.size : Int) ((at' : Int) + (bn : Int)) = (en : Int) := by rw [hxs, hbn]; omega
  have hle : nBlk old.data.length ≤ nBlk en := by unfold nBlk; omega
  have hle2 : nBlk en ≤ 256 := by unfold nBlk; omega
  have hce := costN_le hle2
  have hcs := costN_mono hle
  have hco1 := fun w => cost_any (en : Int) w (by omega)
  have hco2 := fun w => cost_any (x.size : Int) w (by omega)
  have hbl1 := fun w => blocks_any x.size w (by omega)
  have hbl2 := fun w => blocks_any en w (by omega)
  simp only [costI_nat hen1] at hco1
  rw [hxs] at hco2 hbl1
  simp only [costI_nat hmd] at hco2
  obtain ⟨sb, hsb⟩ : ∃ q, nBlk old.data.length = q := ⟨_, rfl⟩
  rw [hsb] at hbl1
  simp only [hsb] at hco2 hbl1
  rw [← hxs] at hco2 hbl1
  have hfr := fun w' (k' : List Nat) Q (h : Bears w' (spA s p d len g k' true F G * Q)) => sblocks_any h
  have hr16 : x.size ≤ 16384 := by omega
  have hput2 : ∀ G' L' (xe : NodeM), xe.Fits → Core len G' (updF X n xe) (updF BF n (fun j => (wrD old.data at' b).getD j 0)) (updF Ls n L') [] → (∀ m, m < 256 → inodeB len G' m = inodeB len G m) → xe.kind = x.kind → xe.links = x.links → xe.size = en → L'.blk.length = nBlk en →
      FsOn len (siN len G' n (encB xe)).2 (updF Fs n { old with data := wrD old.data at' b }) (updF Ls n L') := by
    intro G' L' xe h1 h2 h3 h4 h5 h6 h7
    have hwl : (wrD old.data at' b).length = en := by rw [wrD_length]; exact hen
    have hkd : x.kind = old.kind := by rw [← hx, ← hX, hF.kind n hn, hold]
    have hlk : x.links = old.links := by rw [← hx, ← hX, hF.links n hn, hold]
    refine hput G' (updF Ls n L') xe { old with data := wrD old.data at' b } h1 h2 h3 (h4.trans hkd) (h5.trans hlk) (by rw [h6, hwl]) (by rw [hwl]; exact hen1) (by rw [updF_self, hwl]; exact h7) (fun m _ hm => updF_ne hm) (fun h => ?_) (fun h => by have := hF.lnk n hn; rw [hold] at this; exact this h)
    rw [hold] at hk
    exact absurd h hk
  have hblen := h.pull2.sp64
  have hown := hF.core
  rw [hsb] at hfit hst hle hcs hlen ⊢
  generalize heb : nBlk en = eb at *
  have Hcl := Lib.hid hcl
  have Hg := Lib.hid hg
  have Hst := Lib.hid hst
  have Hput := Lib.hid hput2
  have Hco1 := Lib.hid hco1
  have Hco2 := Lib.hid hco2
  have Hbl1 := Lib.hid hbl1
  have Hbl2 := Lib.hid hbl2
  have Hfr := Lib.hid hfr
  have Hbf := Lib.hid hbf
  have Hfx := Lib.hid hfx
  have Hxs := Lib.hid hxs
  have Hhx := Lib.hid hx
  have Hbn := Lib.hid hbn
  have Heb := Lib.hid heb
  have Hen := Lib.hid hen
  have Hls := Lib.hid hlen
  have Hne := Lib.hid hne
  have Hb := Lib.hid hb
  clear hcl hg hst hput hput2 hco1 hco2 hbl1 hbl2 hfr hbf hfx hxs hx hX hBy heb hsb hen hgx hF hlen hblen hown hold hk hne hb
  have e1 : (at' : Int) + (bn : Int) ≤ 16384 := by omega
  have e2 : (0 : Int) < (bn : Int) := by omega
  have e3 : ((bn : Int) == 0) = false := by rw [beq_eq_false_iff_ne]; omega
  have e4 : (costN eb : Int) - (costN sb : Int) ≤ blkN len G := hfit
  have e5 : IntKind.i64.wrap ((costN eb : Int) - (costN sb : Int)) = (costN eb : Int) - (costN sb : Int) := IntWalk.i64_in _ (by omega)
  clear hbn
  go_enter Tryz.func10, Tryz.ntmps10
  go_wp2_with fail
  refine Hcl.out.mono ?_
  rintro e w1 ⟨rfl, h1⟩
  go_wp2_with fail
  refine (Hg.out _ h1).mono ?_
  rintro e w2 ⟨rfl, h2⟩
  have h3 : Bears _ (nodeObj w2.heap.size x * (filesObj f s * (spA s p d len g k true F G * R))) := h2.alloc (.cells #[.int .i64 x.kind, .int .i64 x.links, .int .i64 x.size, .int .i64 x.d0, .int .i64 x.d1, .int .i64 x.d2, .int .i64 x.d3, .int .i64 x.near, .int .i64 x.wide] 94)
  have c2 := cell_of_obj h3.obj 2
  simp only [List.getElem?_toArray, List.getElem?_cons_zero, List.getElem?_cons_succ] at c2
  go_wp2_with fail
  generalize w2.heap.size = xb at h3 ⊢
  generalize w2.alloc _ = w3 at h3 ⊢
  refine wp_region_L (fun w' => ∃ Q, Bears w' (nodeObj xb x * (filesObj f s * Q))) 12
    [(true, 0), (true, 2), (true, 3), (true, 6), (true, 7), (true, 8), (true, 9), (false, 1), (false, 4), (true, 5), (false, 10), (true, 11)] [] (by kernel_rfl) (by kernel_rfl) ⟨_, h3.drew⟩ ?_
  simp only [pick, List.getElem?_cons_zero, List.getElem?_cons_succ]
  refine wpL_yield (v := ?_) rfl (fun w' hS => ?_) ?_
  rotate_left
  · (obtain ⟨_, hS⟩ := hS; have pc := cell_of_obj hS.obj 2; have fc := files_cell hS.right; go_simp; try with_reducible rfl)
  simp only [Act.put, List.setIfInBounds_toArray, List.set_cons_zero, List.set_cons_succ]
  refine wpL_yield (v := ?_) rfl (fun w' hS => ?_) ?_
  rotate_left
  · (obtain ⟨_, hS⟩ := hS; have pc := cell_of_obj hS.obj 2; have fc := files_cell hS.right; go_simp; try with_reducible rfl)
  simp only [Act.put, List.setIfInBounds_toArray, List.set_cons_zero, List.set_cons_succ]
  refine wpL_yield (v := ?_) rfl (fun w' hS => ?_) ?_
  rotate_left
  · (obtain ⟨_, hS⟩ := hS; have pc := cell_of_obj hS.obj 2; have fc := files_cell hS.right; go_simp; try with_reducible rfl)
  simp only [Act.put, List.setIfInBounds_toArray, List.set_cons_zero, List.set_cons_succ]
  refine wpL_yield (v := ?_) rfl (fun w' hS => ?_) ?_
  rotate_left
  · (obtain ⟨_, hS⟩ := hS; have pc := cell_of_obj hS.obj 2; have fc := files_cell hS.right; go_simp; try with_reducible rfl)
  simp only [Act.put, List.setIfInBounds_toArray, List.set_cons_zero, List.set_cons_succ]
  refine wpL_yield (v := ?_) rfl (fun w' hS => ?_) ?_
  rotate_left
  · (obtain ⟨_, hS⟩ := hS; have pc := cell_of_obj hS.obj 2; have fc := files_cell hS.right; go_simp; try with_reducible rfl)
  simp only [Act.put, List.setIfInBounds_toArray, List.set_cons_zero, List.set_cons_succ]
  refine wpL_yield (v := ?_) rfl (fun w' hS => ?_) ?_
  rotate_left
  · (obtain ⟨_, hS⟩ := hS; have pc := cell_of_obj hS.obj 2; have fc := files_cell hS.right; go_simp; try with_reducible rfl)
  simp only [Act.put, List.setIfInBounds_toArray, List.set_cons_zero, List.set_cons_succ]
  refine wpL_yield (v := ?_) rfl (fun w' hS => ?_) ?_
  rotate_left
  · (obtain ⟨_, hS⟩ := hS; have pc := cell_of_obj hS.obj 2; have fc := files_cell hS.right; go_simp; try with_reducible rfl)
  simp only [Act.put, List.setIfInBounds_toArray, List.set_cons_zero, List.set_cons_succ]
  refine wpL_eff rfl ?_
  go_simp
  refine (Hco1.out _).mono ?_
  rintro e w' ⟨rfl, rfl⟩
  refine ⟨⟨_, h3.drew⟩, ?_⟩
  refine wpL_eff rfl ?_
  go_simp
  refine (Hco2.out _).mono ?_
  rintro e w' ⟨rfl, rfl⟩
  refine ⟨⟨_, h3.drew⟩, ?_⟩
  refine wpL_yield (v := ?_) rfl (fun w' hS => ?_) ?_
  rotate_left
  · (go_simp; try with_reducible rfl)
  simp only [Act.put, List.setIfInBounds_toArray, List.set_cons_zero, List.set_cons_succ]
  refine wpL_eff rfl ?_
  go_simp
  refine (Hfr.out _ k _ h3.drew.pull3).mono ?_
  rintro e w4 ⟨rfl, h4⟩
  have h5 : Bears w4 (nodeObj xb x * (filesObj f s * (spA s p d len g k true F G * R))) := h4.cast (by ac_rfl)
  refine ⟨⟨_, h5⟩, ?_⟩
  refine wpL_yield (v := ?_) rfl (fun w' hS => ?_) ?_
  rotate_left
  · (go_simp; try with_reducible rfl)
  simp only [Act.put, List.setIfInBounds_toArray, List.set_cons_zero, List.set_cons_succ]
  refine wpL_nil ?_
  refine wpL_nil ?_
  have c2 := cell_of_obj h5.obj 2
  simp only [List.getElem?_toArray, List.getElem?_cons_zero, List.getElem?_cons_succ] at c2
  go_wp2_with fail
  refine (Hbl1.out _).mono ?_
  rintro e w' ⟨rfl, rfl⟩
  go_wp2_with fail
  go_loopw [12] (fun iv wr => ∃ c : Nat, sb ≤ c ∧ c ≤ eb ∧ iv = .int .i64 c ∧ ∃ (G' : Nat → Sec) (x' : NodeM) (L' : LayM) (k' : List Nat), GrownTo len G G' X BF Ls n c x' L' ∧ Bears wr (nodeObj xb x' * (filesObj f s * (spA s p d len g k' true F G' * R)))) (fun iv _ => eb - (intOf iv).toNat)
  case atStart => exact ⟨sb, Nat.le_refl _, hle, rfl, G, x, _, k, by have := Hst.out; rw [Hhx.out] at this; exact this, h5⟩
  case round =>
    obtain ⟨c, hc1, hc2, rfl, G', x', L', k', hC, h6⟩ := hrel
    have HC := Lib.hid hC
    clear hC
    by_cases hlt : c < eb
    · have hltI : (c : Int) < (eb : Int) := by omega
      have hb2 := HC.out.blk
      have hlb := (HC.out.core.lay n hn)
      have hgr := grow_any (X := updF X n x') (B := BF) (Ls := updF Ls n L') (R := R) (f := f) (s := s) (p := p) (g := g) (xb := xb) (k := k') (d := d) (F := F) (w := wr) (n := n) (j := c) (by rw [updF_self]; exact h6) HC.out.core hn (by rw [updF_self]; exact HC.out.lenB) (by omega) (by
        have := costN_mono (show c + 1 ≤ eb by omega)
        rw [hb2, Hls.out]
        omega)
      have Hgr := Lib.hid hgr
      clear hgr hlb hb2
      go_wp2_with fail
      refine (Hbl2.out _).mono ?_
      rintro e w' ⟨rfl, rfl⟩
      go_wp2_with fail
      refine Hgr.out.mono ?_
      rintro e w7 ⟨q, G2, x2, L2, k2, rfl, hS, h7⟩
      have HC2 := Lib.hid (HC.out.step hS)
      clear hS
      go_wp2_with fail
      go_roundw
      case rel => exact ⟨c + 1, by omega, hlt, by go_num, G2, _, _, k2, HC2.out, h7⟩
      case measure => simp [intOf]; omega
    · obtain rfl : c = eb := by omega
      have c2 := cell_of_obj h6.obj 2
      simp only [List.getElem?_toArray, List.getElem?_cons_zero, List.getElem?_cons_succ] at c2
      have f2 := frozen_of_obj h6.obj 2
      have h7 : Bears _ (nodeObj xb { x' with size := en } * (filesObj f s * (spA s p d len g k' true F G' * R))) := h6.setCell (i := 2) (.int .i64 en)
      go_wp2_with fail
      refine (Hbl2.out _).mono ?_
      rintro e w' ⟨rfl, rfl⟩
      go_wp2_with fail
      have hcore : Wrote len G' G' (updF X n { x' with size := en }) BF (updF Ls n L') n (wrB (BF n) at' b 0) := by
        refine ⟨?_, rfl, fun _ _ => rfl⟩
        rw [wrB_zero, updF_id]
        exact HC.out.core.renode (NodeM.same_attr x' x'.kind x'.links en)
      have HW := Lib.hid hcore
      have hfxe : ({ x' with size := en } : NodeM).Fits := by
        have := HC.out.fits (by rw [Hhx.out]; exact Hfx.out)
        exact ⟨this.kind, this.links, by simp only; omega, this.d0, this.d1, this.d2, this.d3, this.near, this.wide⟩
      have hkx : x'.kind = x.kind ∧ x'.links = x.links := ⟨by rw [HC.out.kind, Hhx.out], by rw [HC.out.links, Hhx.out]⟩
      have hlx := HC.out.lenB
      have hbx := HC.out.blk
      have hix := HC.out.ino
      obtain ⟨xe, hxe⟩ : ∃ y, ({ x' with size := en } : NodeM) = y := ⟨_, rfl⟩
      have hke : xe.kind = x.kind ∧ xe.links = x.links ∧ xe.size = en := by rw [← hxe]; exact ⟨hkx.1, hkx.2, rfl⟩
      rw [hxe] at h7 HW hfxe
      have Hfxe := Lib.hid hfxe
      have Hke := Lib.hid hke
      have Hlx := Lib.hid hlx
      have Hbx := Lib.hid hbx
      have Hix := Lib.hid hix
      clear hcore hfxe hkx hlx hbx hix hxe hke h6 h5 h4 h3 h2 h1 HC
      go_loopw [2, 15] (fun a rv wr => ∃ i : Nat, i ≤ bn ∧ a = .int .i64 ((at' : Int) + (i : Int)) ∧ ∃ ad' cap', rv = .slice ad' (bn - i) cap' ∧ bn - i ≤ cap' ∧ R.Tells (fun w => BytesIn w (.slice ad' (bn - i) cap') (b.drop i)) ∧ ∃ (G2 : Nat → Sec) (k2 : List Nat),
        Wrote len G' G2 (updF X n xe) BF (updF Ls n L') n (wrB (BF n) at' b i) ∧ Bears wr (nodeObj xb xe * (filesObj f s * (spA s p d len g k2 true F G2 * R)))) (fun a _ _ => (at' + bn) - (intOf a).toNat)
      case atStart => exact ⟨0, by omega, by simp, ad, cap, rfl, hcap, Hb.out, G', k', HW.out, h7⟩
      case round =>
        obtain ⟨i, hi, rfl, ad', cap', rfl, hcp, hbr, G2, k2, hW, h8⟩ := hrel
        have HW2 := Lib.hid hW
        have Hbr := Lib.hid hbr
        clear hW hbr
        have c0 := cell_of_obj h8.obj 0
        have c1 := cell_of_obj h8.obj 1
        have c2 := cell_of_obj h8.obj 2
        have c3 := cell_of_obj h8.obj 3
        have c4 := cell_of_obj h8.obj 4
        have c5 := cell_of_obj h8.obj 5
        have c6 := cell_of_obj h8.obj 6
        have c7 := cell_of_obj h8.obj 7
        have c8 := cell_of_obj h8.obj 8
        simp only [List.getElem?_toArray, List.getElem?_cons_zero, List.getElem?_cons_succ] at c0 c1 c2 c3 c4 c5 c6 c7 c8
        by_cases hlt : i < bn
        · obtain ⟨kq, hkq⟩ : ∃ q, (at' + i) / 64 = q := ⟨_, rfl⟩
          obtain ⟨lo, hlo⟩ : ∃ q, (at' + i) % 64 = q := ⟨_, rfl⟩
          obtain ⟨m, hm⟩ : ∃ m, Nat.min (bn - i) (64 - lo) = m := ⟨_, rfl⟩
          have hm0 : m ≤ bn - i ∧ m ≤ 64 - lo ∧ 0 < m := by
            refine ⟨by rw [← hm]; exact Nat.min_le_left _ _, by rw [← hm]; exact Nat.min_le_right _ _, ?_⟩
            rw [← hm]
            exact Nat.lt_min.2 ⟨by omega, by omega⟩
          have q1 : ((at' : Int) + (i : Int)) % 64 = (lo : Int) := by omega
          have q2 : ((at' : Int) + (i : Int)).tmod 64 = (lo : Int) := by rw [Int.tmod_eq_emod_of_nonneg (by omega)]; exact q1
          have q3 : ((at' : Int) + (i : Int)) / 64 = (kq : Int) := by omega
          have q4 : ((at' : Int) + (i : Int)).tdiv 64 = (kq : Int) := by rw [Int.tdiv_eq_ediv_of_nonneg (by omega)]; exact q3
          have i1 : (0 : Int) < ((bn - i : Nat) : Int) := by omega
          have i2 : IntKind.i64.wrap ((at' : Int) + (i : Int) + (m : Int)) = (at' : Int) + (i : Int) + (m : Int) := IntWalk.i64_in _ (by omega)
          have hbn2 := Hbn.out
          have hcore := HW2.out.core
          have hL : LayOn G2 xe L' := by have := hcore.lay n hn; rwa [updF_self, updF_self] at this
          have hown : ∀ i ∈ L'.own, OwnOk len G2 i := by have := hcore.ownOk hn; rwa [updF_self] at this
          have hD : DataOn G2 L' (wrB (BF n) at' b i) := by have := hcore.data n hn; rwa [updF_self, updF_self] at this
          have hjl : kq < L'.blk.length := by
            have := Hen.out
            have := Heb.out
            rw [Hlx.out, ← this]
            unfold nBlk
            omega
          have hstep := HW2.out.step hn (c := kq) (b' := wrB (BF n) at' b (i + m)) (by rw [updF_self]; exact hjl) hl1 hl2 (wrB_step hkq (by omega))
          rw [updF_self] at hstep
          have hchunk := wrB_chunk (o := BF n) (a := at') (b := b) (i := i) (m := m) hkq (by omega) (by omega)
          rw [hlo] at hchunk
          have hb9 := fun w' (h : Bears w' (filesObj f s * (spA s p d len g k2 true F G2 * (nodeObj xb xe * R)))) => block_any h hL hown hjl rfl
          have hoq := hown _ (LayM.mem_blk hjl)
          have hGq := hD.at' kq hjl
          generalize L'.blk.getD kq 0 = q at hb9 hoq hGq hstep
          have hr9 := fun w' Q (h : Bears w' (filesObj f s * (spA s p d len g k2 true F G2 * Q))) => sreads_any h.pull2 q rfl hoq.chk hoq.lo hoq.hi hGq
          have hw9 := fun w' Q ad cap (h : Bears w' (spA s p d len g k2 true F G2 * (rowA 5 1 (.slice ad 64 cap) 64 (cellsV (chunkB (wrB (BF n) at' b (i + m)) kq)) * Q))) =>
            swrites_any h q rfl hoq.chk hoq.lo hoq.hi (b := chunkB (wrB (BF n) at' b (i + m)) kq) (ad := ad) (bn := 64) (cap := cap) (fun w' hw' => rowA_bytes (chunkB_length _ _).symm _ hw')
          simp only [wrN_ok (chunkB_length _ _)] at hw9
          have hcl9 : (chunkB (wrB (BF n) at' b i) kq).length = 64 := chunkB_length _ _
          generalize chunkB (wrB (BF n) at' b (i + m)) kq = C1 at hchunk hw9 hstep
          generalize chunkB (wrB (BF n) at' b i) kq = C0 at hchunk hr9 hcl9
          have hz8 : ∀ w, (Go.sizeOf 5).run Tryz.prog w = .ok 1 w := fun w => by kernel_rfl
          have hdl : (b.drop i).length = bn - i := by rw [List.length_drop, hbn2]
          have hdn : b.drop i ≠ [] := by intro e; rw [e] at hdl; simp at hdl; omega
          have Hb9 := Lib.hid hb9
          have Hr9 := Lib.hid hr9
          have Hw9 := Lib.hid hw9
          have Hcl9 := Lib.hid hcl9
          have Hchunk := Lib.hid hchunk
          have Hstep := Lib.hid hstep
          have Hdl := Lib.hid hdl
          have Hdn := Lib.hid hdn
          have Hm := Lib.hid hm
          clear hb9 hr9 hw9 hcl9 hchunk hstep hdl hdn hm hoq hGq hjl hD hown hL hcore hbn2 hkq hlo HW2
          go_wp2_with fail
          refine (Hb9.out _ (h8.cast (by ac_rfl))).mono ?_
          rintro e w9 ⟨rfl, h9⟩
          have f9 := files_cell h9
          go_wp2_with fail
          refine (Hr9.out _ _ h9).mono ?_
          rintro e w10 ⟨ad10, cap10, rfl, h10⟩
          obtain ⟨rg, rfl, _⟩ := h10.rowAt (k := 0) (by decide)
          obtain ⟨_, cap', e1', hcap10, _⟩ := h10.rowForm
          simp only [Value.slice.injEq] at e1'
          obtain ⟨-, -, rfl⟩ := e1'
          obtain ⟨w11, hcp11, h11⟩ := copy_row2 (o := lo) (dLen := 64 - lo) (dCap := cap10 - lo) (m := m) h10 Hcl9.out Hbr.out.right.right.right Hdn.out (by rw [Hdl.out]; exact Hm.out.symm) (by omega)
          rw [← Hchunk.out] at h11
          have f11 := files_cell h11.pull3
          go_wp2_with (first
            | (refine wpList_op rfl (exec_copy rfl rfl rfl hcp11) ?_))
          refine (Hw9.out _ _ _ _ h11.pull2).mono ?_
          rintro e w12 ⟨rfl, h12⟩
          have h13 : Bears w12 (nodeObj xb xe * (filesObj f s * (spA s p d len g (q :: k2) true F (updS G2 q C1) * R))) := (h12.cast (by ac_rfl) : Bears w12 (rowA 5 1 (.slice (some ⟨rg, 0, none⟩) 64 cap10) 64 (cellsV C1) * (nodeObj xb xe * (filesObj f s * (spA s p d len g (q :: k2) true F (updS G2 q C1) * R))))).right
          go_wp2_with fail
          refine wp_region_L (fun w' => True) 7 [(true, 0), (true, 1), (true, 2), (true, 3), (true, 4), (true, 5), (true, 6)] [(true, 7)] (by kernel_rfl) (by kernel_rfl) trivial ?_
          simp only [pick, List.getElem?_cons_zero, List.getElem?_cons_succ]
          refine wpL_yield (v := ?_) rfl (fun w' hS => ?_) ?_
          rotate_left
          · (go_simp; try with_reducible rfl)
          simp only [Act.put, List.setIfInBounds_toArray, List.set_cons_zero, List.set_cons_succ]
          refine wpL_yield (v := ?_) rfl (fun w' hS => ?_) ?_
          rotate_left
          · (go_simp; try with_reducible rfl)
          simp only [Act.put, List.setIfInBounds_toArray, List.set_cons_zero, List.set_cons_succ]
          refine wpL_yield (v := ?_) rfl (fun w' hS => ?_) ?_
          rotate_left
          · (go_simp; try with_reducible rfl)
          simp only [Act.put, List.setIfInBounds_toArray, List.set_cons_zero, List.set_cons_succ]
          refine wpL_yield (v := ?_) rfl (fun w' hS => ?_) ?_
          rotate_left
          · (go_simp; try with_reducible rfl)
          simp only [Act.put, List.setIfInBounds_toArray, List.set_cons_zero, List.set_cons_succ]
          refine wpL_yield (v := ?_) rfl (fun w' hS => ?_) ?_
          rotate_left
          · (go_simp; try with_reducible rfl)
          simp only [Act.put, List.setIfInBounds_toArray, List.set_cons_zero, List.set_cons_succ]
          refine wpL_yield rfl (fun w' hS => exec_rest (lo := m) rfl Tryz.underlying22 (hz8 w') rfl (by go_simp) (by omega)) ?_
          simp only [Act.put, List.setIfInBounds_toArray, List.set_cons_zero, List.set_cons_succ]
          refine wpL_yield (v := ?_) rfl (fun w' hS => ?_) ?_
          rotate_left
          · (go_simp; try with_reducible rfl)
          simp only [Act.put, List.setIfInBounds_toArray, List.set_cons_zero, List.set_cons_succ]
          refine wpL_nil ?_
          refine wpL_yield (v := ?_) rfl (fun w' hS => ?_) ?_
          rotate_left
          · (go_simp; try with_reducible rfl)
          simp only [Act.put, List.setIfInBounds_toArray, List.set_cons_zero, List.set_cons_succ]
          refine wpL_nil ?_
          go_wp2_with fail
          go_roundw
          case rel =>
            have hbr2 := Hbr.out.mono (fun w' h => h.rest (lo := m) (by omega) hcp)
            rw [List.drop_drop, Nat.sub_sub] at hbr2
            exact ⟨i + m, by omega, by go_num, restAd ad' cap' m, cap' - m, by rw [Nat.sub_sub], by omega, hbr2, _, _, Hstep.out, h13.drew⟩
          case measure => simp [intOf]; omega
        · obtain rfl : i = bn := by omega
          go_wp2_with fail
          refine (put_any h8.right n hn xe Hfxe.out).mono ?_
          rintro e w9 ⟨rfl, h9⟩
          go_wp2_with fail
          go_ret
          have hcore := HW2.out.core
          rw [show wrB (BF n) at' b i = fun j => (wrD old.data at' b).getD j 0 by funext j; rw [wrD_getD, Hbf.out, Hbn.out]] at hcore
          have hfs := Hput.out G2 L' xe Hfxe.out hcore (fun m hm => (HW2.out.ino m hm).trans (Hix.out m hm)) Hke.out.1 Hke.out.2.1 Hke.out.2.2 Hlx.out
          have hbk : blkN len (siN len G2 n (encB xe)).2 = blkN len G - ((costN c : Int) - costN sb) := by
            rw [siN_ok (encB_length xe)]
            show blkN len (updS G2 (iSec len n) _) = _
            rw [blk_put hn, HW2.out.blk, Hbx.out, Hls.out]
          exact ⟨rfl, _, _, _, hfs, hbk, h9⟩

end

end Go.Proofs.YtggbnelbnbaoiaaGreat

/- Walks of the files' functions, part 20: Cut, Link; no condition. -/
namespace Go.Proofs.YtggbnelbnbaoiaaGreat
open Go.RowKit Go.MapKept

section
variable {f s p len g : Nat} {k : List Nat} {d : DiskM} {F G : Nat → Sec} {Fs : Nat → FileM} {Ls : Nat → LayM} {R : Assn} {w : World}

/-- cut, of a file, whatever links its node tells. -/
theorem cut_fs (hF : FsOn len G Fs Ls) {n : Nat} (hn : n < 256) {tz : Nat} (htz : tz ≤ (Fs n).data.length) {x : NodeM} (hx : NodeM.Same (nodF len G n) x) (hs : x.size = (Fs n).data.length) {xb : Nat} (h : Bears w (nodeObj xb x * (filesObj f s * (spA s p d len g k true F G * R)))) :
    Calls Tryz.prog 99 #[.pointer (some ⟨f, 0, none⟩), .pointer (some ⟨xb, 0, none⟩), .int .i64 tz] w fun e w' => e = .returned (.int .i64 0) ∧ ∃ (G' : Nat → Sec) (x' : NodeM) (L' : LayM) (k' : List Nat),
      (Core len G' (updF (nodF len G) n x') (updF (byF Fs) n (fun j => ((Fs n).data.take tz).getD j 0)) (updF Ls n L') [] ∧ L'.blk.length = nBlk tz ∧ blkN len G' = blkN len G + ((costN (nBlk (Fs n).data.length) : Int) - costN (nBlk tz)) ∧ (∀ m, m < 256 → inodeB len G' m = inodeB len G m) ∧
        x'.kind = x.kind ∧ x'.links = x.links ∧ x'.size = tz ∧ (x.Fits → x'.Fits)) ∧ Bears w' (nodeObj xb x' * (filesObj f s * (spA s p d len g k' true F G' * R))) := by
  have hc : Core len G (updF (nodF len G) n x) (byF Fs) Ls [] := by
    have := hF.core
    rw [← updF_id (nodF len G) n] at this
    exact this.renode hx
  have hm := hF.max n hn
  have hb := hF.blk n hn
  refine (cut_any (X := updF (nodF len G) n x) (by rw [updF_self]; exact h) hc hn (by rw [updF_self, hs]; exact hb) (by rw [updF_self, hs]; exact hm) (fun j hj => by rw [updF_self, hs] at hj; exact getD_over hj) tz (by rw [updF_self, hs]; exact htz)).mono ?_
  rintro e w' ⟨rfl, G', x', L', k', hC, h2⟩
  refine ⟨rfl, G', x', L', k', ⟨?_, hC.lenB, by rw [hC.blk, hb], hC.ino, ?_, ?_, hC.size, ?_⟩, h2⟩
  · have := hC.core
    rw [updF_updF] at this
    have e : byF Fs n = fun j => (Fs n).data.getD j 0 := rfl
    rw [e, cutB_take] at this
    exact this
  · have := hC.kind; rwa [updF_self] at this
  · have := hC.links; rwa [updF_self] at this
  · have := hC.fits; rwa [updF_self] at this
theorem blk_siN {len n : Nat} {G : Nat → Sec} {x : NodeM} (hn : n < 256) : blkN len (siN len G n (encB x)).2 = blkN len G := by
  rw [siN_ok (encB_length x)]
  exact blk_put hn
theorem NodeM.Same.rfl' (x : NodeM) : NodeM.Same x x := ⟨fun _ => rfl, rfl, rfl⟩

set_option maxRecDepth 100000 in
set_option maxHeartbeats 1000000 in
theorem icut_any (h : Bears w (filesObj f s * (spA s p d len g k true F G * R))) (hF : FsOn len G Fs Ls) {n : Nat} (hn : n < 256) (hk : (Fs n).kind ≠ 0) {tz : Nat} (htz : tz ≤ (Fs n).data.length) :
    Calls Tryz.prog 46 #[.pointer (some ⟨f, 0, none⟩), .int .i64 n, .int .i64 tz] w fun e w' => e = .returned (.int .i64 0) ∧ ∃ (G' : Nat → Sec) (Ls' : Nat → LayM) (k' : List Nat),
      (FsOn len G' (updF Fs n { Fs n with data := (Fs n).data.take tz }) Ls' ∧ blkN len G' = blkN len G + ((costN (nBlk (Fs n).data.length) : Int) - costN (nBlk tz))) ∧
      Bears w' (filesObj f s * (spA s p d len g k' true F G' * R)) := by
  have hcl := closed_any h
  have hg := fun w' (h : Bears w' (filesObj f s * (spA s p d len g k true F G * R))) => get_any h n hn (by rw [hF.nodK hn]; exact hk)
  have hcut := fun w' xb (h : Bears w' (nodeObj xb (nodF len G n) * (filesObj f s * (spA s p d len g k true F G * R)))) => cut_fs hF hn htz (NodeM.Same.rfl' _) (hF.size n hn) h
  have hfx : (nodF len G n).Fits := dec_fits _
  have hmd := hF.max n hn
  have hput : ∀ G' L' (xe : NodeM), xe.Fits → Core len G' (updF (nodF len G) n xe) (updF (byF Fs) n (fun j => ((Fs n).data.take tz).getD j 0)) (updF Ls n L') [] → (∀ m, m < 256 → inodeB len G' m = inodeB len G m) → xe.kind = (nodF len G n).kind → xe.links = (nodF len G n).links → xe.size = tz → L'.blk.length = nBlk tz →
      FsOn len (siN len G' n (encB xe)).2 (updF Fs n { Fs n with data := (Fs n).data.take tz }) (updF Ls n L') := by
    intro G' L' xe h1 h2 h3 h4 h5 h6 h7
    have hl : ((Fs n).data.take tz).length = tz := by rw [List.length_take]; omega
    exact FsOn.put hF hn h1 h2 h3 (h4.trans (hF.kind n hn)) (h5.trans (hF.links n hn)) (by rw [h6, hl]) (by rw [hl]; omega) (by rw [updF_self, hl]; exact h7) (fun m _ hm => updF_ne hm) (fun h => absurd h hk) (fun h => hF.lnk n hn h)
  have hxs : (nodF len G n).size = (Fs n).data.length := hF.size n hn
  have hgx : dec (inodeB len G n) = nodF len G n := rfl
  rw [hgx] at hg
  have i1 : (tz : Int) ≤ ((nodF len G n).size : Int) := by rw [hxs]; omega
  generalize nodF len G n = x at *
  have Hcl := Lib.hid hcl
  have Hg := Lib.hid hg
  have Hcut := Lib.hid hcut
  have Hput := Lib.hid hput
  have Hfx := Lib.hid hfx
  clear hcl hg hcut hput hfx hxs hgx hF hmd hk htz
  go_enter Tryz.func46, Tryz.ntmps46
  go_wp2_with fail
  refine Hcl.out.mono ?_
  rintro e w1 ⟨rfl, h1⟩
  go_wp2_with fail
  refine (Hg.out _ h1).mono ?_
  rintro e w2 ⟨rfl, h2⟩
  have h3 : Bears _ (nodeObj w2.heap.size x * (filesObj f s * (spA s p d len g k true F G * R))) := h2.alloc (.cells #[.int .i64 x.kind, .int .i64 x.links, .int .i64 x.size, .int .i64 x.d0, .int .i64 x.d1, .int .i64 x.d2, .int .i64 x.d3, .int .i64 x.near, .int .i64 x.wide] 94)
  have c2 := cell_of_obj h3.obj 2
  simp only [List.getElem?_toArray, List.getElem?_cons_zero, List.getElem?_cons_succ] at c2
  go_wp2_with fail
  generalize w2.heap.size = xb at h3 ⊢
  refine (Hcut.out _ _ h3).mono ?_
  rintro e w4 ⟨rfl, G', x', L', k', ⟨hC, hlb, hbk, hin, hkd, hlk, hsz, hft⟩, h4⟩
  have c0 := cell_of_obj h4.obj 0
  have c1 := cell_of_obj h4.obj 1
  have c2 := cell_of_obj h4.obj 2
  have c3 := cell_of_obj h4.obj 3
  have c4 := cell_of_obj h4.obj 4
  have c5 := cell_of_obj h4.obj 5
  have c6 := cell_of_obj h4.obj 6
  have c7 := cell_of_obj h4.obj 7
  have c8 := cell_of_obj h4.obj 8
  simp only [List.getElem?_toArray, List.getElem?_cons_zero, List.getElem?_cons_succ] at c0 c1 c2 c3 c4 c5 c6 c7 c8
  have hfx' := hft Hfx.out
  have HR := Lib.hid (And.intro (Hput.out G' L' x' hfx' hC hin hkd hlk hsz hlb) ((blk_siN (x := x') hn).trans hbk))
  have Hfx' := Lib.hid hfx'
  clear hC hlb hbk hin hkd hlk hsz hft hfx'
  go_wp2_with fail
  refine (put_any h4.right n hn x' Hfx'.out).mono ?_
  rintro e w9 ⟨rfl, h9⟩
  go_wp2_with fail
  go_ret
  exact ⟨rfl, _, _, _, HR.out, h9⟩

set_option maxRecDepth 100000 in
set_option maxHeartbeats 1000000 in
/-- Links that stay more than none. -/
theorem ilink_any (h : Bears w (filesObj f s * (spA s p d len g k true F G * R))) (hF : FsOn len G Fs Ls) {n : Nat} (hn : n < 256) (hk : (Fs n).kind ≠ 0) {by' : Int} (hby : by' = 1 ∨ by' = -1) {l : Nat} (hl : ((Fs n).links : Int) + by' = (l : Int)) (hl1 : 1 ≤ l) (hl2 : l < 65536) :
    Calls Tryz.prog 47 #[.pointer (some ⟨f, 0, none⟩), .int .i64 n, .int .i64 by'] w fun e w' => e = .returned (.int .i64 0) ∧ ∃ (G' : Nat → Sec) (Ls' : Nat → LayM) (k' : List Nat),
      (FsOn len G' (updF Fs n { Fs n with links := l }) Ls' ∧ blkN len G' = blkN len G) ∧ Bears w' (filesObj f s * (spA s p d len g k' true F G' * R)) := by
  have hcl := closed_any h
  have hg := fun w' (h : Bears w' (filesObj f s * (spA s p d len g k true F G * R))) => get_any h n hn (by rw [hF.nodK hn]; exact hk)
  have hfx : (nodF len G n).Fits := dec_fits _
  have hlx : ((nodF len G n).links : Int) + by' = (l : Int) := by rw [hF.links n hn]; exact hl
  have hput : FsOn len (siN len G n (encB { nodF len G n with links := l })).2 (updF Fs n { Fs n with links := l }) Ls := by
    have hc : Core len G (updF (nodF len G) n { nodF len G n with links := l }) (updF (byF Fs) n (fun j => (Fs n).data.getD j 0)) Ls [] := by
      have := hF.core
      rw [← updF_id (nodF len G) n, ← updF_id (byF Fs) n] at this
      exact this.renode (NodeM.same_attr _ (nodF len G n).kind l (nodF len G n).size)
    have hfx2 : ({ nodF len G n with links := l } : NodeM).Fits := ⟨hfx.kind, hl2, hfx.size, hfx.d0, hfx.d1, hfx.d2, hfx.d3, hfx.near, hfx.wide⟩
    exact FsOn.put (x := { nodF len G n with links := l }) (f := { Fs n with links := l }) hF hn hfx2 hc (fun _ _ => rfl) (hF.kind n hn) rfl (hF.size n hn) (hF.max n hn) (hF.blk n hn) (fun _ _ _ => rfl) (fun h => absurd h hk) (fun _ => hl1)
  have hbk : blkN len (siN len G n (encB { nodF len G n with links := l })).2 = blkN len G := blk_siN hn
  have hgx : dec (inodeB len G n) = nodF len G n := rfl
  rw [hgx] at hg
  generalize nodF len G n = x at *
  have hpw := fun w' Q (h : Bears w' (filesObj f s * (spA s p d len g k true F G * Q))) => put_any h n hn { x with links := l } ⟨hfx.kind, hl2, hfx.size, hfx.d0, hfx.d1, hfx.d2, hfx.d3, hfx.near, hfx.wide⟩
  have hxl := hfx.links
  have Hcl := Lib.hid hcl
  have Hg := Lib.hid hg
  have Hput := Lib.hid hput
  have Hbk := Lib.hid hbk
  have Hpw := Lib.hid hpw
  have Hlx := Lib.hid hlx
  have i1 : IntKind.i64.wrap ((x.links : Int) + by') = (l : Int) := by rw [hlx]; exact IntWalk.i64_in _ (by omega)
  have i2 : (l : Int) < 65536 := by omega
  have i3 : (0 : Int) < (l : Int) := by omega
  have i4 : decide ((65536 : Int) ≤ (l : Int)) = false := decide_eq_false (by omega)
  clear hcl hg hput hfx hgx hF hk hbk hpw hlx hl hl2 hxl i2
  rcases hby with rfl | rfl
  all_goals
    go_enter Tryz.func47, Tryz.ntmps47
    go_wp2_with fail
    refine Hcl.out.mono ?_
    rintro e w1 ⟨rfl, h1⟩
    go_wp2_with fail
    refine (Hg.out _ h1).mono ?_
    rintro e w2 ⟨rfl, h2⟩
    have h3 : Bears _ (nodeObj w2.heap.size x * (filesObj f s * (spA s p d len g k true F G * R))) := h2.alloc (.cells #[.int .i64 x.kind, .int .i64 x.links, .int .i64 x.size, .int .i64 x.d0, .int .i64 x.d1, .int .i64 x.d2, .int .i64 x.d3, .int .i64 x.near, .int .i64 x.wide] 94)
    have c1 := cell_of_obj h3.obj 1
    simp only [List.getElem?_toArray, List.getElem?_cons_zero, List.getElem?_cons_succ] at c1
    have f1 := frozen_of_obj h3.obj 1
    have h4 : Bears _ (nodeObj w2.heap.size { x with links := l } * (filesObj f s * (spA s p d len g k true F G * R))) := h2.alloc (.cells #[.int .i64 x.kind, .int .i64 l, .int .i64 x.size, .int .i64 x.d0, .int .i64 x.d1, .int .i64 x.d2, .int .i64 x.d3, .int .i64 x.near, .int .i64 x.wide] 94)
    have c0 := cell_of_obj h4.obj 0
    have c1' := cell_of_obj h4.obj 1
    have c2 := cell_of_obj h4.obj 2
    have c3 := cell_of_obj h4.obj 3
    have c4 := cell_of_obj h4.obj 4
    have c5 := cell_of_obj h4.obj 5
    have c6 := cell_of_obj h4.obj 6
    have c7 := cell_of_obj h4.obj 7
    have c8 := cell_of_obj h4.obj 8
    simp only [List.getElem?_toArray, List.getElem?_cons_zero, List.getElem?_cons_succ] at c0 c1' c2 c3 c4 c5 c6 c7 c8
    go_wp2_with fail
    refine (Hpw.out _ _ h4.right).mono ?_
    rintro e w9 ⟨rfl, h9⟩
    go_wp2_with fail
    go_ret
    exact ⟨rfl, _, _, _, ⟨Hput.out, Hbk.out⟩, h9⟩

end

end Go.Proofs.YtggbnelbnbaoiaaGreat

/- Walks of the files' functions, part 21: Link's last, refusals; no condition. -/
namespace Go.Proofs.YtggbnelbnbaoiaaGreat
open Go.RowKit Go.MapKept

theorem LayOn.zero {G : Nat → Sec} {x : NodeM} {L : LayM} (h : LayOn G x L) (h0 : L.blk.length = 0) : LayOn G NodeM.zero L :=
  ⟨h.max, fun k _ h2 => by omega, fun h1 => by omega, h.nearN, fun _ => rfl, fun h1 => by omega, fun _ => rfl, h.inn, h.wideN, h.innN⟩
theorem Core.zero {len n : Nat} {G : Nat → Sec} {X : Nat → NodeM} {B : Nat → Nat → UInt8} {Ls : Nat → LayM} {E : List Nat} {x : NodeM} (h : Core len G (updF X n x) B Ls E) (h0 : (Ls n).blk.length = 0) : Core len G (updF X n NodeM.zero) B Ls E :=
  ⟨h.g64, fun m hm => by
    have := h.lay m hm
    by_cases hmn : m = n
    · subst hmn; rw [updF_self] at this ⊢; exact this.zero h0
    · rw [updF_ne hmn] at this ⊢; exact this, h.data, h.rng, h.nodup, h.disj, h.eR, h.eN, h.eD, h.bits, h.out⟩
theorem zero_fits : NodeM.zero.Fits := by constructor <;> decide

section
variable {f s p len g : Nat} {k : List Nat} {d : DiskM} {op : Bool} {F G : Nat → Sec} {Fs : Nat → FileM} {Ls : Nat → LayM} {R : Assn} {w : World}

set_option maxRecDepth 100000 in
set_option maxHeartbeats 1000000 in
/-- The last link goes, and the file with it. -/
theorem ilink_gone (h : Bears w (filesObj f s * (spA s p d len g k true F G * R))) (hF : FsOn len G Fs Ls) {n : Nat} (hn : n < 256) (hk : (Fs n).kind ≠ 0) (hl : (Fs n).links = 1) :
    Calls Tryz.prog 47 #[.pointer (some ⟨f, 0, none⟩), .int .i64 n, .int .i64 (-1)] w fun e w' => e = .returned (.int .i64 0) ∧ ∃ (G' : Nat → Sec) (Ls' : Nat → LayM) (k' : List Nat),
      (FsOn len G' (updF Fs n noFile) Ls' ∧ blkN len G' = blkN len G + (costN (nBlk (Fs n).data.length) : Int)) ∧ Bears w' (filesObj f s * (spA s p d len g k' true F G' * R)) := by
  have hcl := closed_any h
  have hg := fun w' (h : Bears w' (filesObj f s * (spA s p d len g k true F G * R))) => get_any h n hn (by rw [hF.nodK hn]; exact hk)
  have hcut := fun w' xb (h : Bears w' (nodeObj xb { nodF len G n with links := 0 } * (filesObj f s * (spA s p d len g k true F G * R)))) => cut_fs (tz := 0) hF hn (Nat.zero_le _) (NodeM.same_attr (nodF len G n) (nodF len G n).kind 0 (nodF len G n).size) (hF.size n hn) h
  have hput : ∀ G' L' (xe : NodeM), Core len G' (updF (nodF len G) n xe) (updF (byF Fs) n (fun j => ((Fs n).data.take 0).getD j 0)) (updF Ls n L') [] → (∀ m, m < 256 → inodeB len G' m = inodeB len G m) → L'.blk.length = nBlk 0 →
      FsOn len (siN len G' n (encB NodeM.zero)).2 (updF Fs n noFile) (updF Ls n L') := by
    intro G' L' xe h2 h3 h7
    exact FsOn.put (x := NodeM.zero) (f := noFile) hF hn zero_fits (h2.zero (by rw [updF_self]; exact h7)) h3 rfl rfl rfl (by decide) (by rw [updF_self]; exact h7) (fun m _ hm => updF_ne hm) (fun _ => rfl) (fun h => absurd rfl h)
  have hlx : (nodF len G n).links = 1 := by rw [hF.links n hn]; exact hl
  have hfx : (nodF len G n).Fits := dec_fits _
  have hgx : dec (inodeB len G n) = nodF len G n := rfl
  rw [hgx] at hg
  rw [show ((0 : Nat) : Int) = 0 from rfl] at hcut
  generalize nodF len G n = x at *
  obtain ⟨kd, lk, sz, a0, a1, a2, a3, nr, wd⟩ := x
  simp only at hlx
  subst hlx
  have Hcl := Lib.hid hcl
  have Hg := Lib.hid hg
  have Hcut := Lib.hid hcut
  have Hput := Lib.hid hput
  have Hb0 := Lib.hid build_node
  clear hcl hg hcut hput hgx hF hk hl hfx
  go_enter Tryz.func47, Tryz.ntmps47
  go_wp2_with fail
  refine Hcl.out.mono ?_
  rintro e w1 ⟨rfl, h1⟩
  go_wp2_with fail
  refine (Hg.out _ h1).mono ?_
  rintro e w2 ⟨rfl, h2⟩
  have h3 : Bears _ (nodeObj w2.heap.size ⟨kd, 1, sz, a0, a1, a2, a3, nr, wd⟩ * (filesObj f s * (spA s p d len g k true F G * R))) := h2.alloc (.cells #[.int .i64 kd, .int .i64 1, .int .i64 sz, .int .i64 a0, .int .i64 a1, .int .i64 a2, .int .i64 a3, .int .i64 nr, .int .i64 wd] 94)
  have c1 := cell_of_obj h3.obj 1
  simp only [List.getElem?_toArray, List.getElem?_cons_zero, List.getElem?_cons_succ] at c1
  have f1 := frozen_of_obj h3.obj 1
  have h4 : Bears _ (nodeObj w2.heap.size ⟨kd, 0, sz, a0, a1, a2, a3, nr, wd⟩ * (filesObj f s * (spA s p d len g k true F G * R))) := h2.alloc (.cells #[.int .i64 kd, .int .i64 0, .int .i64 sz, .int .i64 a0, .int .i64 a1, .int .i64 a2, .int .i64 a3, .int .i64 nr, .int .i64 wd] 94)
  have c1' := cell_of_obj h4.obj 1
  simp only [List.getElem?_toArray, List.getElem?_cons_zero, List.getElem?_cons_succ] at c1'
  go_wp2_with fail
  refine (Hcut.out _ _ h4).mono ?_
  rintro e w4 ⟨rfl, G', x', L', k', ⟨hC, hlb, hbk, hin, _⟩, h5⟩
  have HR := Lib.hid (And.intro (Hput.out G' L' x' hC hin hlb) ((blk_siN (x := NodeM.zero) hn).trans hbk))
  clear hC hlb hbk hin
  go_wp2_with (refine wpList_op rfl (exec_build0 rfl (Hb0.out _)) ?_)
  refine (put_any h5.right n hn NodeM.zero zero_fits).mono ?_
  rintro e w9 ⟨rfl, h9⟩
  go_wp2_with fail
  go_ret
  obtain ⟨hr1, hr2⟩ := HR.out
  exact ⟨rfl, _, _, _, ⟨hr1, by rw [hr2]; show _ + (_ - ((0 : Nat) : Int)) = _; omega⟩, h9⟩

set_option maxRecDepth 100000 in
set_option maxHeartbeats 1000000 in
theorem iwrite_closed (h : Bears w (filesObj f s * (spA s p d len g k false F G * R))) (n at' : Int) (v : Value) :
    Calls Tryz.prog 10 #[.pointer (some ⟨f, 0, none⟩), .int .i64 n, .int .i64 at', v] w fun e w' => e = .returned (.int .i64 30) ∧ Bears w' (filesObj f s * (spA s p d len g k false F G * R)) := by
  have hcl := closed_any h
  have Hcl := Lib.hid hcl
  clear hcl h
  go_enter Tryz.func10, Tryz.ntmps10
  go_wp2_with fail
  refine Hcl.out.mono ?_
  rintro e w1 ⟨rfl, h1⟩
  go_wp2_with fail
  go_ret
  exact ⟨rfl, h1⟩
set_option maxRecDepth 100000 in
set_option maxHeartbeats 1000000 in
theorem icut_closed (h : Bears w (filesObj f s * (spA s p d len g k false F G * R))) (n m : Int) :
    Calls Tryz.prog 46 #[.pointer (some ⟨f, 0, none⟩), .int .i64 n, .int .i64 m] w fun e w' => e = .returned (.int .i64 30) ∧ Bears w' (filesObj f s * (spA s p d len g k false F G * R)) := by
  have hcl := closed_any h
  have Hcl := Lib.hid hcl
  clear hcl h
  go_enter Tryz.func46, Tryz.ntmps46
  go_wp2_with fail
  refine Hcl.out.mono ?_
  rintro e w1 ⟨rfl, h1⟩
  go_wp2_with fail
  go_ret
  exact ⟨rfl, h1⟩
set_option maxRecDepth 100000 in
set_option maxHeartbeats 1000000 in
theorem ilink_closed (h : Bears w (filesObj f s * (spA s p d len g k false F G * R))) (n m : Int) :
    Calls Tryz.prog 47 #[.pointer (some ⟨f, 0, none⟩), .int .i64 n, .int .i64 m] w fun e w' => e = .returned (.int .i64 30) ∧ Bears w' (filesObj f s * (spA s p d len g k false F G * R)) := by
  have hcl := closed_any h
  have Hcl := Lib.hid hcl
  clear hcl h
  go_enter Tryz.func47, Tryz.ntmps47
  go_wp2_with fail
  refine Hcl.out.mono ?_
  rintro e w1 ⟨rfl, h1⟩
  go_wp2_with fail
  go_ret
  exact ⟨rfl, h1⟩
set_option maxRecDepth 100000 in
set_option maxHeartbeats 1000000 in
theorem iwrite_no (h : Bears w (filesObj f s * (spA s p d len g k true F G * R))) (n at' : Int) (v : Value) (hno : NoIno len G n) :
    Calls Tryz.prog 10 #[.pointer (some ⟨f, 0, none⟩), .int .i64 n, .int .i64 at', v] w fun e w' => e = .returned (.int .i64 50) ∧ Bears w' (filesObj f s * (spA s p d len g k true F G * R)) := by
  have hcl := closed_any h
  have hg := fun w' (h : Bears w' (filesObj f s * (spA s p d len g k true F G * R))) => get_no h n hno
  have Hcl := Lib.hid hcl
  have Hg := Lib.hid hg
  clear hcl hg h hno
  go_enter Tryz.func10, Tryz.ntmps10
  go_wp2_with fail
  refine Hcl.out.mono ?_
  rintro e w1 ⟨rfl, h1⟩
  go_wp2_with fail
  refine (Hg.out _ h1).mono ?_
  rintro e w2 ⟨rfl, h2⟩
  have h3 := h2.alloc (.cells #[.int .i64 0, .int .i64 0, .int .i64 0, .int .i64 0, .int .i64 0, .int .i64 0, .int .i64 0, .int .i64 0, .int .i64 0] 94)
  go_wp2_with fail
  go_ret
  exact ⟨rfl, h3.right⟩
set_option maxRecDepth 100000 in
set_option maxHeartbeats 1000000 in
theorem icut_no (h : Bears w (filesObj f s * (spA s p d len g k true F G * R))) (n m : Int) (hno : NoIno len G n) :
    Calls Tryz.prog 46 #[.pointer (some ⟨f, 0, none⟩), .int .i64 n, .int .i64 m] w fun e w' => e = .returned (.int .i64 50) ∧ Bears w' (filesObj f s * (spA s p d len g k true F G * R)) := by
  have hcl := closed_any h
  have hg := fun w' (h : Bears w' (filesObj f s * (spA s p d len g k true F G * R))) => get_no h n hno
  have Hcl := Lib.hid hcl
  have Hg := Lib.hid hg
  clear hcl hg h hno
  go_enter Tryz.func46, Tryz.ntmps46
  go_wp2_with fail
  refine Hcl.out.mono ?_
  rintro e w1 ⟨rfl, h1⟩
  go_wp2_with fail
  refine (Hg.out _ h1).mono ?_
  rintro e w2 ⟨rfl, h2⟩
  have h3 := h2.alloc (.cells #[.int .i64 0, .int .i64 0, .int .i64 0, .int .i64 0, .int .i64 0, .int .i64 0, .int .i64 0, .int .i64 0, .int .i64 0] 94)
  go_wp2_with fail
  go_ret
  exact ⟨rfl, h3.right⟩
set_option maxRecDepth 100000 in
set_option maxHeartbeats 1000000 in
theorem ilink_no (h : Bears w (filesObj f s * (spA s p d len g k true F G * R))) (n m : Int) (hno : NoIno len G n) :
    Calls Tryz.prog 47 #[.pointer (some ⟨f, 0, none⟩), .int .i64 n, .int .i64 m] w fun e w' => e = .returned (.int .i64 50) ∧ Bears w' (filesObj f s * (spA s p d len g k true F G * R)) := by
  have hcl := closed_any h
  have hg := fun w' (h : Bears w' (filesObj f s * (spA s p d len g k true F G * R))) => get_no h n hno
  have Hcl := Lib.hid hcl
  have Hg := Lib.hid hg
  clear hcl hg h hno
  go_enter Tryz.func47, Tryz.ntmps47
  go_wp2_with fail
  refine Hcl.out.mono ?_
  rintro e w1 ⟨rfl, h1⟩
  go_wp2_with fail
  refine (Hg.out _ h1).mono ?_
  rintro e w2 ⟨rfl, h2⟩
  have h3 := h2.alloc (.cells #[.int .i64 0, .int .i64 0, .int .i64 0, .int .i64 0, .int .i64 0, .int .i64 0, .int .i64 0, .int .i64 0, .int .i64 0] 94)
  go_wp2_with fail
  go_ret
  exact ⟨rfl, h3.right⟩
set_option maxRecDepth 100000 in
set_option maxHeartbeats 1000000 in
theorem iwrite_arg (h : Bears w (filesObj f s * (spA s p d len g k true F G * R))) (hF : FsOn len G Fs Ls) {n : Nat} (hn : n < 256) (hk : (Fs n).kind ≠ 0) {at' : Int} (v : Value) (hat : at' < 0) :
    Calls Tryz.prog 10 #[.pointer (some ⟨f, 0, none⟩), .int .i64 n, .int .i64 at', v] w fun e w' => e = .returned (.int .i64 1) ∧ Bears w' (filesObj f s * (spA s p d len g k true F G * R)) := by
  have hcl := closed_any h
  have hg := fun w' (h : Bears w' (filesObj f s * (spA s p d len g k true F G * R))) => get_any h n hn (by rw [hF.nodK hn]; exact hk)
  have hxs : (dec (inodeB len G n)).size = (Fs n).data.length := hF.size n hn
  have hxl : (dec (inodeB len G n)).links = (Fs n).links := hF.links n hn
  have hfl := (dec_fits (inodeB len G n)).links
  generalize dec (inodeB len G n) = x at hg hxs hxl hfl

  have Hcl := Lib.hid hcl
  have Hg := Lib.hid hg
  clear hcl hg h hF hk hxs hxl
  go_enter Tryz.func10, Tryz.ntmps10
  go_wp2_with fail
  refine Hcl.out.mono ?_
  rintro e w1 ⟨rfl, h1⟩
  go_wp2_with fail
  refine (Hg.out _ h1).mono ?_
  rintro e w2 ⟨rfl, h2⟩
  have h3 : Bears _ (nodeObj w2.heap.size x * (filesObj f s * (spA s p d len g k true F G * R))) := h2.alloc (.cells #[.int .i64 x.kind, .int .i64 x.links, .int .i64 x.size, .int .i64 x.d0, .int .i64 x.d1, .int .i64 x.d2, .int .i64 x.d3, .int .i64 x.near, .int .i64 x.wide] 94)
  have c1 := cell_of_obj h3.obj 1
  have c2 := cell_of_obj h3.obj 2
  simp only [List.getElem?_toArray, List.getElem?_cons_zero, List.getElem?_cons_succ] at c1 c2
  go_wp2_with fail
  all_goals
    go_ret
    exact ⟨rfl, h3.right⟩
set_option maxRecDepth 100000 in
set_option maxHeartbeats 1000000 in
theorem iwrite_long (h : Bears w (filesObj f s * (spA s p d len g k true F G * R))) (hF : FsOn len G Fs Ls) {n : Nat} (hn : n < 256) (hk : (Fs n).kind ≠ 0) {at' : Int} {ad : Option Addr} {bn cap : Nat} (hat : 0 ≤ at') (hbn : bn ≤ 4611686018427387904) (hlo : 16384 < at' ∨ 16384 < at' + bn) :
    Calls Tryz.prog 10 #[.pointer (some ⟨f, 0, none⟩), .int .i64 n, .int .i64 at', .slice ad bn cap] w fun e w' => e = .returned (.int .i64 5) ∧ Bears w' (filesObj f s * (spA s p d len g k true F G * R)) := by
  have hcl := closed_any h
  have hg := fun w' (h : Bears w' (filesObj f s * (spA s p d len g k true F G * R))) => get_any h n hn (by rw [hF.nodK hn]; exact hk)
  have hxs : (dec (inodeB len G n)).size = (Fs n).data.length := hF.size n hn
  have hxl : (dec (inodeB len G n)).links = (Fs n).links := hF.links n hn
  have hfl := (dec_fits (inodeB len G n)).links
  generalize dec (inodeB len G n) = x at hg hxs hxl hfl

  have Hcl := Lib.hid hcl
  have Hg := Lib.hid hg
  clear hcl hg h hF hk hxs hxl
  go_enter Tryz.func10, Tryz.ntmps10
  go_wp2_with fail
  refine Hcl.out.mono ?_
  rintro e w1 ⟨rfl, h1⟩
  go_wp2_with fail
  refine (Hg.out _ h1).mono ?_
  rintro e w2 ⟨rfl, h2⟩
  have h3 : Bears _ (nodeObj w2.heap.size x * (filesObj f s * (spA s p d len g k true F G * R))) := h2.alloc (.cells #[.int .i64 x.kind, .int .i64 x.links, .int .i64 x.size, .int .i64 x.d0, .int .i64 x.d1, .int .i64 x.d2, .int .i64 x.d3, .int .i64 x.near, .int .i64 x.wide] 94)
  have c1 := cell_of_obj h3.obj 1
  have c2 := cell_of_obj h3.obj 2
  simp only [List.getElem?_toArray, List.getElem?_cons_zero, List.getElem?_cons_succ] at c1 c2
  go_wp2_with fail
  all_goals
    go_ret
    exact ⟨rfl, h3.right⟩
set_option maxRecDepth 100000 in
set_option maxHeartbeats 1000000 in
theorem iwrite_nil (h : Bears w (filesObj f s * (spA s p d len g k true F G * R))) (hF : FsOn len G Fs Ls) {n : Nat} (hn : n < 256) (hk : (Fs n).kind ≠ 0) {at' : Int} {ad : Option Addr} {cap : Nat} (hat : 0 ≤ at') (hlo : at' ≤ 16384) :
    Calls Tryz.prog 10 #[.pointer (some ⟨f, 0, none⟩), .int .i64 n, .int .i64 at', .slice ad 0 cap] w fun e w' => e = .returned (.int .i64 0) ∧ Bears w' (filesObj f s * (spA s p d len g k true F G * R)) := by
  have hcl := closed_any h
  have hg := fun w' (h : Bears w' (filesObj f s * (spA s p d len g k true F G * R))) => get_any h n hn (by rw [hF.nodK hn]; exact hk)
  have hxs : (dec (inodeB len G n)).size = (Fs n).data.length := hF.size n hn
  have hxl : (dec (inodeB len G n)).links = (Fs n).links := hF.links n hn
  have hfl := (dec_fits (inodeB len G n)).links
  generalize dec (inodeB len G n) = x at hg hxs hxl hfl

  have Hcl := Lib.hid hcl
  have Hg := Lib.hid hg
  clear hcl hg h hF hk hxs hxl
  go_enter Tryz.func10, Tryz.ntmps10
  go_wp2_with fail
  refine Hcl.out.mono ?_
  rintro e w1 ⟨rfl, h1⟩
  go_wp2_with fail
  refine (Hg.out _ h1).mono ?_
  rintro e w2 ⟨rfl, h2⟩
  have h3 : Bears _ (nodeObj w2.heap.size x * (filesObj f s * (spA s p d len g k true F G * R))) := h2.alloc (.cells #[.int .i64 x.kind, .int .i64 x.links, .int .i64 x.size, .int .i64 x.d0, .int .i64 x.d1, .int .i64 x.d2, .int .i64 x.d3, .int .i64 x.near, .int .i64 x.wide] 94)
  have c1 := cell_of_obj h3.obj 1
  have c2 := cell_of_obj h3.obj 2
  simp only [List.getElem?_toArray, List.getElem?_cons_zero, List.getElem?_cons_succ] at c1 c2
  go_wp2_with fail
  all_goals
    go_ret
    exact ⟨rfl, h3.right⟩
set_option maxRecDepth 100000 in
set_option maxHeartbeats 1000000 in
theorem icut_arg (h : Bears w (filesObj f s * (spA s p d len g k true F G * R))) (hF : FsOn len G Fs Ls) {n : Nat} (hn : n < 256) (hk : (Fs n).kind ≠ 0) {m : Int} (hm : m < 0 ∨ ((Fs n).data.length : Int) < m) :
    Calls Tryz.prog 46 #[.pointer (some ⟨f, 0, none⟩), .int .i64 n, .int .i64 m] w fun e w' => e = .returned (.int .i64 1) ∧ Bears w' (filesObj f s * (spA s p d len g k true F G * R)) := by
  have hcl := closed_any h
  have hg := fun w' (h : Bears w' (filesObj f s * (spA s p d len g k true F G * R))) => get_any h n hn (by rw [hF.nodK hn]; exact hk)
  have hxs : (dec (inodeB len G n)).size = (Fs n).data.length := hF.size n hn
  have hxl : (dec (inodeB len G n)).links = (Fs n).links := hF.links n hn
  have hfl := (dec_fits (inodeB len G n)).links
  generalize dec (inodeB len G n) = x at hg hxs hxl hfl
  rw [← hxs] at hm
  have Hcl := Lib.hid hcl
  have Hg := Lib.hid hg
  clear hcl hg h hF hk hxs hxl
  go_enter Tryz.func46, Tryz.ntmps46
  go_wp2_with fail
  refine Hcl.out.mono ?_
  rintro e w1 ⟨rfl, h1⟩
  go_wp2_with fail
  refine (Hg.out _ h1).mono ?_
  rintro e w2 ⟨rfl, h2⟩
  have h3 : Bears _ (nodeObj w2.heap.size x * (filesObj f s * (spA s p d len g k true F G * R))) := h2.alloc (.cells #[.int .i64 x.kind, .int .i64 x.links, .int .i64 x.size, .int .i64 x.d0, .int .i64 x.d1, .int .i64 x.d2, .int .i64 x.d3, .int .i64 x.near, .int .i64 x.wide] 94)
  have c1 := cell_of_obj h3.obj 1
  have c2 := cell_of_obj h3.obj 2
  simp only [List.getElem?_toArray, List.getElem?_cons_zero, List.getElem?_cons_succ] at c1 c2
  go_wp2_with fail
  all_goals
    go_ret
    exact ⟨rfl, h3.right⟩
set_option maxRecDepth 100000 in
set_option maxHeartbeats 1000000 in
theorem ilink_arg (h : Bears w (filesObj f s * (spA s p d len g k true F G * R))) (hF : FsOn len G Fs Ls) {n : Nat} (hn : n < 256) (hk : (Fs n).kind ≠ 0) {m : Int} (hm : (m ≠ 1 ∧ m ≠ -1) ∨ (m = 1 ∧ (Fs n).links = 65535)) :
    Calls Tryz.prog 47 #[.pointer (some ⟨f, 0, none⟩), .int .i64 n, .int .i64 m] w fun e w' => e = .returned (.int .i64 1) ∧ Bears w' (filesObj f s * (spA s p d len g k true F G * R)) := by
  have hcl := closed_any h
  have hg := fun w' (h : Bears w' (filesObj f s * (spA s p d len g k true F G * R))) => get_any h n hn (by rw [hF.nodK hn]; exact hk)
  have hxs : (dec (inodeB len G n)).size = (Fs n).data.length := hF.size n hn
  have hxl : (dec (inodeB len G n)).links = (Fs n).links := hF.links n hn
  have hfl := (dec_fits (inodeB len G n)).links
  generalize dec (inodeB len G n) = x at hg hxs hxl hfl
  have hm2 : (m ≠ 1 ∧ m ≠ -1) ∨ (m = 1 ∧ 65535 ≤ (x.links : Int)) := by rw [hxl]; omega
  have hxl9 : (x.links : Int) < 70000 := by omega
  clear hm hfl
  have Hcl := Lib.hid hcl
  have Hg := Lib.hid hg
  clear hcl hg h hF hk hxs hxl
  have hm3 : ((m != 1) = true ∧ (m != -1) = true) ∨ (m = 1 ∧ decide ((65536 : Int) ≤ (x.links : Int) + 1) = true ∧ IntKind.i64.wrap ((x.links : Int) + 1) = (x.links : Int) + 1) := by
    rcases hm2 with ⟨m1, m2⟩ | ⟨m1, m3⟩
    · left; exact ⟨by simpa using m1, by simpa using m2⟩
    · right; exact ⟨m1, decide_eq_true (by omega), IntWalk.i64_in _ (by omega)⟩
  clear hm2 hxl9
  rcases hm3 with ⟨b1, b2⟩ | ⟨rfl, b3, b4⟩
  all_goals
    go_enter Tryz.func47, Tryz.ntmps47
    go_wp2_with fail
    refine Hcl.out.mono ?_
    rintro e w1 ⟨rfl, h1⟩
    go_wp2_with fail
    refine (Hg.out _ h1).mono ?_
    rintro e w2 ⟨rfl, h2⟩
    have h3 : Bears _ (nodeObj w2.heap.size x * (filesObj f s * (spA s p d len g k true F G * R))) := h2.alloc (.cells #[.int .i64 x.kind, .int .i64 x.links, .int .i64 x.size, .int .i64 x.d0, .int .i64 x.d1, .int .i64 x.d2, .int .i64 x.d3, .int .i64 x.near, .int .i64 x.wide] 94)
    have c1 := cell_of_obj h3.obj 1
    have c2 := cell_of_obj h3.obj 2
    simp only [List.getElem?_toArray, List.getElem?_cons_zero, List.getElem?_cons_succ] at c1 c2
    go_wp2_with fail
    all_goals
      go_ret
      exact ⟨rfl, h3.right⟩

end

end Go.Proofs.YtggbnelbnbaoiaaGreat
