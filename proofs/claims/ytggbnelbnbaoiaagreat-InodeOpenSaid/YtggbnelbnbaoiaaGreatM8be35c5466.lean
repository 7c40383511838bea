/- Texts of this claim, put together: IW22, InoV, ALawA, ILawA, ILawB, ICostM, ICostsW, IFullW, IDoes, InoO, IDoesO; no condition. -/
import Derived.Test.YtggbnelbnbaoiaaGreatMc0e98c1479
import Derived.Lib.SlBytesConst

set_option linter.unusedSimpArgs false
set_option linter.unusedVariables false

/- Walks of the files' functions, part 22: Write without room, Read's refusals; no condition. -/
namespace Go.Proofs.YtggbnelbnbaoiaaGreat
open Go.RowKit Go.MapKept

section
variable {f s p len g : Nat} {k : List Nat} {d : DiskM} {F G : Nat → Sec} {Fs : Nat → FileM} {Ls : Nat → LayM} {R : Assn} {w : World}

set_option maxRecDepth 100000 in
set_option maxHeartbeats 4000000 in
theorem iwrite_full (h : Bears w (filesObj f s * (spA s p d len g k true F G * R))) (hF : FsOn len G Fs Ls) {n at' : Nat} (hn : n < 256) (hk : (Fs n).kind ≠ 0) {b : List UInt8} {ad : Option Addr} {bn cap : Nat} (hb : R.Tells (fun w => BytesIn w (.slice ad bn cap) b)) (hcap : bn ≤ cap) (hne : b ≠ [])
    (hmx : at' + b.length ≤ 16384) (hfit : (costN (nBlk (max (Fs n).data.length (at' + b.length))) : Int) - costN (nBlk (Fs n).data.length) > blkN len G) :
    Calls Tryz.prog 10 #[.pointer (some ⟨f, 0, none⟩), .int .i64 n, .int .i64 at', .slice ad bn cap] w fun e w' => e = .returned (.int .i64 3) ∧ Bears w' (filesObj f s * (spA s p d len g k true F G * R)) := by
  obtain ⟨hl1, hl2⟩ := h.pull2.spOk
  have hbn : bn = b.length := (hb _ h.right.right).len
  have hbp : 0 < b.length := List.length_pos_iff.2 hne
  have hcl := closed_any h
  have hg := fun w' (h : Bears w' (filesObj f s * (spA s p d len g k true F G * R))) => get_any h n hn (by rw [hF.nodK hn]; exact hk)
  have hfx : (nodF len G n).Fits := dec_fits _
  have hxs : (nodF len G n).size = (Fs n).data.length := hF.size n hn
  have hmd := hF.max n hn
  have hlen := hF.blk n hn
  have hst := GrownTo.start (n := n) hF.core
  have hput := fun (G' : Nat → Sec) Ls' x f => FsOn.put (G' := G') (Ls' := Ls') (x := x) (f := f) hF hn
  rw [hlen] at hst
  have hgx : dec (inodeB len G n) = nodF len G n := rfl
  rw [hgx] at hg
  generalize hX : nodF len G = X at hg hfx hxs hst hput
  generalize hx : X n = x at hg hfx hxs
  obtain ⟨old, hold⟩ : ∃ o, Fs n = o := ⟨_, rfl⟩
  have hbf : byF Fs n = fun j => old.data.getD j 0 := by unfold byF; rw [hold]
  rw [hold] at hxs hmd hlen hfit hst
  generalize hBy : byF Fs = BF at hst hput hbf
  obtain ⟨en, hen⟩ : ∃ e, max old.data.length (at' + b.length) = e := ⟨_, rfl⟩
  rw [hen] at hfit
  have hen1 : en ≤ 16384 := by omega
  have hmax : max (x.size : Int) ((at' : Int) + (bn : Int)) = (en : Int) := by rw [hxs, hbn]; omega
  have hle : nBlk old.data.length ≤ nBlk en := by unfold nBlk; omega
  have hle2 : nBlk en ≤ 256 := by unfold nBlk; omega
  have hce := costN_le hle2
  have hcs := costN_mono hle
  have hco1 := fun w => cost_any (en : Int) w (by omega)
  have hco2 := fun w => cost_any (x.size : Int) w (by omega)
  have hbl1 := fun w => blocks_any x.size w (by omega)
  have hbl2 := fun w => blocks_any en w (by omega)
  simp only [costI_nat hen1] at hco1
  rw [hxs] at hco2 hbl1
  simp only [costI_nat hmd] at hco2
  obtain ⟨sb, hsb⟩ : ∃ q, nBlk old.data.length = q := ⟨_, rfl⟩
  rw [hsb] at hbl1
  simp only [hsb] at hco2 hbl1
  rw [← hxs] at hco2 hbl1
  have hfr := fun w' (k' : List Nat) Q (h : Bears w' (spA s p d len g k' true F G * Q)) => sblocks_any h
  have hr16 : x.size ≤ 16384 := by omega
  have hblen := h.pull2.sp64
  have hown := hF.core
  rw [hsb] at hfit hst hle hcs hlen
  generalize heb : nBlk en = eb at *
  have Hcl := Lib.hid hcl
  have Hg := Lib.hid hg
  have Hco1 := Lib.hid hco1
  have Hco2 := Lib.hid hco2
  have Hbl1 := Lib.hid hbl1
  have Hbl2 := Lib.hid hbl2
  have Hfr := Lib.hid hfr
  have Hbf := Lib.hid hbf
  have Hfx := Lib.hid hfx
  have Hxs := Lib.hid hxs
  have Hhx := Lib.hid hx
  have Hbn := Lib.hid hbn
  have Heb := Lib.hid heb
  have Hen := Lib.hid hen
  have Hls := Lib.hid hlen
  have Hne := Lib.hid hne
  have Hb := Lib.hid hb
  clear hcl hg hst hput hco1 hco2 hbl1 hbl2 hfr hbf hfx hxs hx hX hBy heb hsb hen hgx hF hlen hblen hown hold hk hne hb
  have e1 : (at' : Int) + (bn : Int) ≤ 16384 := by omega
  have e2 : (0 : Int) < (bn : Int) := by omega
  have e3 : ((bn : Int) == 0) = false := by rw [beq_eq_false_iff_ne]; omega
  have e4 : blkN len G < (costN eb : Int) - (costN sb : Int) := hfit
  have e5 : IntKind.i64.wrap ((costN eb : Int) - (costN sb : Int)) = (costN eb : Int) - (costN sb : Int) := IntWalk.i64_in _ (by omega)
  clear hbn
  go_enter Tryz.func10, Tryz.ntmps10
  go_wp2_with fail
  refine Hcl.out.mono ?_
  rintro e w1 ⟨rfl, h1⟩
  go_wp2_with fail
  refine (Hg.out _ h1).mono ?_
  rintro e w2 ⟨rfl, h2⟩
  have h3 : Bears _ (nodeObj w2.heap.size x * (filesObj f s * (spA s p d len g k true F G * R))) := h2.alloc (.cells #[.int .i64 x.kind, .int .i64 x.links, .int .i64 x.size, .int .i64 x.d0, .int .i64 x.d1, .int .i64 x.d2, .int .i64 x.d3, .int .i64 x.near, .int .i64 x.wide] 94)
  have c2 := cell_of_obj h3.obj 2
  simp only [List.getElem?_toArray, List.getElem?_cons_zero, List.getElem?_cons_succ] at c2
  go_wp2_with fail
  generalize w2.heap.size = xb at h3 ⊢
  generalize w2.alloc _ = w3 at h3 ⊢
  refine wp_region_L (fun w' => ∃ Q, Bears w' (nodeObj xb x * (filesObj f s * Q))) 12
    [(true, 0), (true, 2), (true, 3), (true, 6), (true, 7), (true, 8), (true, 9), (false, 1), (false, 4), (true, 5), (false, 10), (true, 11)] [] (by kernel_rfl) (by kernel_rfl) ⟨_, h3.drew⟩ ?_
  simp only [pick, List.getElem?_cons_zero, List.getElem?_cons_succ]
  refine wpL_yield (v := ?_) rfl (fun w' hS => ?_) ?_
  rotate_left
  · (obtain ⟨_, hS⟩ := hS; have pc := cell_of_obj hS.obj 2; have fc := files_cell hS.right; go_simp; try with_reducible rfl)
  simp only [Act.put, List.setIfInBounds_toArray, List.set_cons_zero, List.set_cons_succ]
  refine wpL_yield (v := ?_) rfl (fun w' hS => ?_) ?_
  rotate_left
  · (obtain ⟨_, hS⟩ := hS; have pc := cell_of_obj hS.obj 2; have fc := files_cell hS.right; go_simp; try with_reducible rfl)
  simp only [Act.put, List.setIfInBounds_toArray, List.set_cons_zero, List.set_cons_succ]
  refine wpL_yield (v := ?_) rfl (fun w' hS => ?_) ?_
  rotate_left
  · (obtain ⟨_, hS⟩ := hS; have pc := cell_of_obj hS.obj 2; have fc := files_cell hS.right; go_simp; try with_reducible rfl)
  simp only [Act.put, List.setIfInBounds_toArray, List.set_cons_zero, List.set_cons_succ]
  refine wpL_yield (v := ?_) rfl (fun w' hS => ?_) ?_
  rotate_left
  · (obtain ⟨_, hS⟩ := hS; have pc := cell_of_obj hS.obj 2; have fc := files_cell hS.right; go_simp; try with_reducible rfl)
  simp only [Act.put, List.setIfInBounds_toArray, List.set_cons_zero, List.set_cons_succ]
  refine wpL_yield (v := ?_) rfl (fun w' hS => ?_) ?_
  rotate_left
  · (obtain ⟨_, hS⟩ := hS; have pc := cell_of_obj hS.obj 2; have fc := files_cell hS.right; go_simp; try with_reducible rfl)
  simp only [Act.put, List.setIfInBounds_toArray, List.set_cons_zero, List.set_cons_succ]
  refine wpL_yield (v := ?_) rfl (fun w' hS => ?_) ?_
  rotate_left
  · (obtain ⟨_, hS⟩ := hS; have pc := cell_of_obj hS.obj 2; have fc := files_cell hS.right; go_simp; try with_reducible rfl)
  simp only [Act.put, List.setIfInBounds_toArray, List.set_cons_zero, List.set_cons_succ]
  refine wpL_yield (v := ?_) rfl (fun w' hS => ?_) ?_
  rotate_left
  · (obtain ⟨_, hS⟩ := hS; have pc := cell_of_obj hS.obj 2; have fc := files_cell hS.right; go_simp; try with_reducible rfl)
  simp only [Act.put, List.setIfInBounds_toArray, List.set_cons_zero, List.set_cons_succ]
  refine wpL_eff rfl ?_
  go_simp
  refine (Hco1.out _).mono ?_
  rintro e w' ⟨rfl, rfl⟩
  refine ⟨⟨_, h3.drew⟩, ?_⟩
  refine wpL_eff rfl ?_
  go_simp
  refine (Hco2.out _).mono ?_
  rintro e w' ⟨rfl, rfl⟩
  refine ⟨⟨_, h3.drew⟩, ?_⟩
  refine wpL_yield (v := ?_) rfl (fun w' hS => ?_) ?_
  rotate_left
  · (go_simp; try with_reducible rfl)
  simp only [Act.put, List.setIfInBounds_toArray, List.set_cons_zero, List.set_cons_succ]
  refine wpL_eff rfl ?_
  go_simp
  refine (Hfr.out _ k _ h3.drew.pull3).mono ?_
  rintro e w4 ⟨rfl, h4⟩
  have h5 : Bears w4 (nodeObj xb x * (filesObj f s * (spA s p d len g k true F G * R))) := h4.cast (by ac_rfl)
  refine ⟨⟨_, h5⟩, ?_⟩
  refine wpL_yield (v := ?_) rfl (fun w' hS => ?_) ?_
  rotate_left
  · (go_simp; try with_reducible rfl)
  simp only [Act.put, List.setIfInBounds_toArray, List.set_cons_zero, List.set_cons_succ]
  refine wpL_nil ?_
  refine wpL_nil ?_
  have c2 := cell_of_obj h5.obj 2
  simp only [List.getElem?_toArray, List.getElem?_cons_zero, List.getElem?_cons_succ] at c2
  go_wp2_with fail
  go_ret
  exact ⟨rfl, h5.right⟩

variable {op : Bool}
theorem iread_no (h : Bears w (filesObj f s * (spA s p d len g k op F G * R))) {n : Int} (at' many : Int) (hno : NoIno len G n) :
    Calls Tryz.prog 15 #[.pointer (some ⟨f, 0, none⟩), .int .i64 n, .int .i64 at', .int .i64 many] w fun e w' => e = .returned (.tuple #[.slice none 0 0, .int .i64 50]) ∧ Bears w' (filesObj f s * (spA s p d len g k op F G * R)) := by
  have hg := fun w' (h : Bears w' (filesObj f s * (spA s p d len g k op F G * R))) => get_no h n hno
  have Hg := Lib.hid hg
  clear hg hno
  go_enter Tryz.func15, Tryz.ntmps15
  go_wp2_with fail
  refine (Hg.out _ h).mono ?_
  rintro e w2 ⟨rfl, h2⟩
  have h3 := h2.alloc (.cells #[.int .i64 0, .int .i64 0, .int .i64 0, .int .i64 0, .int .i64 0, .int .i64 0, .int .i64 0, .int .i64 0, .int .i64 0] 94)
  go_wp2_with fail
  go_ret2
  exact ⟨rfl, h3.right⟩
theorem iread_arg (h : Bears w (filesObj f s * (spA s p d len g k op F G * R))) (hF : FsOn len G Fs Ls) {n : Nat} (hn : n < 256) (hk : (Fs n).kind ≠ 0) {at' many : Int} (hb : at' < 0 ∨ many < 0) :
    Calls Tryz.prog 15 #[.pointer (some ⟨f, 0, none⟩), .int .i64 n, .int .i64 at', .int .i64 many] w fun e w' => e = .returned (.tuple #[.slice none 0 0, .int .i64 1]) ∧ Bears w' (filesObj f s * (spA s p d len g k op F G * R)) := by
  have hg := get_any h n hn (by rw [hF.nodK hn]; exact hk)
  generalize dec (inodeB len G n) = x at hg
  have Hg := Lib.hid hg
  clear hg hF hk
  go_enter Tryz.func15, Tryz.ntmps15
  go_wp2_with fail
  refine Hg.out.mono ?_
  rintro e w2 ⟨rfl, h2⟩
  have h3 : Bears _ (nodeObj w2.heap.size x * (filesObj f s * (spA s p d len g k op F G * R))) := h2.alloc (.cells #[.int .i64 x.kind, .int .i64 x.links, .int .i64 x.size, .int .i64 x.d0, .int .i64 x.d1, .int .i64 x.d2, .int .i64 x.d3, .int .i64 x.near, .int .i64 x.wide] 94)
  go_wp2_with fail
  all_goals
    go_ret2
    exact ⟨rfl, h3.right⟩

end

end Go.Proofs.YtggbnelbnbaoiaaGreat

/- The files as a view: what each call answers, and what is there behind it; no condition. -/
namespace Go.Proofs.YtggbnelbnbaoiaaGreat
open Go.RowKit Go.MapKept

/-- Files, and how many blocks are free. -/
structure FvM where
  fs : Nat → FileM
  fr : Int
def costD (l : List UInt8) : Int := (costN (nBlk l.length) : Int)
structure FvOn (len : Nat) (G : Nat → Sec) (C : FvM) : Prop where
  on : ∃ Ls, FsOn len G C.fs Ls
  fr : blkN len G = C.fr
def fvA (f s p : Nat) (d : DiskM) (len g : Nat) (op : Bool) (A C : FvM) : Assn :=
  Assn.ex fun x : (Nat → Sec) × (Nat → Sec) => Assn.fact (FvOn len x.1 A ∧ FvOn len x.2 C) * (filesObj f s * spA s p d len g (outL len) op x.1 x.2)
theorem Bears.fv {f s p len g : Nat} {d : DiskM} {op : Bool} {A C : FvM} {R : Assn} {w : World} :
    Bears w (fvA f s p d len g op A C * R) ↔ ∃ F G, FvOn len F A ∧ FvOn len G C ∧ Bears w (filesObj f s * (spA s p d len g (outL len) op F G * R)) := by
  unfold fvA
  rw [Bears.ex]
  constructor
  · rintro ⟨⟨F, G⟩, h⟩
    rw [Assn.mul_assoc', Bears.fact, Assn.mul_assoc'] at h
    exact ⟨F, G, h.1.1, h.1.2, h.2⟩
  · rintro ⟨F, G, h1, h2, h3⟩
    refine ⟨(F, G), ?_⟩
    rw [Assn.mul_assoc', Bears.fact, Assn.mul_assoc']
    exact ⟨⟨h1, h2⟩, h3⟩
theorem Bears.toFv {f s p len g : Nat} {k : List Nat} {d : DiskM} {op : Bool} {A C : FvM} {F G : Nat → Sec} {R : Assn} {w : World} (h : Bears w (filesObj f s * (spA s p d len g k op F G * R))) (hA : FvOn len F A) (hC : FvOn len G C) : Bears w (fvA f s p d len g op A C * R) :=
  Bears.fv.2 ⟨F, G, hA, hC, h.pull2.spLeast.pull2⟩

/-- There is no such file. -/
def FvM.no (C : FvM) (n : Int) : Prop := n < 0 ∨ 256 ≤ n ∨ (C.fs n.toNat).kind = 0
instance (C : FvM) (n : Int) : Decidable (C.no n) := by unfold FvM.no; exact inferInstance
theorem FvM.yes {C : FvM} {n : Int} (h : ¬ C.no n) : ∃ m : Nat, n = m ∧ m < 256 ∧ (C.fs m).kind ≠ 0 := by
  unfold FvM.no at h
  exact ⟨n.toNat, by omega, by omega, by omega⟩
theorem FvOn.no {len : Nat} {G : Nat → Sec} {C : FvM} {n : Int} (hC : FvOn len G C) (h : C.no n) : NoIno len G n := by
  obtain ⟨Ls, hF⟩ := hC.on
  by_cases h1 : n < 0 ∨ 256 ≤ n
  · exact .inl h1
  · refine .inr ⟨n.toNat, by omega, by omega, ?_⟩
    have := hF.kind n.toNat (by omega)
    unfold FvM.no at h
    unfold nodF at this
    omega

/-- The calls. -/
def FvM.set (C : FvM) (n : Nat) (f : FileM) (by' : Int) : FvM := ⟨updF C.fs n f, C.fr + by'⟩
def FvM.write (C : FvM) (n at' : Int) (b : List UInt8) : Int × FvM :=
  if C.no n then (50, C) else if at' < 0 then (1, C) else if 16384 < at' ∨ 16384 < at' + b.length then (5, C) else if b = [] then (0, C)
  else if C.fr < costD (wrD (C.fs n.toNat).data at'.toNat b) - costD (C.fs n.toNat).data then (3, C)
  else (0, C.set n.toNat { C.fs n.toNat with data := wrD (C.fs n.toNat).data at'.toNat b } (costD (C.fs n.toNat).data - costD (wrD (C.fs n.toNat).data at'.toNat b)))
def FvM.cut (C : FvM) (n m : Int) : Int × FvM :=
  if C.no n then (50, C) else if m < 0 ∨ ((C.fs n.toNat).data.length : Int) < m then (1, C)
  else (0, C.set n.toNat { C.fs n.toNat with data := (C.fs n.toNat).data.take m.toNat } (costD (C.fs n.toNat).data - costD ((C.fs n.toNat).data.take m.toNat)))
def FvM.link (C : FvM) (n m : Int) : Int × FvM :=
  if C.no n then (50, C) else if (m ≠ 1 ∧ m ≠ -1) ∨ (m = 1 ∧ (C.fs n.toNat).links = 65535) then (1, C)
  else if m = -1 ∧ (C.fs n.toNat).links = 1 then (0, C.set n.toNat noFile (costD (C.fs n.toNat).data))
  else (0, C.set n.toNat { C.fs n.toNat with links := ((C.fs n.toNat).links + m).toNat } 0)
def FvM.read (C : FvM) (n at' many : Int) : Int × List UInt8 :=
  if C.no n then (50, []) else if at' < 0 ∨ many < 0 then (1, []) else (0, ((C.fs n.toNat).data.drop at'.toNat).take many.toNat)
def FvM.stat (C : FvM) (n : Int) : Int × FileM := if C.no n then (50, noFile) else (0, C.fs n.toNat)
def FvM.next (C : FvM) : Option Nat := (List.range 256).find? fun m => (C.fs m).kind == 0
def FvM.make (C : FvM) (kd : Int) : Int × Int × FvM :=
  if kd ≠ 1 ∧ kd ≠ 2 then (0, 1, C) else match C.next with
    | some n => (n, 0, C.set n ⟨kd.toNat, 1, []⟩ 0)
    | none => (0, 42, C)

theorem FvM.set_zero {C : FvM} {n : Nat} {f : FileM} : (C.set n f 0).fr = C.fr := by simp [FvM.set]

section
variable {f s p len g : Nat} {d : DiskM} {op : Bool} {A C : FvM} {R : Assn} {w : World}

theorem wrD_cost (l : List UInt8) (a : Nat) (b : List UInt8) : costD (wrD l a b) = (costN (nBlk (max l.length (a + b.length))) : Int) := by
  unfold costD
  rw [wrD_length]

theorem fv_write (h : Bears w (fvA f s p d len g true A C * R)) (n at' : Int) {b : List UInt8} {ad : Option Addr} {bn cap : Nat} (hb : R.Tells (fun w => BytesIn w (.slice ad bn cap) b)) (hcap : bn ≤ cap) (hbn : bn ≤ 4611686018427387904) :
    Calls Tryz.prog 10 #[.pointer (some ⟨f, 0, none⟩), .int .i64 n, .int .i64 at', .slice ad bn cap] w fun e w' => e = .returned (.int .i64 (C.write n at' b).1) ∧ Bears w' (fvA f s p d len g true A (C.write n at' b).2 * R) := by
  obtain ⟨F, G, hA, hC, h1⟩ := Bears.fv.1 h
  have hbl : bn = b.length := (hb _ h.right).len
  unfold FvM.write
  by_cases hno : C.no n
  · rw [if_pos hno]
    exact (iwrite_no h1 n at' _ (hC.no hno)).mono fun e w' ⟨h2, h3⟩ => ⟨h2, h3.toFv hA hC⟩
  · rw [if_neg hno]
    obtain ⟨m, rfl, hm, hk⟩ := FvM.yes hno
    obtain ⟨Ls, hF⟩ := hC.on
    rw [Int.toNat_natCast]
    by_cases ha : at' < 0
    · rw [if_pos ha]
      exact (iwrite_arg h1 hF hm hk _ ha).mono fun e w' ⟨h2, h3⟩ => ⟨h2, h3.toFv hA hC⟩
    · rw [if_neg ha]
      by_cases hl : 16384 < at' ∨ 16384 < at' + b.length
      · rw [if_pos hl]
        exact (iwrite_long h1 hF hm hk (by omega) hbn (by rw [hbl]; exact hl)).mono fun e w' ⟨h2, h3⟩ => ⟨h2, h3.toFv hA hC⟩
      · rw [if_neg hl]
        obtain ⟨a, rfl⟩ : ∃ a : Nat, at' = a := ⟨at'.toNat, by omega⟩
        rw [Int.toNat_natCast]
        by_cases he : b = []
        · rw [if_pos he]
          subst he
          obtain rfl : bn = 0 := hbl
          exact (iwrite_nil h1 hF hm hk (by omega) (by omega)).mono fun e w' ⟨h2, h3⟩ => ⟨h2, h3.toFv hA hC⟩
        · rw [if_neg he, wrD_cost]
          unfold costD
          by_cases hf : C.fr < (costN (nBlk (max (C.fs m).data.length (a + b.length))) : Int) - (costN (nBlk (C.fs m).data.length) : Int)
          · rw [if_pos hf]
            rw [← hC.fr] at hf
            exact (iwrite_full h1 hF hm hk hb hcap he (by omega) (by omega)).mono fun e w' ⟨h2, h3⟩ => ⟨h2, h3.toFv hA hC⟩
          · rw [if_neg hf]
            have hf2 := hf
            rw [← hC.fr] at hf2
            refine (iwrite_any h1 hF hm hk hb hcap he (by omega) (by omega)).mono ?_
            rintro e w' ⟨rfl, G', Ls', k', h2, h3, h4⟩
            refine ⟨rfl, h4.toFv hA ⟨⟨Ls', h2⟩, ?_⟩⟩
            rw [h3, hC.fr]
            unfold FvM.set
            simp only
            omega

theorem fv_cut (h : Bears w (fvA f s p d len g true A C * R)) (n m : Int) :
    Calls Tryz.prog 46 #[.pointer (some ⟨f, 0, none⟩), .int .i64 n, .int .i64 m] w fun e w' => e = .returned (.int .i64 (C.cut n m).1) ∧ Bears w' (fvA f s p d len g true A (C.cut n m).2 * R) := by
  obtain ⟨F, G, hA, hC, h1⟩ := Bears.fv.1 h
  unfold FvM.cut
  by_cases hno : C.no n
  · rw [if_pos hno]
    exact (icut_no h1 n m (hC.no hno)).mono fun e w' ⟨h2, h3⟩ => ⟨h2, h3.toFv hA hC⟩
  · rw [if_neg hno]
    obtain ⟨i, rfl, hm, hk⟩ := FvM.yes hno
    obtain ⟨Ls, hF⟩ := hC.on
    rw [Int.toNat_natCast]
    by_cases ha : m < 0 ∨ ((C.fs i).data.length : Int) < m
    · rw [if_pos ha]
      exact (icut_arg h1 hF hm hk ha).mono fun e w' ⟨h2, h3⟩ => ⟨h2, h3.toFv hA hC⟩
    · rw [if_neg ha]
      obtain ⟨a, rfl⟩ : ∃ a : Nat, m = a := ⟨m.toNat, by omega⟩
      rw [Int.toNat_natCast]
      refine (icut_any h1 hF hm hk (tz := a) (by omega)).mono ?_
      rintro e w' ⟨rfl, G', Ls', k', ⟨h2, h3⟩, h4⟩
      refine ⟨rfl, h4.toFv hA ⟨⟨Ls', h2⟩, ?_⟩⟩
      rw [h3, hC.fr]
      unfold FvM.set costD
      rw [List.length_take, Nat.min_eq_left (by omega)]

theorem fv_link (h : Bears w (fvA f s p d len g true A C * R)) (n m : Int) :
    Calls Tryz.prog 47 #[.pointer (some ⟨f, 0, none⟩), .int .i64 n, .int .i64 m] w fun e w' => e = .returned (.int .i64 (C.link n m).1) ∧ Bears w' (fvA f s p d len g true A (C.link n m).2 * R) := by
  obtain ⟨F, G, hA, hC, h1⟩ := Bears.fv.1 h
  unfold FvM.link
  by_cases hno : C.no n
  · rw [if_pos hno]
    exact (ilink_no h1 n m (hC.no hno)).mono fun e w' ⟨h2, h3⟩ => ⟨h2, h3.toFv hA hC⟩
  · rw [if_neg hno]
    obtain ⟨i, rfl, hm, hk⟩ := FvM.yes hno
    obtain ⟨Ls, hF⟩ := hC.on
    have hl1 := hF.lnk i hm hk
    have hl2 := hF.links i hm
    have hl3 := (dec_fits (inodeB len G i)).links
    have hl4 : (nodF len G i).links = (dec (inodeB len G i)).links := rfl
    rw [Int.toNat_natCast]
    by_cases ha : (m ≠ 1 ∧ m ≠ -1) ∨ (m = 1 ∧ (C.fs i).links = 65535)
    · rw [if_pos ha]
      exact (ilink_arg h1 hF hm hk ha).mono fun e w' ⟨h2, h3⟩ => ⟨h2, h3.toFv hA hC⟩
    · rw [if_neg ha]
      by_cases hg : m = -1 ∧ (C.fs i).links = 1
      · rw [if_pos hg]
        obtain ⟨rfl, hg⟩ := hg
        refine (ilink_gone h1 hF hm hk hg).mono ?_
        rintro e w' ⟨rfl, G', Ls', k', ⟨h2, h3⟩, h4⟩
        refine ⟨rfl, h4.toFv hA ⟨⟨Ls', h2⟩, ?_⟩⟩
        rw [h3, hC.fr]
        rfl
      · rw [if_neg hg]
        refine (ilink_any h1 hF hm hk (by' := m) (by omega) (l := ((C.fs i).links + m).toNat) (by omega) (by omega) (by omega)).mono ?_
        rintro e w' ⟨rfl, G', Ls', k', ⟨h2, h3⟩, h4⟩
        refine ⟨rfl, h4.toFv hA ⟨⟨Ls', h2⟩, ?_⟩⟩
        rw [h3, hC.fr]
        unfold FvM.set
        simp

theorem fv_read (h : Bears w (fvA f s p d len g op A C * R)) (n at' many : Int) (h1 : at' ≤ 9223372036854775807) (h2 : many ≤ 9223372036854775807) :
    Calls Tryz.prog 15 #[.pointer (some ⟨f, 0, none⟩), .int .i64 n, .int .i64 at', .int .i64 many] w fun e w' => ∃ ad l cap, e = .returned (.tuple #[.slice ad l cap, .int .i64 (C.read n at' many).1]) ∧ Bears w' (bufA (.slice ad l cap) (C.read n at' many).2 * (fvA f s p d len g op A C * R)) := by
  obtain ⟨F, G, hA, hC, h3⟩ := Bears.fv.1 h
  unfold FvM.read
  by_cases hno : C.no n
  · rw [if_pos hno]
    exact (iread_no h3 at' many (hC.no hno)).mono fun e w' ⟨h4, h5⟩ => ⟨none, 0, 0, h4, (h5.toFv hA hC).bufNil⟩
  · rw [if_neg hno]
    obtain ⟨i, rfl, hm, hk⟩ := FvM.yes hno
    obtain ⟨Ls, hF⟩ := hC.on
    rw [Int.toNat_natCast]
    by_cases ha : at' < 0 ∨ many < 0
    · rw [if_pos ha]
      exact (iread_arg h3 hF hm hk ha).mono fun e w' ⟨h4, h5⟩ => ⟨none, 0, 0, h4, (h5.toFv hA hC).bufNil⟩
    · rw [if_neg ha]
      obtain ⟨a, rfl⟩ : ∃ a : Nat, at' = a := ⟨at'.toNat, by omega⟩
      obtain ⟨b, rfl⟩ : ∃ a : Nat, many = a := ⟨many.toNat, by omega⟩
      rw [Int.toNat_natCast, Int.toNat_natCast]
      refine (iread_any h3 hF hm hk (at' := a) (many := b) (by omega) (by omega)).mono ?_
      rintro e w' ⟨ad, l, cap, rfl, h4⟩
      exact ⟨ad, l, cap, rfl, ((h4.cast (by ac_rfl) : Bears w' (filesObj f s * (spA s p d len g (outL len) op F G * (bufA (.slice ad l cap) (((C.fs i).data.drop a).take b) * R)))).toFv hA hC).pull2⟩

theorem fv_stat (h : Bears w (fvA f s p d len g op A C * R)) (n : Int) :
    Calls Tryz.prog 45 #[.pointer (some ⟨f, 0, none⟩), .int .i64 n] w fun e w' => e = .returned (.tuple #[.agg #[.int .i64 (C.stat n).2.kind, .int .i64 (C.stat n).2.links, .int .i64 (C.stat n).2.data.length], .int .i64 (C.stat n).1]) ∧ Bears w' (fvA f s p d len g op A C * R) := by
  obtain ⟨F, G, hA, hC, h3⟩ := Bears.fv.1 h
  unfold FvM.stat
  by_cases hno : C.no n
  · rw [if_pos hno]
    exact (istat_no h3 n (hC.no hno)).mono fun e w' ⟨h4, h5⟩ => ⟨h4, h5.toFv hA hC⟩
  · rw [if_neg hno]
    obtain ⟨i, rfl, hm, hk⟩ := FvM.yes hno
    obtain ⟨Ls, hF⟩ := hC.on
    rw [Int.toNat_natCast]
    refine (istat_any h3 i hm (by rw [hF.nodK hm]; exact hk)).mono ?_
    rintro e w' ⟨rfl, h4⟩
    refine ⟨?_, h4.toFv hA hC⟩
    rw [hF.nodK hm, hF.nodS hm, show (dec (inodeB len G i)).links = (C.fs i).links from hF.links i hm]

theorem fv_blocks (h : Bears w (fvA f s p d len g op A C * R)) :
    Calls Tryz.prog 12 #[.pointer (some ⟨s, 0, none⟩)] w fun e w' => e = .returned (.int .i64 C.fr) ∧ Bears w' (fvA f s p d len g op A C * R) := by
  obtain ⟨F, G, hA, hC, h3⟩ := Bears.fv.1 h
  refine (sblocks_any h3.pull2).mono ?_
  rintro e w' ⟨rfl, h4⟩
  exact ⟨by rw [hC.fr], h4.pull2.toFv hA hC⟩

theorem FsOn.ifree {G : Nat → Sec} {Fs : Nat → FileM} {Ls : Nat → LayM} (hF : FsOn len G Fs Ls) {m : Nat} (hm : m < 256) : ifreeB len G m = ((Fs m).kind == 0) := by
  have h1 := hF.kind m hm
  unfold nodF dec at h1
  simp only at h1
  have h2 : (inodeB len G m).getD 0 0 = (G (iSec len m)).getD (iAt m) 0 := by
    unfold inodeB
    rw [List.getD_eq_getElem?_getD, List.getElem?_take, if_pos (by decide), List.getElem?_drop, Nat.add_zero, ← List.getD_eq_getElem?_getD]
  rw [h2] at h1
  unfold ifreeB
  rw [← h1]
  generalize (G (iSec len m)).getD (iAt m) 0 = u
  by_cases e : u = 0
  · subst e; rfl
  · rw [beq_eq_false_iff_ne.2 e]
    symm
    rw [beq_eq_false_iff_ne]
    intro h
    exact e (UInt8.toNat_inj.1 h)
theorem FvOn.made {G : Nat → Sec} (hC : FvOn len G C) {n : Nat} (hn : n < 256) (hk : (C.fs n).kind = 0) {kd : Nat} (hkd : kd = 1 ∨ kd = 2) : FvOn len (siN len G n (encB (newX kd))).2 (C.set n ⟨kd, 1, []⟩ 0) := by
  obtain ⟨Ls, hF⟩ := hC.on
  have hno := hF.none n hn hk
  have hb0 : (Ls n).blk.length = 0 := by rw [hF.blk n hn, hno]; rfl
  refine ⟨⟨Ls, ?_⟩, ?_⟩
  · have hc : Core len G (updF (nodF len G) n (newX kd)) (updF (byF C.fs) n (fun j => ([] : List UInt8).getD j 0)) Ls [] := by
      have h1 := hF.core
      rw [← updF_id (nodF len G) n] at h1
      have h2 := h1.zero hb0
      have h3 := h2.renode (NodeM.same_attr NodeM.zero kd 1 0)
      have e : byF C.fs n = fun j => ([] : List UInt8).getD j 0 := by unfold byF; rw [hno]; rfl
      rw [← e, updF_id]
      exact h3
    exact FsOn.put (x := newX kd) (f := ⟨kd, 1, []⟩) hF hn (by rcases hkd with rfl | rfl <;> constructor <;> decide) hc (fun _ _ => rfl) rfl rfl rfl (Nat.zero_le _) (by rw [hb0]; show 0 = nBlk 0; decide) (fun _ _ _ => rfl) (fun h => by simp only at h; omega) (fun _ => Nat.le_refl 1)
  · rw [blk_siN hn, hC.fr]
    simp [FvM.set]
theorem find_range {q : Nat → Bool} : ∀ {N n : Nat}, n < N → q n = true → (∀ m, m < n → q m = false) → (List.range N).find? q = some n := by
  intro N n hn hq hm
  rw [List.find?_eq_some_iff_getElem]
  exact ⟨hq, n, by simpa using hn, by simp, fun j hj => by simp [hm j hj]⟩
theorem find_range_none {q : Nat → Bool} {N : Nat} (h : ∀ m, m < N → q m = false) : (List.range N).find? q = none := by
  rw [List.find?_eq_none]
  intro m hm
  rw [List.mem_range] at hm
  rw [h m hm]
  decide
theorem fv_make (h : Bears w (fvA f s p d len g true A C * R)) (kd : Int) :
    Calls Tryz.prog 9 #[.pointer (some ⟨f, 0, none⟩), .int .i64 kd] w fun e w' => e = .returned (.tuple #[.int .i64 (C.make kd).1, .int .i64 (C.make kd).2.1]) ∧ Bears w' (fvA f s p d len g true A (C.make kd).2.2 * R) := by
  obtain ⟨F, G, hA, hC, h3⟩ := Bears.fv.1 h
  unfold FvM.make
  by_cases ha : kd ≠ 1 ∧ kd ≠ 2
  · rw [if_pos ha]
    exact (make_arg h3 kd ha.1 ha.2).mono fun e w' ⟨h4, h5⟩ => ⟨h4, h5.toFv hA hC⟩
  · rw [if_neg ha]
    obtain ⟨k, rfl⟩ : ∃ a : Nat, kd = a := ⟨kd.toNat, by omega⟩
    have hkd : k = 1 ∨ k = 2 := by omega
    obtain ⟨Ls, hF⟩ := hC.on
    refine (make_any h3 k hkd).mono ?_
    rintro e w' (⟨n, hn, h4, h5, rfl, h6⟩ | ⟨h4, rfl, h6⟩)
    · rw [hF.ifree hn] at h5
      have hnx : C.next = some n := find_range hn h5 (fun m hm => by rw [← hF.ifree (by omega)]; exact h4 m hm)
      rw [hnx, Int.toNat_natCast]
      exact ⟨rfl, h6.toFv hA (hC.made hn (by simpa using h5) hkd)⟩
    · have hnx : C.next = none := find_range_none (fun m hm => by rw [← hF.ifree hm]; exact h4 m hm)
      rw [hnx]
      exact ⟨rfl, h6.toFv hA hC⟩
end

/-- A new space. -/
def fresh0 (len : Nat) : FvM := ⟨fun _ => noFile, ((len - firstB len : Nat) : Int)⟩
theorem fvOn_fresh {n : Nat} (h1 : 1024 ≤ n) (h2 : n ≤ 8192) : FvOn n (freshF n) (fresh0 n) := by
  refine ⟨⟨fun _ => ⟨[], 0, 0, []⟩, ?_⟩, blk_fresh n n⟩
  have hi : ∀ m, inodeB n (freshF n) m = List.replicate 32 0 := fun m => by
    unfold inodeB
    rw [freshF_other (by unfold iSec; omega)]
    unfold zeroSec
    have : iAt m = 0 ∨ iAt m = 32 := by unfold iAt; omega
    rcases this with e | e <;> rw [e] <;> rfl
  have hd : ∀ m, nodF n (freshF n) m = NodeM.zero := fun m => by unfold nodF; rw [hi]; rfl
  refine ⟨⟨freshF64 n, fun m _ => ?_, fun m _ => ⟨fun k hk => by simp at hk, fun j _ => rfl⟩, fun m _ i hi => by simp [LayM.own] at hi, fun m _ => by simp [LayM.own], fun m m' _ _ _ i hi => by simp [LayM.own] at hi, by simp, by simp, by simp, fun i _ _ => ?_, fun i _ _ => bitN_fresh n i⟩, fun m _ => by rw [hd]; rfl, fun m _ => by rw [hd]; rfl, fun m _ => by rw [hd]; rfl, fun m _ => by simp [fresh0, noFile], fun m _ => (by show 0 = nBlk 0; decide), fun m _ _ => rfl, fun m _ h => absurd rfl h⟩
  · rw [hd]
    exact ⟨by simp, fun k _ h => by simp at h, fun h => by simp at h, fun k _ _ h => by simp at h, fun _ => rfl, fun h => by simp at h, fun _ => rfl, rfl, fun j h => by simp at h, fun k _ h => by simp at h⟩
  · rw [bitN_fresh]
    simp [LayM.own]

end Go.Proofs.YtggbnelbnbaoiaaGreat

/- The space's statements: ground, kind, First of the document; no condition. -/
namespace Go.Proofs.YtggbnelbnbaoiaaGreat
open Go.RowKit Go.MapKept

theorem kindN_lt (c : Int) (m : Nat) (hm : 0 < m) : ∃ s : Nat, s < m ∧ (if c < 0 then (-(c + 1)) % (m : Int) else c % (m : Int)) = (s : Int) := by
  have h : 0 ≤ (if c < 0 then (-(c + 1)) % (m : Int) else c % (m : Int)) ∧ (if c < 0 then (-(c + 1)) % (m : Int) else c % (m : Int)) < (m : Int) := by
    split
    · exact ⟨Int.emod_nonneg _ (by omega), Int.emod_lt_of_pos _ (by omega)⟩
    · exact ⟨Int.emod_nonneg _ (by omega), Int.emod_lt_of_pos _ (by omega)⟩
  exact ⟨_, by omega, (Int.toNat_of_nonneg h.1).symm⟩

set_option maxHeartbeats 400000 in
theorem kind4_any (c n : Int) (w : World) (h0 : -9223372036854775808 ≤ c ∧ c ≤ 9223372036854775807) (hn : 0 < n ∧ n < 9223372036854775807) :
    Calls Tryz.prog 29 #[.int .i64 c, .int .i64 n] w fun e w' => e = .returned (.int .i64 (if c < 0 then (-(c + 1)) % n else c % n)) ∧ w = w' := by
  obtain ⟨h0, h1⟩ := h0
  obtain ⟨hn, hn1⟩ := hn
  by_cases hc : c < 0
  · have e : -(c + 1).tmod n = (-(c + 1)) % n := by rw [← Int.neg_tmod, Int.tmod_eq_emod_of_nonneg (by omega)]
    have He := Lib.hid e
    clear e
    go_enter Tryz.func29, Tryz.ntmps29
    go_wp2
    go_ret
    refine ⟨?_, rfl⟩
    exact congrArg (fun x => Ending.returned (.int .i64 x)) He.out
  · have e : c.tmod n = c % n := Int.tmod_eq_emod_of_nonneg (by omega)
    have He := Lib.hid e
    clear e
    go_enter Tryz.func29, Tryz.ntmps29
    go_wp2
    go_ret
    refine ⟨?_, rfl⟩
    first | rfl | exact congrArg (fun x => Ending.returned (.int .i64 x)) He.out | exact congrArg (fun x => Ending.returned (.int .i64 x)) (He.out.trans (if_neg (by omega)).symm)

set_option maxRecDepth 100000 in
set_option maxHeartbeats 400000 in
theorem ground4_any {R : Assn} {w : World} (h : Bears w R) :
    Calls Tryz.prog 26 #[.int .i64 1024] w fun e w' => ∃ p s d, e = .returned (.tuple #[ptrB p, ptrB s]) ∧ d.fuse = -1 ∧ Bears w' (spA s p d 1024 0 [] false (freshF 1024) (freshF 1024) * R) := by
  go_enter Tryz.func26, Tryz.ntmps26
  go_wp2_with fail
  refine (new_ok h 1024 (by omega) (by omega)).mono ?_
  rintro e w1 ⟨p, rfl, h1⟩
  go_wp2_with fail
  refine (format_new (by omega) (by omega) h1).mono ?_
  rintro e w2 ⟨d, rfl, hL, hf, hl, h2⟩
  have Hl := Lib.hid hl
  have Hf := Lib.hid hf
  clear hl hf
  go_wp2_with fail
  refine (space_opens h2 hL (by rw [Hl.out]; omega) (by rw [Hl.out]; omega) (by rw [Hl.out]; rfl) (freshF64 1024) (by omega)).mono ?_
  rintro e w3 ⟨s, rfl, h3⟩
  rw [Hl.out] at h3
  go_wp2_with fail
  go_ret2
  exact ⟨p, s, d, rfl, Hf.out, h3⟩

set_option maxHeartbeats 400000 in
theorem rfirst_any (n : Int) (w : World) (hn : -9223372036854775808 ≤ n ∧ n ≤ 9223372036854775807) :
    Calls Tryz.prog 63 #[.int .i64 n] w fun e w' => e = .returned (.int .i64 (firstN n)) ∧ w = w' := by
  by_cases h : n < 1024 ∨ 8192 < n
  · have e1 : firstN n = 0 := by unfold firstN; rw [if_pos h]
    rw [e1]
    by_cases h1 : n < 1024
    · have d1 : decide (n < 1024) = true := decide_eq_true h1
      go_enter Tryz.func63, Tryz.ntmps63
      go_wp2
      go_ret
      exact ⟨rfl, rfl⟩
    · have d1 : decide (n < 1024) = false := decide_eq_false h1
      have d2 : decide (8192 < n) = true := decide_eq_true (by omega)
      go_enter Tryz.func63, Tryz.ntmps63
      go_wp2
      go_ret
      exact ⟨rfl, rfl⟩
  · have e1 : firstN n = 621 + (n + 511) / 512 + 128 := by unfold firstN; rw [if_neg h]
    rw [e1]
    have d1 : decide (n < 1024) = false := decide_eq_false (by omega)
    have d2 : decide (8192 < n) = false := decide_eq_false (by omega)
    have q1 : (n + 511).tdiv 512 = (n + 511) / 512 := Int.tdiv_eq_ediv_of_nonneg (by omega)
    clear e1
    go_enter Tryz.func63, Tryz.ntmps63
    go_wp2
    go_ret
    exact ⟨rfl, rfl⟩

end Go.Proofs.YtggbnelbnbaoiaaGreat

/- The files' statements: ground, kind, the document's examples; no condition. -/
namespace Go.Proofs.YtggbnelbnbaoiaaGreat
open Go.RowKit Go.MapKept

set_option maxHeartbeats 400000 in
theorem kind5_any (c n : Int) (w : World) (h0 : -9223372036854775808 ≤ c ∧ c ≤ 9223372036854775807) (hn : 0 < n ∧ n < 9223372036854775807) :
    Calls Tryz.prog 13 #[.int .i64 c, .int .i64 n] w fun e w' => e = .returned (.int .i64 (if c < 0 then (-(c + 1)) % n else c % n)) ∧ w = w' := by
  obtain ⟨h0, h1⟩ := h0
  obtain ⟨hn, hn1⟩ := hn
  by_cases hc : c < 0
  · have e : -(c + 1).tmod n = (-(c + 1)) % n := by rw [← Int.neg_tmod, Int.tmod_eq_emod_of_nonneg (by omega)]
    have He := Lib.hid e
    clear e
    go_enter Tryz.func13, Tryz.ntmps13
    go_wp2
    go_ret
    refine ⟨?_, rfl⟩
    exact congrArg (fun x => Ending.returned (.int .i64 x)) He.out
  · have e : c.tmod n = c % n := Int.tmod_eq_emod_of_nonneg (by omega)
    have He := Lib.hid e
    clear e
    go_enter Tryz.func13, Tryz.ntmps13
    go_wp2
    go_ret
    refine ⟨?_, rfl⟩
    first | rfl | exact congrArg (fun x => Ending.returned (.int .i64 x)) He.out | exact congrArg (fun x => Ending.returned (.int .i64 x)) (He.out.trans (if_neg (by omega)).symm)

theorem newFiles_any {s : Nat} {R : Assn} {w : World} (h : Bears w R) :
    Calls Tryz.prog 50 #[.pointer (some ⟨s, 0, none⟩)] w fun e w' => ∃ f, e = .returned (.pointer (some ⟨f, 0, none⟩)) ∧ Bears w' (filesObj f s * R) := by
  have h1 := h.alloc (.cells #[.pointer (some ⟨s, 0, none⟩)] 89)
  go_enter Tryz.func50, Tryz.ntmps50
  go_wp2_with fail
  go_ret
  exact ⟨_, rfl, h1⟩

set_option maxRecDepth 100000 in
set_option maxHeartbeats 400000 in
theorem ground5_any {n : Nat} (hn : 1024 ≤ n) (hn2 : n ≤ 8192) {R : Assn} {w : World} (h : Bears w R) :
    Calls Tryz.prog 8 #[.int .i64 n] w fun e w' => ∃ p s f d, e = .returned (.tuple #[ptrB p, ptrB s, ptrB f]) ∧ d.fuse = -1 ∧ Bears w' (fvA f s p d n 0 true (fresh0 n) (fresh0 n) * R) := by
  have hfo := fvOn_fresh hn hn2
  have Hfo := Lib.hid hfo
  have h64 := freshF64 n
  generalize hF : freshF n = F at h64
  have HF := Lib.hid hF
  have H64 := Lib.hid h64
  clear hfo hF h64
  go_enter Tryz.func8, Tryz.ntmps8
  go_wp2_with fail
  refine (new_ok h n (by omega) hn2).mono ?_
  rintro e w1 ⟨p, rfl, h1⟩
  go_wp2_with fail
  refine (format_new hn hn2 h1).mono ?_
  rintro e w2 ⟨d, rfl, hL, hf, hl, h2⟩
  rw [HF.out] at hL
  have Hl := Lib.hid hl
  have Hf := Lib.hid hf
  clear hl hf
  go_wp2_with fail
  refine (space_opens h2 hL (by rw [Hl.out]; omega) (by rw [Hl.out]; omega) (by rw [Hl.out, ← HF.out]; rfl) H64.out (by omega)).mono ?_
  rintro e w3 ⟨s, rfl, h3⟩
  rw [Hl.out] at h3
  go_wp2_with fail
  refine (sbegin_any h3).mono ?_
  rintro e w4 ⟨rfl, h4⟩
  go_wp2_with fail
  refine (newFiles_any h4).mono ?_
  rintro e w5 ⟨f, rfl, h5⟩
  go_wp2_with fail
  refine bodyPost_ret (results_tmp3 rfl _ _ _) rfl ?_
  rw [← HF.out] at h5
  exact ⟨p, s, f, d, rfl, Hf.out, h5.toFv Hfo.out Hfo.out⟩

def shC1 : FvM := (fresh0 1024).set 0 ⟨1, 1, []⟩ 0
def shC2 : FvM := shC1.set 0 ⟨1, 1, [0, 0, 0, 97, 98]⟩ (-1)
def shC3 : FvM := shC2.set 0 ⟨1, 1, [0, 0, 0, 97]⟩ 0
def shC4 : FvM := shC3.set 0 ⟨1, 2, [0, 0, 0, 97]⟩ 0
def shC5 : FvM := shC4.set 0 ⟨1, 1, [0, 0, 0, 97]⟩ 0
def shC6 : FvM := shC5.set 0 noFile 1
theorem sh1 : (fresh0 1024).make 1 = (0, 0, shC1) := by kernel_rfl
theorem sh2 : shC1.write 0 3 [97, 98] = (0, shC2) := by kernel_rfl
theorem sh3 : shC2.read 0 0 9 = (0, [0, 0, 0, 97, 98]) := by kernel_rfl
theorem sh4 : shC2.stat 0 = (0, ⟨1, 1, [0, 0, 0, 97, 98]⟩) := by kernel_rfl
theorem sh5 : shC2.cut 0 4 = (0, shC3) := by kernel_rfl
theorem sh6 : shC3.read 0 2 9 = (0, [0, 97]) := by kernel_rfl
theorem sh7 : shC3.cut 0 9 = (1, shC3) := by kernel_rfl
theorem sh8 : shC3.link 0 1 = (0, shC4) := by kernel_rfl
theorem sh9 : shC4.link 0 (-1) = (0, shC5) := by kernel_rfl
theorem sh10 : shC5.link 0 (-1) = (0, shC6) := by kernel_rfl
theorem sh11 : shC6.stat 0 = (50, noFile) := by kernel_rfl

end Go.Proofs.YtggbnelbnbaoiaaGreat

/- The files' statements: the document's examples; no condition. -/
namespace Go.Proofs.YtggbnelbnbaoiaaGreat
open Go.RowKit Go.MapKept

theorem exec_convertW {P : Program} {ev : Operand → Value} {o : Oper} {w w' : World} {ss dd : TypeId} {x : Operand} {v u : Value} (ho : o.op = .convert ss dd x) (hx : ev x = v) (hrun : (convert ss dd v).run P w = .ok u w') : (execOp ev o).run P w = .ok (.value u) w' := by
  unfold execOp
  simp only [ho, hx, Sem.run_bind, hrun, Result.andThen_ok, Sem.run_pure]
theorem costI_shown : costI 0 = 0 ∧ costI 1 = 1 ∧ costI 256 = 4 ∧ costI 257 = 6 ∧ costI 2304 = 37 ∧ costI 2305 = 40 ∧ costI 16384 = 265 ∧ costI 16385 = 0 := by decide

set_option maxRecDepth 100000 in
set_option maxHeartbeats 2000000 in
theorem shown5_any {R : Assn} {w : World} (h : Bears w R) :
    Calls Tryz.prog 7 #[] w fun e w' => e = .returned (.bool true) ∧ Bears w' R := by
  have hc : ∀ (n : Int), n = 0 ∨ n = 1 ∨ n = 256 ∨ n = 257 ∨ n = 2304 ∨ n = 2305 ∨ n = 16384 ∨ n = 16385 → ∀ w, Calls Tryz.prog 44 #[.int .i64 n] w fun e w' => e = .returned (.int .i64 (costI n)) ∧ w = w' := fun n hn w => cost_any n w (by omega)
  obtain ⟨k0, k1, k2, k3, k4, k5, k6, k7⟩ := costI_shown
  have Hc := Lib.hid hc
  have K := Lib.hid (And.intro k0 (And.intro k1 (And.intro k2 (And.intro k3 (And.intro k4 (And.intro k5 (And.intro k6 k7)))))))
  clear hc k0 k1 k2 k3 k4 k5 k6 k7
  go_enter Tryz.func7, Tryz.ntmps7
  go_wp2_with fail
  refine (ground5_any (n := 1024) (by omega) (by omega) h).mono ?_
  rintro e w1 ⟨p, s, f, d, rfl, hf, h1⟩
  go_wp2_with fail
  refine (Hc.out 0 (by omega) _).mono ?_
  rintro e w2 ⟨rfl, rfl⟩
  rw [K.out.1]
  go_wp2_with fail
  refine (Hc.out 1 (by omega) _).mono ?_
  rintro e w2 ⟨rfl, rfl⟩
  rw [K.out.2.1]
  go_wp2_with fail
  refine (Hc.out 256 (by omega) _).mono ?_
  rintro e w2 ⟨rfl, rfl⟩
  rw [K.out.2.2.1]
  go_wp2_with fail
  refine (Hc.out 257 (by omega) _).mono ?_
  rintro e w2 ⟨rfl, rfl⟩
  rw [K.out.2.2.2.1]
  go_wp2_with fail
  refine (Hc.out 2304 (by omega) _).mono ?_
  rintro e w2 ⟨rfl, rfl⟩
  rw [K.out.2.2.2.2.1]
  go_wp2_with fail
  refine (Hc.out 2305 (by omega) _).mono ?_
  rintro e w2 ⟨rfl, rfl⟩
  rw [K.out.2.2.2.2.2.1]
  go_wp2_with fail
  refine (Hc.out 16384 (by omega) _).mono ?_
  rintro e w2 ⟨rfl, rfl⟩
  rw [K.out.2.2.2.2.2.2.1]
  go_wp2_with fail
  refine (Hc.out 16385 (by omega) _).mono ?_
  rintro e w2 ⟨rfl, rfl⟩
  rw [K.out.2.2.2.2.2.2.2]
  go_wp2_with fail
  refine (fv_make h1 1).mono ?_
  rintro e w3 ⟨rfl, h3⟩
  rw [sh1] at h3 ⊢
  have hcv := Lib.run_convert_bytes_const (P := Tryz.prog) w3 22 5 #[.int .u8 97, .int .u8 98] 2 2 u_bytes (by kernel_rfl)
  go_wp2_with (refine wpList_op rfl (exec_convertW rfl rfl hcv) ?_)
  have h4 : Bears (w3.alloc (.cells #[.int .u8 97, .int .u8 98] 5 (2, 3))) _ := h3.alloc (.cells (cellsV [97, 98]).toArray 5 (2, 3))
  refine (fv_write h4.pull2 0 3 (b := [97, 98]) (BytesIn.tells _ 2 rfl) (by decide) (by decide)).mono ?_
  rintro e w5 ⟨rfl, h5⟩
  rw [sh2] at h5 ⊢
  go_wp2_with fail
  refine (fv_read h5 0 0 9 (by omega) (by omega)).mono ?_
  rintro e w6 ⟨ad6, l6, cap6, rfl, h6⟩
  rw [sh3] at h6 ⊢
  go_wp2_with fail
  refine (fv_stat h6.pull2 0).mono ?_
  rintro e w7 ⟨rfl, h7⟩
  rw [sh4]
  go_wp2_with fail
  have h8 := h7.alloc (.cells #[.int .i64 1, .int .i64 1, .int .i64 5] 40)
  refine (fv_cut h8.pull2 0 4).mono ?_
  rintro e w9 ⟨rfl, h9⟩
  rw [sh5] at h9 ⊢
  go_wp2_with fail
  refine (fv_read h9 0 2 9 (by omega) (by omega)).mono ?_
  rintro e w10 ⟨ad10, l10, cap10, rfl, h10⟩
  rw [sh6] at h10 ⊢
  go_wp2_with fail
  refine (fv_cut h10.pull2 0 9).mono ?_
  rintro e w11 ⟨rfl, h11⟩
  rw [sh7] at h11 ⊢
  go_wp2_with fail
  refine (fv_link h11 0 1).mono ?_
  rintro e w12 ⟨rfl, h12⟩
  rw [sh8] at h12 ⊢
  go_wp2_with fail
  refine (fv_link h12 0 (-1)).mono ?_
  rintro e w13 ⟨rfl, h13⟩
  rw [sh9] at h13 ⊢
  go_wp2_with fail
  refine (fv_link h13 0 (-1)).mono ?_
  rintro e w14 ⟨rfl, h14⟩
  rw [sh10] at h14 ⊢
  go_wp2_with fail
  refine (fv_stat h14 0).mono ?_
  rintro e w15 ⟨rfl, h15⟩
  rw [sh11]
  have h16 := h15.alloc (.cells #[.int .i64 (noFile.kind : Int), .int .i64 (noFile.links : Int), .int .i64 (noFile.data.length : Int)] 40)
  have r1 := run_convert_in (buf_tells _ h16.pull5)
  have r2 := run_convert_in (buf_tells _ h16.pull3)
  have c0 := cell_of_obj h16.pull4.obj 0
  have c1 := cell_of_obj h16.pull4.obj 1
  have c2 := cell_of_obj h16.pull4.obj 2
  simp only [List.getElem?_toArray, List.getElem?_cons_zero, List.getElem?_cons_succ] at c0 c1 c2
  go_wp2_with (first | (refine wpList_conv rfl rfl rfl r1 ?_) | (refine wpList_conv rfl rfl rfl r2 ?_))
  go_ret
  exact ⟨rfl, h16.right.right.right.right.right.right⟩

end Go.Proofs.YtggbnelbnbaoiaaGreat

/- Files, plain: what a law's calls lead to; slices of bytes that are cut; no program in sight but a few operations. -/
namespace Go.Proofs.YtggbnelbnbaoiaaGreat
open Go.RowKit Go.MapKept

def dataW (l : List UInt8) (a : Nat) (b : List UInt8) : List UInt8 := if b = [] then l else wrD l a b
theorem list_ext0 {a b : List UInt8} (hl : a.length = b.length) (h : ∀ i, a.getD i 0 = b.getD i 0) : a = b := by
  apply List.ext_getElem hl
  intro i h1 h2
  have := h i
  simpa [List.getD_eq_getElem?_getD, h1, h2] using this
theorem getD_append (l b : List UInt8) (j : Nat) : (l ++ b).getD j 0 = if j < l.length then l.getD j 0 else b.getD (j - l.length) 0 := by
  rw [List.getD_eq_getElem?_getD, List.getElem?_append]
  split
  · rw [← List.getD_eq_getElem?_getD]
  · rw [← List.getD_eq_getElem?_getD]
theorem dataW_end (l b : List UInt8) : dataW l l.length b = l ++ b := by
  unfold dataW
  split
  · subst_vars; simp
  · refine list_ext0 (by rw [wrD_length, List.length_append]; omega) fun i => ?_
    rw [wrD_getD, getD_append]
    unfold wrB
    by_cases h : i < l.length
    · rw [if_neg (by omega), if_pos h]
    · rw [if_neg h]
      by_cases h2 : i < l.length + b.length
      · rw [if_pos (by omega)]
      · rw [if_neg (by omega), getD_over (l := b) (by omega)]
        exact getD_over (by omega)

theorem FvM.wr_ok {C : FvM} {n : Nat} {f : FileM} (hn : n < 256) (hf : C.fs n = f) (hk : f.kind ≠ 0) {a : Nat} {b : List UInt8} (hmx : a + b.length ≤ 16384) (hfr : costD (dataW f.data a b) - costD f.data ≤ C.fr) :
    ∃ C', C.write n a b = (0, C') ∧ C'.fs = updF C.fs n { f with data := dataW f.data a b } ∧ C'.fr = C.fr + (costD f.data - costD (dataW f.data a b)) := by
  subst hf
  have hno : ¬ C.no n := by unfold FvM.no; rw [Int.toNat_natCast]; omega
  unfold FvM.write
  rw [if_neg hno, if_neg (by omega), if_neg (by omega), Int.toNat_natCast, Int.toNat_natCast]
  unfold dataW at hfr ⊢
  by_cases hb : b = []
  · simp only [if_pos hb]
    exact ⟨C, rfl, (updF_id C.fs n).symm, by omega⟩
  · simp only [if_neg hb] at hfr ⊢
    rw [if_neg (by omega)]
    exact ⟨_, rfl, rfl, rfl⟩
theorem FvM.cut_ok {C : FvM} {n : Nat} {f : FileM} (hn : n < 256) (hf : C.fs n = f) (hk : f.kind ≠ 0) {a : Nat} (ha : a ≤ f.data.length) :
    ∃ C', C.cut n a = (0, C') ∧ C'.fs = updF C.fs n { f with data := f.data.take a } ∧ C'.fr = C.fr + (costD f.data - costD (f.data.take a)) := by
  subst hf
  have hno : ¬ C.no n := by unfold FvM.no; rw [Int.toNat_natCast]; omega
  unfold FvM.cut
  rw [if_neg hno, Int.toNat_natCast, Int.toNat_natCast, if_neg (by omega)]
  exact ⟨_, rfl, rfl, rfl⟩
theorem FvM.read_ok {C : FvM} {n : Nat} {f : FileM} (hn : n < 256) (hf : C.fs n = f) (hk : f.kind ≠ 0) (many : Nat) : C.read n 0 many = (0, f.data.take many) := by
  subst hf
  have hno : ¬ C.no n := by unfold FvM.no; rw [Int.toNat_natCast]; omega
  unfold FvM.read
  rw [if_neg hno, if_neg (by omega), Int.toNat_natCast, Int.toNat_natCast]
  rfl
theorem FvM.gone_ok {C : FvM} {n : Nat} {f : FileM} (hn : n < 256) (hf : C.fs n = f) (hk : f.kind ≠ 0) (hl : f.links = 1) : ∃ C', C.link n (-1) = (0, C') ∧ C'.fs = updF C.fs n noFile ∧ C'.fr = C.fr + costD f.data := by
  subst hf
  have hno : ¬ C.no n := by unfold FvM.no; rw [Int.toNat_natCast]; omega
  unfold FvM.link
  rw [if_neg hno, Int.toNat_natCast, if_neg (by omega), if_pos ⟨rfl, hl⟩]
  exact ⟨_, rfl, rfl, rfl⟩
theorem FvM.make_ok {C : FvM} {n : Nat} (hn : n < 256) (h0 : (C.fs n).kind = 0) (hlo : ∀ m, m < n → (C.fs m).kind ≠ 0) {kd : Nat} (hkd : kd = 1 ∨ kd = 2) : C.make kd = ((n : Int), 0, C.set n ⟨kd, 1, []⟩ 0) := by
  unfold FvM.make
  rw [if_neg (by omega), show C.next = some n from find_range hn (by simpa using h0) (fun m hm => by simpa using hlo m hm), Int.toNat_natCast]
theorem costD_nil : costD [] = 0 := by decide
theorem costD_le {l : List UInt8} (h : l.length ≤ 16384) : costD l ≤ 300 := by
  have := costN_le (b := nBlk l.length) (by unfold nBlk; omega)
  unfold costD
  omega
theorem costD_len {l m : List UInt8} (h : l.length = m.length) : costD l = costD m := by unfold costD; rw [h]
theorem costI_len {n : Nat} {l : List UInt8} (h : l.length = n) (hn : n ≤ 16384) : costI (n : Int) = costD l := by rw [costI_nat hn]; unfold costD; rw [h]

theorem BytesIn.pre {w : World} {ad : Option Addr} {n cap p : Nat} {l : List UInt8} (h : BytesIn w (.slice ad n cap) l) (hp : p ≤ n) (c : Nat) : BytesIn w (.slice ad p c) (l.take p) := by
  have hn := h.len
  refine ⟨ad, c, by rw [List.length_take, Nat.min_eq_left (by omega)], fun hne => ?_⟩
  obtain ⟨b, o, rfl, hr⟩ := h.at (by intro e; rw [e] at hne; simp at hne)
  refine ⟨b, o, rfl, fun j v hv => hr j v ?_⟩
  unfold cellsV at hv ⊢
  rw [List.map_take, List.getElem?_take] at hv
  split at hv
  · exact hv
  · cases hv
theorem addr_add0 (a : Addr) : a.add 0 = a := by unfold Addr.add; rw [if_pos rfl]
theorem exec_to {P : Program} {ev : Operand → Value} {op : Oper} {t : TypeId} {x b : Operand} {ad : Option Addr} {hi len cap : Nat} {w : World} {e : TypeId} (ho : op.op = .slice t x none (some b) none) (ht : P.underlying t = some (.slice e)) (hz : (Go.sizeOf e).run P w = .ok 1 w)
    (hx : ev x = .slice ad len cap) (hb : ev b = .int .i64 hi) (h1 : hi ≤ cap) :
    (execOp ev op).run P w = .ok (.value (.slice ad hi cap)) w := by
  unfold execOp
  go_simp
  try (cases ad <;> simp [addr_add0])
theorem made_bytes (n : Nat) : madeCells #[Value.int .u8 0] n = (cellsV (List.replicate n 0)).toArray := by
  unfold madeCells cellsV byteV
  apply Array.ext
  · simp
  · intro i h1 h2
    simp [Nat.mod_one]
theorem run_make_bytes (w : World) (n : Nat) (hn : n ≤ 16384) : (Instr.makeSlice 22 (.int .i64 n) (.int .i64 n)).run Tryz.prog w = .ok (.slice (some ⟨w.heap.size, 0, none⟩) n n) (w.alloc (.cells (cellsV (List.replicate n 0)).toArray 5)) := by
  obtain ⟨i0, hi0, hz0, hz1, hz2⟩ := info_parts i_byte
  have h := run_makeSlice (P := Tryz.prog) (w := w) 22 5 i0 _ u_bytes hi0 hz0 .i64 .i64 (n : Int) (n : Int) (by omega) (Int.le_refl _) (by rw [hz1, Int.toNat_natCast]; omega) (by rw [hz2]; omega) (by omega)
  rw [hz1, Int.toNat_natCast, Nat.mul_one, show (Value.int .u8 0).cells = #[Value.int .u8 0] by simp [Value.cells], made_bytes] at h
  exact h

end Go.Proofs.YtggbnelbnbaoiaaGreat

/- InodeCosts walked; no condition. -/
namespace Go.Proofs.YtggbnelbnbaoiaaGreat
open Go.RowKit Go.MapKept

set_option maxHeartbeats 800000 in
theorem rcost_any (n : Nat) (hn : n ≤ 16384) (w : World) :
    Calls Tryz.prog 72 #[.int .i64 n] w fun e w' => e = .returned (.int .i64 (costI n)) ∧ w = w' := by
  rw [costI_nat hn]
  obtain ⟨b, hb⟩ : ∃ b, nBlk n = b := ⟨_, rfl⟩
  have hb2 : b ≤ 256 := by rw [← hb]; unfold nBlk; omega
  have q1 : ((n : Int) + 64 - 1) / 64 = (b : Int) := by rw [← hb]; unfold nBlk; omega
  have q2 : ((n : Int) + 64 - 1).tdiv 64 = (b : Int) := by rw [Int.tdiv_eq_ediv_of_nonneg (by omega)]; exact q1
  have q3 : ((n : Int) + 63) / 64 = (b : Int) := by omega
  have q4 : ((n : Int) + 63).tdiv 64 = (b : Int) := by rw [Int.tdiv_eq_ediv_of_nonneg (by omega)]; exact q3
  rw [hb]
  have hnI : (n : Int) ≤ 16384 := by omega
  clear hb hn
  by_cases h36 : 36 < b
  · have e2 : (costN b : Int) = (b : Int) + (2 + ((b : Int) - 4 - 1) / 32) := by
      unfold costN nIn; rw [if_pos (by omega), if_pos h36]; omega
    have p1 : ((b : Int) - 4 - 1).tdiv 32 = ((b : Int) - 4 - 1) / 32 := Int.tdiv_eq_ediv_of_nonneg (by omega)
    rw [e2]
    clear e2
    go_enter Tryz.func72, Tryz.ntmps72
    go_wp2
    go_ret
    exact ⟨rfl, rfl⟩
  · by_cases h4 : 4 < b
    · have e2 : (costN b : Int) = (b : Int) + 1 := by
        unfold costN; rw [if_pos h4, if_neg h36]; omega
      rw [e2]
      clear e2
      go_enter Tryz.func72, Tryz.ntmps72
      go_wp2
      go_ret
      exact ⟨rfl, rfl⟩
    · have e2 : (costN b : Int) = (b : Int) := by
        unfold costN; rw [if_neg h4, if_neg h36]; omega
      rw [e2]
      clear e2
      go_enter Tryz.func72, Tryz.ntmps72
      go_wp2
      go_ret
      exact ⟨by simp, rfl⟩

def fillB (n i : Nat) : List UInt8 := (List.range n).map fun j => if j < i then UInt8.ofNat (j + j / 256) else 0
theorem fillB_length (n i : Nat) : (fillB n i).length = n := by simp [fillB]
theorem fillB_zero (n : Nat) : fillB n 0 = List.replicate n 0 := by
  apply List.ext_getElem (by simp [fillB])
  intro i h1 h2
  simp [fillB]
theorem fillB_succ {n i : Nat} (_h : i < n) : (fillB n i).set i (UInt8.ofNat (i + i / 256)) = fillB n (i + 1) := by
  apply List.ext_getElem (by simp [fillB])
  intro j h1 h2
  simp only [fillB, List.getElem_set, List.getElem_map, List.getElem_range]
  by_cases e : i = j
  · subst e; rw [if_pos rfl, if_pos (by omega)]
  · rw [if_neg e]
    by_cases h3 : j < i
    · rw [if_pos h3, if_pos (by omega)]
    · rw [if_neg h3, if_neg (by omega)]

theorem costI_b {n : Nat} (h : n ≤ 16384) : 0 ≤ costI (n : Int) ∧ costI (n : Int) ≤ 300 := by
  rw [costI_nat h]
  have := costN_le (b := nBlk n) (by unfold nBlk; omega)
  omega

/-- The states that the law goes through. -/
theorem costs_go {n p c : Nat} {bs : List UInt8} (hb : bs.length = n) (hn : n ≤ 16384) (hp : p ≤ n) (hc : c ≤ n) : ∃ C2 C3 C4 C5 : FvM,
    ((fresh0 1300).set 0 ⟨1, 1, []⟩ 0).write 0 0 (bs.take p) = (0, C2) ∧ C2.fr = 548 - costI p ∧ C2.write 0 p (bs.drop p) = (0, C3) ∧ C3.fr = 548 - costI n ∧ C3.read 0 0 n = (0, bs) ∧
    C3.cut 0 c = (0, C4) ∧ C4.fr = 548 - costI c ∧ C4.read 0 0 n = (0, bs.take c) ∧ C4.link 0 (-1) = (0, C5) ∧ C5.fr = 548 := by
  have hfr : ((fresh0 1300).set 0 ⟨1, 1, []⟩ 0).fr = 548 := by show ((1300 - firstB 1300 : Nat) : Int) + 0 = 548; decide
  have l1 : (bs.take p).length = p := by rw [List.length_take]; omega
  have l2 : (bs.take c).length = c := by rw [List.length_take]; omega
  have e1 : dataW [] 0 (bs.take p) = bs.take p := dataW_end [] (bs.take p)
  obtain ⟨C2, h1, f1, r1⟩ := FvM.wr_ok (C := (fresh0 1300).set 0 ⟨1, 1, []⟩ 0) (n := 0) (f := ⟨1, 1, []⟩) (by decide) (by unfold FvM.set; simp) (by decide) (a := 0) (b := bs.take p) (by omega) (by
    rw [hfr, e1]
    have := costD_le (l := bs.take p) (by omega)
    rw [costD_nil]; omega)
  rw [e1, costD_nil, hfr] at r1
  simp only [e1] at f1
  have g2 : C2.fs 0 = ⟨1, 1, bs.take p⟩ := by rw [f1]; simp
  have e2 : dataW (bs.take p) p (bs.drop p) = bs := by
    have := dataW_end (bs.take p) (bs.drop p)
    rw [l1, List.take_append_drop] at this
    exact this
  have hcb := costD_le (l := bs) (by omega)
  obtain ⟨C3, h2, f2, r2⟩ := FvM.wr_ok (C := C2) (n := 0) (by decide) g2 Nat.one_ne_zero (a := p) (b := bs.drop p) (by rw [List.length_drop]; omega) (by
    simp only [e2]
    rw [r1]; omega)
  simp only [e2] at f2 r2
  have g3 : C3.fs 0 = ⟨1, 1, bs⟩ := by rw [f2]; simp
  obtain ⟨C4, h3, f3, r3⟩ := FvM.cut_ok (C := C3) (n := 0) (by decide) g3 Nat.one_ne_zero (a := c) (by simp only; omega)
  have g4 : C4.fs 0 = ⟨1, 1, bs.take c⟩ := by rw [f3]; simp
  obtain ⟨C5, h4, f4, r4⟩ := FvM.gone_ok (C := C4) (n := 0) (by decide) g4 Nat.one_ne_zero rfl
  have rd3 := FvM.read_ok (C := C3) (n := 0) (by decide) g3 Nat.one_ne_zero n
  have rd4 := FvM.read_ok (C := C4) (n := 0) (by decide) g4 Nat.one_ne_zero n
  simp only at rd3 rd4 r3 r4
  rw [List.take_of_length_le (by omega)] at rd3
  rw [List.take_of_length_le (by omega)] at rd4
  have k1 := costI_len l1 (by omega)
  have k2 := costI_len hb (by omega)
  have k3 := costI_len l2 (by omega)
  exact ⟨C2, C3, C4, C5, h1, by omega, h2, by omega, rd3, h3, by omega, rd4, h4, by omega⟩

end Go.Proofs.YtggbnelbnbaoiaaGreat

/- InodeFull walked; no condition. -/
namespace Go.Proofs.YtggbnelbnbaoiaaGreat
open Go.RowKit Go.MapKept

theorem FvM.set_fs {C : FvM} {n : Nat} {f : FileM} {b : Int} : (C.set n f b).fs = updF C.fs n f := rfl
/-- i files, and room. -/
structure FullS (i : Nat) (C : FvM) : Prop where
  old : ∀ m, m < i → (C.fs m).kind ≠ 0
  new : ∀ m, i ≤ m → m < 256 → C.fs m = noFile
  lo : 0 ≤ C.fr
  hi : C.fr ≤ 273
theorem full_start : FullS 0 (fresh0 1024) := ⟨fun m hm => by omega, fun m _ _ => rfl, by decide, by decide⟩
theorem full_make {i : Nat} {C : FvM} (h : FullS i C) (hi : i < 256) : C.make 1 = ((i : Int), 0, C.set i ⟨1, 1, []⟩ 0) :=
  FvM.make_ok hi (by rw [h.new i (Nat.le_refl _) hi]; rfl) h.old (kd := 1) (.inl rfl)
theorem full_made {i : Nat} {C : FvM} (h : FullS i C) : FullS (i + 1) (C.set i ⟨1, 1, []⟩ 0) := by
  refine ⟨fun m hm => ?_, fun m h1 h2 => ?_, by rw [FvM.set_zero]; exact h.lo, by rw [FvM.set_zero]; exact h.hi⟩
  · by_cases e : m = i
    · subst e; rw [FvM.set_fs, updF_self]; exact Nat.one_ne_zero
    · rw [FvM.set_fs, updF_ne e]; exact h.old m (by omega)
  · rw [FvM.set_fs, updF_ne (by omega)]; exact h.new m (by omega) h2
/-- A write into an empty file. -/
theorem full_write {i : Nat} {C : FvM} (h : FullS (i + 1) C) (hi : i < 256) (hf : C.fs i = ⟨1, 1, []⟩) {a : Nat} {b : List UInt8} (hmx : a + b.length ≤ 16384) {need : Int} (hneed : need = if b = [] then 0 else costI ((a + b.length : Nat) : Int)) :
    (C.fr < need ∧ C.write i a b = (3, C)) ∨ (need ≤ C.fr ∧ ∃ C', C.write i a b = (0, C') ∧ FullS (i + 1) C' ∧ C'.fr = C.fr - need ∧ (C'.fs i).kind = 1 ∧ (C'.fs i).links = 1 ∧ (C'.fs i).data.length = if b = [] then 0 else a + b.length) := by
  have hno : ¬ C.no i := by unfold FvM.no; rw [Int.toNat_natCast, hf]; simp only; omega
  have hw : C.write i a b = if b = [] then (0, C) else if C.fr < costD (wrD [] a b) - costD [] then (3, C) else (0, C.set i ⟨1, 1, wrD [] a b⟩ (costD [] - costD (wrD [] a b))) := by
    unfold FvM.write
    rw [if_neg hno, if_neg (by omega), if_neg (by omega), Int.toNat_natCast, Int.toNat_natCast, hf]
  rw [hw]
  by_cases hb : b = []
  · rw [if_pos hb] at hneed ⊢
    refine .inr ⟨by rw [hneed]; exact h.lo, C, rfl, h, by omega, by rw [hf], by rw [hf], by rw [hf, if_pos hb]; rfl⟩
  · rw [if_neg hb] at hneed ⊢
    have hc : costD (wrD [] a b) = need := by
      rw [hneed, costI_nat (by omega), wrD_cost]
      congr 3
    have hn0 : 0 ≤ need := by rw [← hc]; unfold costD; omega
    rw [hc, costD_nil]
    by_cases hf2 : C.fr < need - 0
    · rw [if_pos hf2]
      exact .inl ⟨by omega, rfl⟩
    · rw [if_neg hf2]
      refine .inr ⟨by omega, _, rfl, ⟨fun m hm => ?_, fun m h1 h2 => ?_, ?_, ?_⟩, ?_, ?_, ?_, ?_⟩
      · by_cases e : m = i
        · subst e; rw [FvM.set_fs, updF_self]; exact Nat.one_ne_zero
        · rw [FvM.set_fs, updF_ne e]; exact h.old m hm
      · rw [FvM.set_fs, updF_ne (by omega)]; exact h.new m h1 h2
      · show 0 ≤ C.fr + (0 - need); omega
      · have := h.hi; show C.fr + (0 - need) ≤ 273; omega
      · show C.fr + (0 - need) = _; omega
      · rw [FvM.set_fs, updF_self]
      · rw [FvM.set_fs, updF_self]
      · rw [FvM.set_fs, updF_self, if_neg hb]; show (wrD [] a b).length = _; rw [wrD_length]; show max 0 (a + b.length) = _; omega
theorem full_small {n : Nat} (h : n ≤ 16384) : costI ((n : Nat) : Int) ≤ 300 ∧ 0 ≤ costI ((n : Nat) : Int) := ⟨(costI_b h).2, (costI_b h).1⟩

end Go.Proofs.YtggbnelbnbaoiaaGreat

/- The files' statements: a call of the program, while a transaction is open; no condition. -/
namespace Go.Proofs.YtggbnelbnbaoiaaGreat
open Go.RowKit Go.MapKept

/-- 'append([]byte{}, s...)', as a row. -/
theorem wpList_append_rowC {w : World} {ops : Array Oper} {rest : List Oper} {o : Oper} {a : Act} {Q : Exit → Act → World → Prop} {s x : Operand} {R : Assn} {b0 : Addr} (h : Bears w (rowA 5 1 (.slice (some b0) 0 0) 0 [] * R)) (hg : o.guard = none)
    (ho : o.op = .call { callee := .builtin .append, args := #[s, x], argTypes := #[22, 22] }) {ad : Option Addr} {n c : Nat} {l : List UInt8} (hs : a.eval s = .slice (some b0) 0 0) (hx : a.eval x = .slice ad n c)
    (hb : BytesIn w (.slice ad n c) l) (hl : l.length ≤ 140737488355328) (hK : ∀ a' c' w', Bears w' (rowA 5 1 (.slice a' n c') n (cellsV l) * R) → wpList Tryz.prog ops Q rest (a.put o.dst (.slice a' n c')) w') : wpList Tryz.prog ops Q (o :: rest) a w := by
  have hn := hb.len
  subst hn
  obtain ⟨i0, hi0, hz0, hz1, hz2⟩ := info_parts i_byte
  by_cases h0 : l = []
  · subst h0
    refine wpList_plain hg fun K hK' => ?_
    have hr : (Builtin.append_ #[22, 22] o.type #[.slice (some b0) 0 0, .slice ad 0 c]).run Tryz.prog w = .ok (.slice (some b0) 0 0) w := by
      cases ad <;> simp [Builtin.append_, run_underlying Tryz.underlying22, sizeOf, typeInfo, hi0, storeCells, Builtin.lenOf, Builtin.firstCells, loadCells, loadCellsFrom]
    have hx' : a.eval x = .slice ad 0 c := hx
    unfold Oper.wp execOp
    simp only [ho, resolve, invoke, builtin, Sem.run_bind, Sem.run_pure, Result.andThen_ok, List.map_toArray, List.map_cons, List.map_nil, hs, hx', hr]
    exact hK' _ _ (hK _ _ _ h)
  · obtain ⟨b, ob, rfl, hr⟩ := hb.at h0
    refine wpList_append_bears h hg ho u_bytes hi0 hz0 hz1 hz2 (by simp [Value.cells]) (by decide) hs (ad := ⟨b, ob, none⟩) (m := l.length) (c := c) (news := cellsV l) hx (by rw [length_cellsV, Nat.mul_one]) (addr_cells hr) (oneCell_cellsV _) (by unfold maxLen; omega) (by omega) ?_
    intro a' c' w' h'
    rw [Nat.zero_add] at h' ⊢
    exact hK a' c' w' h'

/-- What a call answers. -/
structure Told5 where
  kd : Int
  lk : Int
  sz : Int
  i : Int
  b : List UInt8
  e : Int
abbrev told5V (t : Told5) : Value := .agg #[.int .i64 t.kd, .int .i64 t.lk, .int .i64 t.sz, .int .i64 t.i, strV t.b, .int .i64 t.e]
abbrev told5Obj (b : Nat) (t : Told5) : Assn := Assn.obj b (.cells #[.int .i64 t.kd, .int .i64 t.lk, .int .i64 t.sz, .int .i64 t.i, strV t.b, .int .i64 t.e] 42 (0, 0))
def told0 (e : Int) : Told5 := ⟨0, 0, 0, 0, [], e⟩
def FvM.does (C : FvM) (kk : Nat) (who at' n : Int) (b : List UInt8) : Told5 × FvM := match kk with
  | 0 => (⟨0, 0, 0, (C.make n).1, [], (C.make n).2.1⟩, (C.make n).2.2)
  | 1 => (⟨(C.stat who).2.kind, (C.stat who).2.links, (C.stat who).2.data.length, 0, [], (C.stat who).1⟩, C)
  | 2 => (⟨0, 0, 0, 0, (C.read who at' n).2, (C.read who at' n).1⟩, C)
  | 3 | 4 | 5 => (told0 (C.write who at' b).1, (C.write who at' b).2)
  | 6 => (told0 (C.cut who n).1, (C.cut who n).2)
  | 7 => (told0 (C.link who n).1, (C.link who n).2)
  | _ => (told0 0, C)

set_option maxRecDepth 100000 in
set_option maxHeartbeats 2000000 in
theorem does5_any {f s p len g : Nat} {d : DiskM} {A C : FvM} {R : Assn} {w : World} (h : Bears w (fvA f s p d len g true A C * R)) (kd who at' n : Int)
    (hkd : -9223372036854775808 ≤ kd ∧ kd ≤ 9223372036854775807) (hat : at' ≤ 9223372036854775807) (hn : n ≤ 9223372036854775807) {b : List UInt8} {ad : Option Addr} {bn cap : Nat} (hb : R.Tells (fun w => BytesIn w (.slice ad bn cap) b)) (hbl : b.length ≤ 140737488355328)
    {kk : Nat} (hkk : kk < 10) (hkv : (if kd < 0 then (-(kd + 1)) % 10 else kd % 10) = (kk : Int)) {t : Told5} {C' : FvM} (hs : C.does kk who at' n b = (t, C')) :
    Calls Tryz.prog 14 #[.pointer (some ⟨f, 0, none⟩), .agg #[.int .i64 kd, .int .i64 who, .int .i64 at', .int .i64 n, .slice ad bn cap]] w fun e w' => e = .returned (told5V t) ∧ Bears w' (fvA f s p d len g true A C' * R) := by
  have h1 := h.alloc (.cells #[.int .i64 kd, .int .i64 who, .int .i64 at', .int .i64 n, .slice ad bn cap] 38)
  have h2 := h1.alloc (.cells #[.int .i64 0, .int .i64 0, .int .i64 0, .int .i64 0, .string ⟨#[]⟩, .int .i64 0] 42)
  have h3 := h2.zeroRow (e := 5) (size := 1)
  have Hkv := Lib.hid hkv
  clear hkv
  have hsz : ∀ (w : World) o, (w.alloc o).heap.size = w.heap.size + 1 := fun w o => Array.size_push _
  simp only [hsz] at h3
  have Hsz := Lib.hid hsz
  clear hsz
  go_enter Tryz.func14, Tryz.ntmps14
  go_wp2_with (at_builtin; go_loud (refine wpList_append_rowC h3 rfl rfl rfl rfl (hb _ h3.right.right.right.right) hbl ?_); intro oa oc w4 h4; have hoc := h4.rowForm; have h5 := h4.alloc (.cells #[.int .i64 0, .int .i64 0, .int .i64 0, .int .i64 0, .string ⟨#[]⟩, .int .i64 0] 42); have q0 := cell_of_obj h5.pull4.obj 0; have q1 := cell_of_obj h5.pull4.obj 1; have q2 := cell_of_obj h5.pull4.obj 2; have q3 := cell_of_obj h5.pull4.obj 3; have q4 := cell_of_obj h5.pull4.obj 4; simp only [List.getElem?_toArray, List.getElem?_cons_zero, List.getElem?_cons_succ] at q0 q1 q2 q3 q4)
  refine (kind5_any kd 10 _ hkd (by omega)).mono ?_
  rintro e w5 ⟨rfl, rfl⟩
  rw [Hkv.out]
  have h6 := h5.pull4.right.pull4.pull3.bufRow.pull3.pull3
  obtain ⟨RR, hRR⟩ : ∃ RR, Assn.obj (w.heap.size + 1) (.cells #[.int .i64 0, .int .i64 0, .int .i64 0, .int .i64 0, .string ⟨#[]⟩, .int .i64 0] 42 (0, 0)) * R = RR := ⟨_, rfl⟩
  rw [hRR] at h6
  have HRR := Lib.hid hRR
  have h6 : Bears _ (fvA f s p d len g true A C * (told5Obj w4.heap.size (told0 0) * (bufA (.slice oa bn oc) b * RR))) := h6
  have tb : (told5Obj w4.heap.size (told0 0) * (bufA (.slice oa bn oc) b * RR)).Tells (fun w => BytesIn w (.slice oa bn oc) b) := buf_tells.right
  obtain ⟨_, _, eoc, hoc, _⟩ := hoc
  simp only [Value.slice.injEq] at eoc
  obtain ⟨-, -, rfl⟩ := eoc
  have hbn : bn ≤ 140737488355328 := by rw [h6.pull3.bufLen]; exact hbl
  clear hRR h h1 h2 h3 h4 h5
  generalize w4.heap.size = tc at *
  go_upto_block 0 with (fail)
  go_cut [7] (fun v wr => Bears wr (fvA f s p d len g true A C' * (told5Obj tc t * (bufA (.slice oa bn oc) b * RR))))
  case first =>
    match kk, hkk, hs with
    | 0, _, hs =>
      unfold FvM.does at hs
      simp only [Prod.mk.injEq] at hs
      obtain ⟨rfl, rfl⟩ := hs
      go_wp2_with fail
      refine (fv_make h6 n).mono ?_
      rintro e w7 ⟨rfl, h8⟩
      have c3 := cell_of_obj h8.pull2.obj 3
      have f3 := frozen_of_obj h8.pull2.obj 3
      have c5 := cell_of_obj h8.pull2.obj 5
      have f5 := frozen_of_obj h8.pull2.obj 5
      simp only [List.getElem?_toArray, List.getElem?_cons_zero, List.getElem?_cons_succ] at c3 c5
      have h9 := (h8.pull2.setCell (i := 3) (.int .i64 (C.make n).1)).setCell (i := 5) (.int .i64 (C.make n).2.1)
      go_wp2_with fail
      go_meet
      case rel => exact h9.pull2
    | 1, _, hs =>
      unfold FvM.does at hs
      simp only [Prod.mk.injEq] at hs
      obtain ⟨rfl, rfl⟩ := hs
      go_wp2_with fail
      refine (fv_stat h6 who).mono ?_
      rintro e w7 ⟨rfl, h8⟩
      have c0 := cell_of_obj h8.pull2.obj 0
      have f0 := frozen_of_obj h8.pull2.obj 0
      have c1 := cell_of_obj h8.pull2.obj 1
      have f1 := frozen_of_obj h8.pull2.obj 1
      have c2 := cell_of_obj h8.pull2.obj 2
      have f2 := frozen_of_obj h8.pull2.obj 2
      have c5 := cell_of_obj h8.pull2.obj 5
      have f5 := frozen_of_obj h8.pull2.obj 5
      simp only [List.getElem?_toArray, List.getElem?_cons_zero, List.getElem?_cons_succ] at c0 c1 c2 c5
      have h9 := (((h8.pull2.setCell (i := 0) (.int .i64 (C.stat who).2.kind)).setCell (i := 1) (.int .i64 (C.stat who).2.links)).setCell (i := 2) (.int .i64 (C.stat who).2.data.length)).setCell (i := 5) (.int .i64 (C.stat who).1)
      go_wp2_with fail
      go_meet
      case rel => exact h9.pull2
    | 2, _, hs =>
      unfold FvM.does at hs
      simp only [Prod.mk.injEq] at hs
      obtain ⟨rfl, rfl⟩ := hs
      go_wp2_with fail
      refine (fv_read h6 who at' n hat hn).mono ?_
      rintro e w7 ⟨ra, rl, rc, rfl, h8⟩
      have hb8 := buf_tells _ h8
      have hl8 : rl = (C.read who at' n).2.length := h8.bufLen
      have hbig : (C.read who at' n).2.length ≤ 9223372036854775807 := by have := h8.bufMax; unfold maxLen at this; omega
      have h8' := h8.pull3
      have c4 := cell_of_obj h8'.obj 4
      have f4 := frozen_of_obj h8'.obj 4
      have c5 := cell_of_obj h8'.obj 5
      have f5 := frozen_of_obj h8'.obj 5
      simp only [List.getElem?_toArray, List.getElem?_cons_zero, List.getElem?_cons_succ] at c4 c5
      have h9 := (h8'.setCell (i := 4) (strV (C.read who at' n).2)).setCell (i := 5) (.int .i64 (C.read who at' n).1)
      generalize hrd : (C.read who at' n).2 = rb at *
      generalize hre : (C.read who at' n).1 = re at *
      have Hl8 := Lib.hid hl8
      clear hl8 hrd hre
      go_wp2_with (refine wpList_op rfl (exec_convert rfl rfl (run_convert_in hb8)) ?_)
      go_loopw [9] (fun i wr => ∃ j : Nat, j ≤ rl ∧ i = .int .i64 j ∧ ∃ lb : List UInt8, lb.length = rl ∧ Bears wr (bufA (.slice ra rl rc) lb * (told5Obj tc ⟨0, 0, 0, 0, rb, re⟩ * (fvA f s p d len g true A C * (bufA (.slice oa bn oc) b * RR))))) (fun i _ => rl - (intOf i).toNat)
      case atStart => exact ⟨0, by omega, rfl, rb, Hl8.out.symm, h9.pull2⟩
      case round =>
        obtain ⟨j, hj, rfl, lb, hlb, h10⟩ := hrel
        by_cases hlt : j < rl
        · obtain ⟨g', o, rfl, hc, hfz, hset⟩ := h10.bufAt (j := j) (by omega)
          have h11 : Bears (wr.setCell ⟨g', o + j, none⟩ (.int .u8 98)) _ := hset 98
          have hl2 : (lb.set j 98).length = rl := by simpa using hlb
          have hl' : rl ≤ 9223372036854775807 := by rw [Hl8.out]; exact hbig
          generalize lb.getD j 0 = old at hc
          generalize lb.set j 98 = lb2 at h11 hl2
          have Hl2 := Lib.hid hl2
          unfold byteV at hc
          clear hset h10 hl2 hlb h8 h9 h8' hb8 c4 f4 c5 f5
          go_wp2_with fail
          go_roundw
          case rel => exact ⟨j + 1, hlt, by go_num, lb2, Hl2.out, h11⟩
          case measure => simp [intOf]; omega
        · go_wp2_with fail
          go_meet
          case rel => exact h10.right.pull2
    | 3, _, hs | 4, _, hs | 5, _, hs =>
      unfold FvM.does at hs
      simp only [Prod.mk.injEq] at hs
      obtain ⟨rfl, rfl⟩ := hs
      go_wp2_with fail
      refine (fv_write h6 who at' tb hoc (by omega)).mono ?_
      rintro e w7 ⟨rfl, h8⟩
      have c5 := cell_of_obj h8.pull2.obj 5
      have f5 := frozen_of_obj h8.pull2.obj 5
      simp only [List.getElem?_toArray, List.getElem?_cons_zero, List.getElem?_cons_succ] at c5
      have h9 := h8.pull2.setCell (i := 5) (.int .i64 (C.write who at' b).1)
      go_wp2_with fail
      go_meet
      case rel => exact h9.pull2
    | 6, _, hs =>
      unfold FvM.does at hs
      simp only [Prod.mk.injEq] at hs
      obtain ⟨rfl, rfl⟩ := hs
      go_wp2_with fail
      refine (fv_cut h6 who n).mono ?_
      rintro e w7 ⟨rfl, h8⟩
      have c5 := cell_of_obj h8.pull2.obj 5
      have f5 := frozen_of_obj h8.pull2.obj 5
      simp only [List.getElem?_toArray, List.getElem?_cons_zero, List.getElem?_cons_succ] at c5
      have h9 := h8.pull2.setCell (i := 5) (.int .i64 (C.cut who n).1)
      go_wp2_with fail
      go_meet
      case rel => exact h9.pull2
    | 7, _, hs =>
      unfold FvM.does at hs
      simp only [Prod.mk.injEq] at hs
      obtain ⟨rfl, rfl⟩ := hs
      go_wp2_with fail
      refine (fv_link h6 who n).mono ?_
      rintro e w7 ⟨rfl, h8⟩
      have c5 := cell_of_obj h8.pull2.obj 5
      have f5 := frozen_of_obj h8.pull2.obj 5
      simp only [List.getElem?_toArray, List.getElem?_cons_zero, List.getElem?_cons_succ] at c5
      have h9 := h8.pull2.setCell (i := 5) (.int .i64 (C.link who n).1)
      go_wp2_with fail
      go_meet
      case rel => exact h9.pull2
    | 8, _, hs | 9, _, hs =>
      unfold FvM.does at hs
      simp only [Prod.mk.injEq] at hs
      obtain ⟨rfl, rfl⟩ := hs
      go_wp2_with fail
      go_meet
      case rel => exact h6
    | n + 10, h, _ => exact absurd h (by omega)
  case rest =>
    clear h6
    go_wp2_with fail
    go_loopw [10] (fun i wr => ∃ j : Nat, j ≤ bn ∧ i = .int .i64 j ∧ ∃ lo : List UInt8, lo.length = bn ∧ Bears wr (bufA (.slice oa bn oc) lo * (told5Obj tc t * (fvA f s p d len g true A C' * RR)))) (fun i _ => bn - (intOf i).toNat)
    case atStart => exact ⟨0, by omega, rfl, b, hcut.pull3.bufLen.symm, hcut.cast (by ac_rfl)⟩
    case round =>
      clear hcut
      obtain ⟨j, hj, rfl, lo, hlo, h8⟩ := hrel
      by_cases hlt : j < bn
      · obtain ⟨g', o, rfl, hc, hfz, hset⟩ := h8.bufAt (j := j) (by omega)
        have h9 : Bears (wr.setCell ⟨g', o + j, none⟩ (.int .u8 99)) _ := hset 99
        have hl2 : (lo.set j 99).length = bn := by simpa using hlo
        generalize lo.getD j 0 = old at hc
        generalize lo.set j 99 = lo2 at h9 hl2
        have Hl2 := Lib.hid hl2
        unfold byteV at hc
        clear hset h8 hl2 hlo
        go_wp2_with fail
        go_roundw
        case rel => exact ⟨j + 1, hlt, by go_num, lo2, Hl2.out, h9⟩
        case measure => simp [intOf]; omega
      · have d0 := cell_of_obj h8.pull2.obj 0
        have d1 := cell_of_obj h8.pull2.obj 1
        have d2 := cell_of_obj h8.pull2.obj 2
        have d3 := cell_of_obj h8.pull2.obj 3
        have d4 := cell_of_obj h8.pull2.obj 4
        have d5 := cell_of_obj h8.pull2.obj 5
        simp only [List.getElem?_toArray, List.getElem?_cons_zero, List.getElem?_cons_succ] at d0 d1 d2 d3 d4 d5
        have h12 := h8.right.right
        rw [← HRR.out] at h12
        have h13 := h12.pull2
        go_wp2_with (refine wpList_store_obj h13 rfl rfl rfl rfl rfl (by kernel_rfl) (by intro v hv; simp at hv; rcases hv with rfl | rfl | rfl | rfl | rfl | rfl <;> rfl) ?_; intro w14 h14)
        have hr := rangeAt_of_obj h14.obj
        refine bodyPost_ret (results_cell rfl _ rfl (run_loadVar_mid w14 (w.heap.size + 1) 0 42 [.int .i64 t.kd, .int .i64 t.lk, .int .i64 t.sz, .int .i64 t.i, strV t.b, .int .i64 t.e] _ hr Tryz.underlying42 rfl (by kernel_rfl))) rfl ?_
        exact ⟨rfl, h14.right⟩

end Go.Proofs.YtggbnelbnbaoiaaGreat

/- The files as a view, whether a transaction is open or not; no condition. -/
namespace Go.Proofs.YtggbnelbnbaoiaaGreat
open Go.RowKit Go.MapKept

def FvM.writeO (op : Bool) (C : FvM) (n at' : Int) (b : List UInt8) : Int × FvM := if op then C.write n at' b else (30, C)
def FvM.cutO (op : Bool) (C : FvM) (n m : Int) : Int × FvM := if op then C.cut n m else (30, C)
def FvM.linkO (op : Bool) (C : FvM) (n m : Int) : Int × FvM := if op then C.link n m else (30, C)
def FvM.makeO (op : Bool) (C : FvM) (kd : Int) : Int × Int × FvM := if op then C.make kd else (0, 30, C)

section
variable {f s p len g : Nat} {d : DiskM} {op : Bool} {A C : FvM} {R : Assn} {w : World}
theorem fvo_write (h : Bears w (fvA f s p d len g op A C * R)) (n at' : Int) {b : List UInt8} {ad : Option Addr} {bn cap : Nat} (hb : R.Tells (fun w => BytesIn w (.slice ad bn cap) b)) (hcap : bn ≤ cap) (hbn : bn ≤ 4611686018427387904) :
    Calls Tryz.prog 10 #[.pointer (some ⟨f, 0, none⟩), .int .i64 n, .int .i64 at', .slice ad bn cap] w fun e w' => e = .returned (.int .i64 (C.writeO op n at' b).1) ∧ Bears w' (fvA f s p d len g op A (C.writeO op n at' b).2 * R) := by
  cases op with
  | true => exact fv_write h n at' hb hcap hbn
  | false =>
    obtain ⟨F, G, hA, hC, h1⟩ := Bears.fv.1 h
    exact (iwrite_closed h1 n at' _).mono fun e w' ⟨h2, h3⟩ => ⟨h2, h3.toFv hA hC⟩
theorem fvo_cut (h : Bears w (fvA f s p d len g op A C * R)) (n m : Int) :
    Calls Tryz.prog 46 #[.pointer (some ⟨f, 0, none⟩), .int .i64 n, .int .i64 m] w fun e w' => e = .returned (.int .i64 (C.cutO op n m).1) ∧ Bears w' (fvA f s p d len g op A (C.cutO op n m).2 * R) := by
  cases op with
  | true => exact fv_cut h n m
  | false =>
    obtain ⟨F, G, hA, hC, h1⟩ := Bears.fv.1 h
    exact (icut_closed h1 n m).mono fun e w' ⟨h2, h3⟩ => ⟨h2, h3.toFv hA hC⟩
theorem fvo_link (h : Bears w (fvA f s p d len g op A C * R)) (n m : Int) :
    Calls Tryz.prog 47 #[.pointer (some ⟨f, 0, none⟩), .int .i64 n, .int .i64 m] w fun e w' => e = .returned (.int .i64 (C.linkO op n m).1) ∧ Bears w' (fvA f s p d len g op A (C.linkO op n m).2 * R) := by
  cases op with
  | true => exact fv_link h n m
  | false =>
    obtain ⟨F, G, hA, hC, h1⟩ := Bears.fv.1 h
    exact (ilink_closed h1 n m).mono fun e w' ⟨h2, h3⟩ => ⟨h2, h3.toFv hA hC⟩
theorem fvo_make (h : Bears w (fvA f s p d len g op A C * R)) (kd : Int) :
    Calls Tryz.prog 9 #[.pointer (some ⟨f, 0, none⟩), .int .i64 kd] w fun e w' => e = .returned (.tuple #[.int .i64 (C.makeO op kd).1, .int .i64 (C.makeO op kd).2.1]) ∧ Bears w' (fvA f s p d len g op A (C.makeO op kd).2.2 * R) := by
  cases op with
  | true => exact fv_make h kd
  | false =>
    obtain ⟨F, G, hA, hC, h1⟩ := Bears.fv.1 h
    exact (make_closed h1 kd).mono fun e w' ⟨h2, h3⟩ => ⟨h2, h3.toFv hA hC⟩

/-- A transaction ends. -/
theorem fv_commit (h : Bears w (fvA f s p d len g true A C * R)) (hlen : len ≤ 1220) (hf : d.fuse = -1) (hg : g < 4611686018427387904) :
    Calls Tryz.prog 11 #[.pointer (some ⟨s, 0, none⟩)] w fun e w' => ∃ d', e = .returned (.int .i64 0) ∧ d'.fuse = -1 ∧ Bears w' (fvA f s p d' len (g + 1) false C C * R) := by
  obtain ⟨F, G, hA, hC, h1⟩ := Bears.fv.1 h
  have hok := h1.pull2.spOk
  refine (scommit_any h1.pull2 (outL_few hlen (by omega)) hf hg).mono ?_
  rintro e w' ⟨d', rfl, hf2, h2⟩
  exact ⟨d', rfl, hf2, h2.pull2.toFv hC hC⟩

/-- How many inodes are free. -/
def FvM.ifree (C : FvM) : Nat → Nat
  | 0 => 0
  | i + 1 => C.ifree i + ((C.fs i).kind == 0).toNat
theorem FvOn.ifree {len : Nat} {G : Nat → Sec} {C : FvM} (hC : FvOn len G C) : ∀ i, i ≤ 256 → ifreeTo len G i = C.ifree i
  | 0, _ => rfl
  | i + 1, h => by
    obtain ⟨Ls, hF⟩ := hC.on
    unfold ifreeTo FvM.ifree
    rw [hC.ifree i (by omega), hF.ifree (by omega)]
theorem fv_inodes (h : Bears w (fvA f s p d len g op A C * R)) :
    Calls Tryz.prog 16 #[.pointer (some ⟨s, 0, none⟩)] w fun e w' => e = .returned (.int .i64 (C.ifree 256)) ∧ Bears w' (fvA f s p d len g op A C * R) := by
  obtain ⟨F, G, hA, hC, h3⟩ := Bears.fv.1 h
  refine (sinodes_any h3.pull2).mono ?_
  rintro e w' ⟨rfl, h4⟩
  exact ⟨by rw [hC.ifree 256 (Nat.le_refl _)], h4.pull2.toFv hA hC⟩
end

end Go.Proofs.YtggbnelbnbaoiaaGreat

/- The files' statements: a call of the program, whether a transaction is open or not; no condition. -/
namespace Go.Proofs.YtggbnelbnbaoiaaGreat
open Go.RowKit Go.MapKept

def FvM.doesO (op : Bool) (C : FvM) (kk : Nat) (who at' n : Int) (b : List UInt8) : Told5 × FvM := match kk with
  | 0 => (⟨0, 0, 0, (C.makeO op n).1, [], (C.makeO op n).2.1⟩, (C.makeO op n).2.2)
  | 1 => (⟨(C.stat who).2.kind, (C.stat who).2.links, (C.stat who).2.data.length, 0, [], (C.stat who).1⟩, C)
  | 2 => (⟨0, 0, 0, 0, (C.read who at' n).2, (C.read who at' n).1⟩, C)
  | 3 | 4 | 5 => (told0 (C.writeO op who at' b).1, (C.writeO op who at' b).2)
  | 6 => (told0 (C.cutO op who n).1, (C.cutO op who n).2)
  | 7 => (told0 (C.linkO op who n).1, (C.linkO op who n).2)
  | _ => (told0 0, C)

set_option maxRecDepth 100000 in
set_option maxHeartbeats 2000000 in
theorem does5o_any {f s p len g : Nat} {d : DiskM} {op : Bool} {A C : FvM} {R : Assn} {w : World} (h : Bears w (fvA f s p d len g op A C * R)) (kd who at' n : Int)
    (hkd : -9223372036854775808 ≤ kd ∧ kd ≤ 9223372036854775807) (hat : at' ≤ 9223372036854775807) (hn : n ≤ 9223372036854775807) {b : List UInt8} {ad : Option Addr} {bn cap : Nat} (hb : R.Tells (fun w => BytesIn w (.slice ad bn cap) b)) (hbl : b.length ≤ 140737488355328)
    {kk : Nat} (hkk : kk < 10) (hkv : (if kd < 0 then (-(kd + 1)) % 10 else kd % 10) = (kk : Int)) {t : Told5} {C' : FvM} (hs : C.doesO op kk who at' n b = (t, C')) :
    Calls Tryz.prog 14 #[.pointer (some ⟨f, 0, none⟩), .agg #[.int .i64 kd, .int .i64 who, .int .i64 at', .int .i64 n, .slice ad bn cap]] w fun e w' => e = .returned (told5V t) ∧ Bears w' (fvA f s p d len g op A C' * R) := by
  have h1 := h.alloc (.cells #[.int .i64 kd, .int .i64 who, .int .i64 at', .int .i64 n, .slice ad bn cap] 38)
  have h2 := h1.alloc (.cells #[.int .i64 0, .int .i64 0, .int .i64 0, .int .i64 0, .string ⟨#[]⟩, .int .i64 0] 42)
  have h3 := h2.zeroRow (e := 5) (size := 1)
  have Hkv := Lib.hid hkv
  clear hkv
  have hsz : ∀ (w : World) o, (w.alloc o).heap.size = w.heap.size + 1 := fun w o => Array.size_push _
  simp only [hsz] at h3
  have Hsz := Lib.hid hsz
  clear hsz
  go_enter Tryz.func14, Tryz.ntmps14
  go_wp2_with (at_builtin; go_loud (refine wpList_append_rowC h3 rfl rfl rfl rfl (hb _ h3.right.right.right.right) hbl ?_); intro oa oc w4 h4; have hoc := h4.rowForm; have h5 := h4.alloc (.cells #[.int .i64 0, .int .i64 0, .int .i64 0, .int .i64 0, .string ⟨#[]⟩, .int .i64 0] 42); have q0 := cell_of_obj h5.pull4.obj 0; have q1 := cell_of_obj h5.pull4.obj 1; have q2 := cell_of_obj h5.pull4.obj 2; have q3 := cell_of_obj h5.pull4.obj 3; have q4 := cell_of_obj h5.pull4.obj 4; simp only [List.getElem?_toArray, List.getElem?_cons_zero, List.getElem?_cons_succ] at q0 q1 q2 q3 q4)
  refine (kind5_any kd 10 _ hkd (by omega)).mono ?_
  rintro e w5 ⟨rfl, rfl⟩
  rw [Hkv.out]
  have h6 := h5.pull4.right.pull4.pull3.bufRow.pull3.pull3
  obtain ⟨RR, hRR⟩ : ∃ RR, Assn.obj (w.heap.size + 1) (.cells #[.int .i64 0, .int .i64 0, .int .i64 0, .int .i64 0, .string ⟨#[]⟩, .int .i64 0] 42 (0, 0)) * R = RR := ⟨_, rfl⟩
  rw [hRR] at h6
  have HRR := Lib.hid hRR
  have h6 : Bears _ (fvA f s p d len g op A C * (told5Obj w4.heap.size (told0 0) * (bufA (.slice oa bn oc) b * RR))) := h6
  have tb : (told5Obj w4.heap.size (told0 0) * (bufA (.slice oa bn oc) b * RR)).Tells (fun w => BytesIn w (.slice oa bn oc) b) := buf_tells.right
  obtain ⟨_, _, eoc, hoc, _⟩ := hoc
  simp only [Value.slice.injEq] at eoc
  obtain ⟨-, -, rfl⟩ := eoc
  have hbn : bn ≤ 140737488355328 := by rw [h6.pull3.bufLen]; exact hbl
  clear hRR h h1 h2 h3 h4 h5
  generalize w4.heap.size = tc at *
  go_upto_block 0 with (fail)
  go_cut [7] (fun v wr => Bears wr (fvA f s p d len g op A C' * (told5Obj tc t * (bufA (.slice oa bn oc) b * RR))))
  case first =>
    match kk, hkk, hs with
    | 0, _, hs =>
      unfold FvM.doesO at hs
      simp only [Prod.mk.injEq] at hs
      obtain ⟨rfl, rfl⟩ := hs
      go_wp2_with fail
      refine (fvo_make h6 n).mono ?_
      rintro e w7 ⟨rfl, h8⟩
      have c3 := cell_of_obj h8.pull2.obj 3
      have f3 := frozen_of_obj h8.pull2.obj 3
      have c5 := cell_of_obj h8.pull2.obj 5
      have f5 := frozen_of_obj h8.pull2.obj 5
      simp only [List.getElem?_toArray, List.getElem?_cons_zero, List.getElem?_cons_succ] at c3 c5
      have h9 := (h8.pull2.setCell (i := 3) (.int .i64 (C.makeO op n).1)).setCell (i := 5) (.int .i64 (C.makeO op n).2.1)
      go_wp2_with fail
      go_meet
      case rel => exact h9.pull2
    | 1, _, hs =>
      unfold FvM.doesO at hs
      simp only [Prod.mk.injEq] at hs
      obtain ⟨rfl, rfl⟩ := hs
      go_wp2_with fail
      refine (fv_stat h6 who).mono ?_
      rintro e w7 ⟨rfl, h8⟩
      have c0 := cell_of_obj h8.pull2.obj 0
      have f0 := frozen_of_obj h8.pull2.obj 0
      have c1 := cell_of_obj h8.pull2.obj 1
      have f1 := frozen_of_obj h8.pull2.obj 1
      have c2 := cell_of_obj h8.pull2.obj 2
      have f2 := frozen_of_obj h8.pull2.obj 2
      have c5 := cell_of_obj h8.pull2.obj 5
      have f5 := frozen_of_obj h8.pull2.obj 5
      simp only [List.getElem?_toArray, List.getElem?_cons_zero, List.getElem?_cons_succ] at c0 c1 c2 c5
      have h9 := (((h8.pull2.setCell (i := 0) (.int .i64 (C.stat who).2.kind)).setCell (i := 1) (.int .i64 (C.stat who).2.links)).setCell (i := 2) (.int .i64 (C.stat who).2.data.length)).setCell (i := 5) (.int .i64 (C.stat who).1)
      go_wp2_with fail
      go_meet
      case rel => exact h9.pull2
    | 2, _, hs =>
      unfold FvM.doesO at hs
      simp only [Prod.mk.injEq] at hs
      obtain ⟨rfl, rfl⟩ := hs
      go_wp2_with fail
      refine (fv_read h6 who at' n hat hn).mono ?_
      rintro e w7 ⟨ra, rl, rc, rfl, h8⟩
      have hb8 := buf_tells _ h8
      have hl8 : rl = (C.read who at' n).2.length := h8.bufLen
      have hbig : (C.read who at' n).2.length ≤ 9223372036854775807 := by have := h8.bufMax; unfold maxLen at this; omega
      have h8' := h8.pull3
      have c4 := cell_of_obj h8'.obj 4
      have f4 := frozen_of_obj h8'.obj 4
      have c5 := cell_of_obj h8'.obj 5
      have f5 := frozen_of_obj h8'.obj 5
      simp only [List.getElem?_toArray, List.getElem?_cons_zero, List.getElem?_cons_succ] at c4 c5
      have h9 := (h8'.setCell (i := 4) (strV (C.read who at' n).2)).setCell (i := 5) (.int .i64 (C.read who at' n).1)
      generalize hrd : (C.read who at' n).2 = rb at *
      generalize hre : (C.read who at' n).1 = re at *
      have Hl8 := Lib.hid hl8
      clear hl8 hrd hre
      go_wp2_with (refine wpList_op rfl (exec_convert rfl rfl (run_convert_in hb8)) ?_)
      go_loopw [9] (fun i wr => ∃ j : Nat, j ≤ rl ∧ i = .int .i64 j ∧ ∃ lb : List UInt8, lb.length = rl ∧ Bears wr (bufA (.slice ra rl rc) lb * (told5Obj tc ⟨0, 0, 0, 0, rb, re⟩ * (fvA f s p d len g op A C * (bufA (.slice oa bn oc) b * RR))))) (fun i _ => rl - (intOf i).toNat)
      case atStart => exact ⟨0, by omega, rfl, rb, Hl8.out.symm, h9.pull2⟩
      case round =>
        obtain ⟨j, hj, rfl, lb, hlb, h10⟩ := hrel
        by_cases hlt : j < rl
        · obtain ⟨g', o, rfl, hc, hfz, hset⟩ := h10.bufAt (j := j) (by omega)
          have h11 : Bears (wr.setCell ⟨g', o + j, none⟩ (.int .u8 98)) _ := hset 98
          have hl2 : (lb.set j 98).length = rl := by simpa using hlb
          have hl' : rl ≤ 9223372036854775807 := by rw [Hl8.out]; exact hbig
          generalize lb.getD j 0 = old at hc
          generalize lb.set j 98 = lb2 at h11 hl2
          have Hl2 := Lib.hid hl2
          unfold byteV at hc
          clear hset h10 hl2 hlb h8 h9 h8' hb8 c4 f4 c5 f5
          go_wp2_with fail
          go_roundw
          case rel => exact ⟨j + 1, hlt, by go_num, lb2, Hl2.out, h11⟩
          case measure => simp [intOf]; omega
        · go_wp2_with fail
          go_meet
          case rel => exact h10.right.pull2
    | 3, _, hs | 4, _, hs | 5, _, hs =>
      unfold FvM.doesO at hs
      simp only [Prod.mk.injEq] at hs
      obtain ⟨rfl, rfl⟩ := hs
      go_wp2_with fail
      refine (fvo_write h6 who at' tb hoc (by omega)).mono ?_
      rintro e w7 ⟨rfl, h8⟩
      have c5 := cell_of_obj h8.pull2.obj 5
      have f5 := frozen_of_obj h8.pull2.obj 5
      simp only [List.getElem?_toArray, List.getElem?_cons_zero, List.getElem?_cons_succ] at c5
      have h9 := h8.pull2.setCell (i := 5) (.int .i64 (C.writeO op who at' b).1)
      go_wp2_with fail
      go_meet
      case rel => exact h9.pull2
    | 6, _, hs =>
      unfold FvM.doesO at hs
      simp only [Prod.mk.injEq] at hs
      obtain ⟨rfl, rfl⟩ := hs
      go_wp2_with fail
      refine (fvo_cut h6 who n).mono ?_
      rintro e w7 ⟨rfl, h8⟩
      have c5 := cell_of_obj h8.pull2.obj 5
      have f5 := frozen_of_obj h8.pull2.obj 5
      simp only [List.getElem?_toArray, List.getElem?_cons_zero, List.getElem?_cons_succ] at c5
      have h9 := h8.pull2.setCell (i := 5) (.int .i64 (C.cutO op who n).1)
      go_wp2_with fail
      go_meet
      case rel => exact h9.pull2
    | 7, _, hs =>
      unfold FvM.doesO at hs
      simp only [Prod.mk.injEq] at hs
      obtain ⟨rfl, rfl⟩ := hs
      go_wp2_with fail
      refine (fvo_link h6 who n).mono ?_
      rintro e w7 ⟨rfl, h8⟩
      have c5 := cell_of_obj h8.pull2.obj 5
      have f5 := frozen_of_obj h8.pull2.obj 5
      simp only [List.getElem?_toArray, List.getElem?_cons_zero, List.getElem?_cons_succ] at c5
      have h9 := h8.pull2.setCell (i := 5) (.int .i64 (C.linkO op who n).1)
      go_wp2_with fail
      go_meet
      case rel => exact h9.pull2
    | 8, _, hs | 9, _, hs =>
      unfold FvM.doesO at hs
      simp only [Prod.mk.injEq] at hs
      obtain ⟨rfl, rfl⟩ := hs
      go_wp2_with fail
      go_meet
      case rel => exact h6
    | n + 10, h, _ => exact absurd h (by omega)
  case rest =>
    clear h6
    go_wp2_with fail
    go_loopw [10] (fun i wr => ∃ j : Nat, j ≤ bn ∧ i = .int .i64 j ∧ ∃ lo : List UInt8, lo.length = bn ∧ Bears wr (bufA (.slice oa bn oc) lo * (told5Obj tc t * (fvA f s p d len g op A C' * RR)))) (fun i _ => bn - (intOf i).toNat)
    case atStart => exact ⟨0, by omega, rfl, b, hcut.pull3.bufLen.symm, hcut.cast (by ac_rfl)⟩
    case round =>
      clear hcut
      obtain ⟨j, hj, rfl, lo, hlo, h8⟩ := hrel
      by_cases hlt : j < bn
      · obtain ⟨g', o, rfl, hc, hfz, hset⟩ := h8.bufAt (j := j) (by omega)
        have h9 : Bears (wr.setCell ⟨g', o + j, none⟩ (.int .u8 99)) _ := hset 99
        have hl2 : (lo.set j 99).length = bn := by simpa using hlo
        generalize lo.getD j 0 = old at hc
        generalize lo.set j 99 = lo2 at h9 hl2
        have Hl2 := Lib.hid hl2
        unfold byteV at hc
        clear hset h8 hl2 hlo
        go_wp2_with fail
        go_roundw
        case rel => exact ⟨j + 1, hlt, by go_num, lo2, Hl2.out, h9⟩
        case measure => simp [intOf]; omega
      · have d0 := cell_of_obj h8.pull2.obj 0
        have d1 := cell_of_obj h8.pull2.obj 1
        have d2 := cell_of_obj h8.pull2.obj 2
        have d3 := cell_of_obj h8.pull2.obj 3
        have d4 := cell_of_obj h8.pull2.obj 4
        have d5 := cell_of_obj h8.pull2.obj 5
        simp only [List.getElem?_toArray, List.getElem?_cons_zero, List.getElem?_cons_succ] at d0 d1 d2 d3 d4 d5
        have h12 := h8.right.right
        rw [← HRR.out] at h12
        have h13 := h12.pull2
        go_wp2_with (refine wpList_store_obj h13 rfl rfl rfl rfl rfl (by kernel_rfl) (by intro v hv; simp at hv; rcases hv with rfl | rfl | rfl | rfl | rfl | rfl <;> rfl) ?_; intro w14 h14)
        have hr := rangeAt_of_obj h14.obj
        refine bodyPost_ret (results_cell rfl _ rfl (run_loadVar_mid w14 (w.heap.size + 1) 0 42 [.int .i64 t.kd, .int .i64 t.lk, .int .i64 t.sz, .int .i64 t.i, strV t.b, .int .i64 t.e] _ hr Tryz.underlying42 rfl (by kernel_rfl))) rfl ?_
        exact ⟨rfl, h14.right⟩

end Go.Proofs.YtggbnelbnbaoiaaGreat
