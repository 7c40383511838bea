/- Texts of this claim, put together: IW2, Region2, IW3, IW4, IW5, IW6, IW7; no condition. -/
import Derived.Test.YtggbnelbnbaoiaaGreatM92d9220f21

set_option linter.unusedSimpArgs false
set_option linter.unusedVariables false

/- Walks of the files' functions, part 2: blocks, Cost, put; no condition. -/
namespace Go.Proofs.YtggbnelbnbaoiaaGreat
open Go.RowKit Go.MapKept

def nBlk (size : Nat) : Nat := (size + 63) / 64
set_option maxHeartbeats 400000 in
theorem blocks_any (n : Nat) (w : World) (hn : n < 4611686018427387904) :
    Calls Tryz.prog 55 #[.int .i64 n] w fun e w' => e = .returned (.int .i64 (nBlk n)) ∧ w = w' := by
  have q : ((n : Int) + 63).tdiv 64 = ((nBlk n : Nat) : Int) := by rw [Int.tdiv_eq_ediv_of_nonneg (by omega)]; unfold nBlk; omega
  have q2 : ((n : Int) + 63) / 64 = ((nBlk n : Nat) : Int) := by unfold nBlk; omega
  have q3 : ((n : Int) + 64 - 1) / 64 = ((nBlk n : Nat) : Int) := by unfold nBlk; omega
  generalize nBlk n = b at q q2 q3
  go_enter Tryz.func55, Tryz.ntmps55
  go_wp2
  go_ret
  refine ⟨?_, rfl⟩
  first | rfl | exact congrArg (fun x => Ending.returned (.int .i64 x)) q2 | exact congrArg (fun x => Ending.returned (.int .i64 x)) q3

/-- What so many bytes cost. -/
def costI (n : Int) : Int := if n < 0 ∨ 16384 < n then 0 else (costN (nBlk n.toNat) : Int)
set_option maxHeartbeats 800000 in
theorem cost_any (n : Int) (w : World) (hn : -9223372036854775808 ≤ n ∧ n ≤ 9223372036854775807) :
    Calls Tryz.prog 44 #[.int .i64 n] w fun e w' => e = .returned (.int .i64 (costI n)) ∧ w = w' := by
  by_cases h0 : n < 0
  · have e1 : costI n = 0 := by unfold costI; rw [if_pos (.inl h0)]
    have d0 : decide (n < 0) = true := decide_eq_true h0
    rw [e1]
    clear e1
    go_enter Tryz.func44, Tryz.ntmps44
    go_wp2
    go_ret
    exact ⟨rfl, rfl⟩
  · have d0 : decide (n < 0) = false := decide_eq_false h0
    by_cases h1 : 16384 < n
    · have e1 : costI n = 0 := by unfold costI; rw [if_pos (.inr h1)]
      have d1 : decide (n > 16384) = true := decide_eq_true h1
      rw [e1]
      clear e1
      go_enter Tryz.func44, Tryz.ntmps44
      go_wp2
      go_ret
      exact ⟨rfl, rfl⟩
    · have d1 : decide (n > 16384) = false := decide_eq_false h1
      obtain ⟨m, rfl⟩ : ∃ m : Nat, n = (m : Int) := ⟨n.toNat, by omega⟩
      have e1 : costI (m : Int) = (costN (nBlk m) : Int) := by unfold costI; rw [if_neg (by omega), Int.toNat_natCast]
      rw [e1]
      have hb : nBlk m ≤ 256 := by unfold nBlk; omega
      have hbl := fun w => blocks_any m w (by omega)
      obtain ⟨b, hbb⟩ : ∃ b, nBlk m = b := ⟨_, rfl⟩
      rw [hbb] at hb hbl ⊢
      have Hbl := Lib.hid hbl
      clear e1 hbb hbl h1 h0 hn
      by_cases h36 : 36 < b
      · have e2 : (costN b : Int) = (b : Int) + 2 + ((b : Int) - 36 + 32 - 1) / 32 := by
          unfold costN nIn; rw [if_pos (by omega), if_pos h36]; omega
        have q : ((b : Int) - 36 + 32 - 1).tdiv 32 = ((b : Int) - 36 + 32 - 1) / 32 := Int.tdiv_eq_ediv_of_nonneg (by omega)
        have d2 : decide ((b : Int) > 36) = true := decide_eq_true (by omega)
        rw [e2]
        clear e2
        go_enter Tryz.func44, Tryz.ntmps44
        go_wp2_with fail
        refine (Hbl.out _).mono ?_
        rintro e w' ⟨rfl, rfl⟩
        go_wp2
        go_ret
        exact ⟨rfl, rfl⟩
      · have d2 : decide ((b : Int) > 36) = false := decide_eq_false (by omega)
        by_cases h4 : 4 < b
        · have e2 : (costN b : Int) = (b : Int) + 1 := by
            unfold costN; rw [if_pos h4, if_neg h36]; omega
          have d3 : decide ((b : Int) > 4) = true := decide_eq_true (by omega)
          rw [e2]
          clear e2
          go_enter Tryz.func44, Tryz.ntmps44
          go_wp2_with fail
          refine (Hbl.out _).mono ?_
          rintro e w' ⟨rfl, rfl⟩
          go_wp2
          go_ret
          exact ⟨rfl, rfl⟩
        · have e2 : (costN b : Int) = (b : Int) := by
            unfold costN; rw [if_neg h4, if_neg h36]; omega
          have d3 : decide ((b : Int) > 4) = false := decide_eq_false (by omega)
          rw [e2]
          clear e2
          go_enter Tryz.func44, Tryz.ntmps44
          go_wp2_with fail
          refine (Hbl.out _).mono ?_
          rintro e w' ⟨rfl, rfl⟩
          go_wp2
          go_ret
          exact ⟨rfl, rfl⟩

abbrev nodeC (x : NodeM) : List Value := [.int .i64 x.kind, .int .i64 x.links, .int .i64 x.size, .int .i64 x.d0, .int .i64 x.d1, .int .i64 x.d2, .int .i64 x.d3, .int .i64 x.near, .int .i64 x.wide]
abbrev nodeV (x : NodeM) : Value := .agg #[.int .i64 x.kind, .int .i64 x.links, .int .i64 x.size, .int .i64 x.d0, .int .i64 x.d1, .int .i64 x.d2, .int .i64 x.d3, .int .i64 x.near, .int .i64 x.wide]
abbrev nodeObj (b : Nat) (x : NodeM) : Assn := Assn.obj b (.cells #[.int .i64 x.kind, .int .i64 x.links, .int .i64 x.size, .int .i64 x.d0, .int .i64 x.d1, .int .i64 x.d2, .int .i64 x.d3, .int .i64 x.near, .int .i64 x.wide] 94 (0, 0))

theorem Bears.objBuf {w : World} {g : Nat} {l : List UInt8} {R : Assn} (h : Bears w (Assn.obj g (.cells (cellsV l).toArray 5 (0, 0)) * R)) (hm : l.length ≤ maxLen) : Bears w (bufA (.slice (some ⟨g, 0, none⟩) l.length l.length) l * R) := by
  refine Bears.bufRow ?_
  obtain ⟨F, K, H, ⟨h1, rfl⟩, hR, hd, rfl⟩ := h
  exact ⟨_, _, H, ⟨⟨by simp, .inr ⟨g, l.length, _, rfl, Nat.zero_le _, h1, Nat.le_refl _, hm, by simp, by rw [List.take_of_length_le (by simp)]⟩⟩, rfl⟩, hR, fun b hb hb2 => hd b (by simp only [Value.ownBlock, Option.some.injEq] at hb; exact hb.symm) hb2, rfl⟩

/-- What put has laid, as far as j of the four blocks. -/
def encP (x : NodeM) (z : List UInt8) : Nat → List UInt8
  | 0 => lay2 (lay2 (lay2 (z.set 0 (UInt8.ofNat x.kind)) 1 x.links) 3 (x.size / 65536)) 5 x.size
  | j + 1 => lay2 (encP x z j) (7 + 2 * j) (x.dir j)
theorem encP_length (x : NodeM) (z : List UInt8) : ∀ j, (encP x z j).length = z.length
  | 0 => by simp [encP, lay2_length]
  | j + 1 => by simp [encP, lay2_length, encP_length x z j]
theorem encP_all (x : NodeM) : lay2 (lay2 (encP x (List.replicate 32 0) 4) 15 x.near) 17 x.wide = encB x := rfl

set_option maxRecDepth 100000 in
set_option maxHeartbeats 4000000 in
theorem put_any {f s p len g : Nat} {k : List Nat} {d : DiskM} {F G : Nat → Sec} {R : Assn} {w : World} (h : Bears w (filesObj f s * (spA s p d len g k true F G * R))) (n : Nat) (hn : n < 256) (x : NodeM) (hx : x.Fits) :
    Calls Tryz.prog 53 #[.pointer (some ⟨f, 0, none⟩), .int .i64 n, nodeV x] w fun e w' => e = .returned (.int .i64 0) ∧ Bears w' (filesObj f s * (spA s p d len g (iSec len n :: k) true F (siN len G n (encB x)).2 * R)) := by
  have hmk : ∀ w, (Instr.makeSlice 22 (.int .i64 32) (.int .i64 32)).run Tryz.prog w = .ok (.slice (some ⟨w.heap.size, 0, none⟩) 32 32) (w.alloc (.cells (cellsV (List.replicate 32 0)).toArray 5)) := fun _ => by kernel_rfl
  have hix0 : ∀ w, (Instr.index 92 (.agg #[.int .i64 x.d0, .int .i64 x.d1, .int .i64 x.d2, .int .i64 x.d3]) (.int .i64 0)).run Tryz.prog w = .ok (.int .i64 x.d0) w := fun _ => by kernel_rfl
  have hix1 : ∀ w, (Instr.index 92 (.agg #[.int .i64 x.d0, .int .i64 x.d1, .int .i64 x.d2, .int .i64 x.d3]) (.int .i64 1)).run Tryz.prog w = .ok (.int .i64 x.d1) w := fun _ => by kernel_rfl
  have hix2 : ∀ w, (Instr.index 92 (.agg #[.int .i64 x.d0, .int .i64 x.d1, .int .i64 x.d2, .int .i64 x.d3]) (.int .i64 2)).run Tryz.prog w = .ok (.int .i64 x.d2) w := fun _ => by kernel_rfl
  have hix3 : ∀ w, (Instr.index 92 (.agg #[.int .i64 x.d0, .int .i64 x.d1, .int .i64 x.d2, .int .i64 x.d3]) (.int .i64 3)).run Tryz.prog w = .ok (.int .i64 x.d3) w := fun _ => by kernel_rfl
  have henc := encP_all x
  have hz : (List.replicate 32 (0 : UInt8)).length = 32 := by simp
  have hbx := h.alloc (.cells #[.int .i64 x.kind, .int .i64 x.links, .int .i64 x.size, .int .i64 x.d0, .int .i64 x.d1, .int .i64 x.d2, .int .i64 x.d3, .int .i64 x.near, .int .i64 x.wide] 94)
  generalize List.replicate 32 (0 : UInt8) = z at hmk henc hz
  have hb0 := hbx.alloc (.cells (cellsV z).toArray 5)
  have hsz : ∀ (w : World) o, (w.alloc o).heap.size = w.heap.size + 1 := fun w o => Array.size_push _
  rw [hsz] at hb0
  have hb1 := hb0.objBuf (by rw [hz]; decide)
  rw [hz] at hb1
  obtain ⟨g0, o0, e0, s0, sf0, sset⟩ := hb1.bufAt (j := 0) (by rw [hz]; decide)
  simp only [Option.some.injEq, Addr.mk.injEq, and_true] at e0
  obtain ⟨rfl, rfl⟩ := e0
  have hb2 := sset (UInt8.ofNat x.kind)
  have hk256 : UInt8.ofNat x.kind = UInt8.ofNat x.kind := rfl
  rw [show byteV (UInt8.ofNat x.kind) = .int .u8 (x.kind : Int) by unfold byteV; rw [UInt8.toNat_ofNat_of_lt' (by show x.kind < 256; exact hx.kind)]] at hb2
  simp only [Nat.zero_add] at s0 sf0 hb2
  have c0 := cell_of_obj hb0.pull2.obj 0
  simp only [List.getElem?_toArray, List.getElem?_cons_zero, List.getElem?_cons_succ] at c0
  have Henc := Lib.hid henc
  have Hz := Lib.hid hz
  have hf1 := hx.kind
  have hf2 := hx.links
  have hf3 := hx.size
  have hf4 := hx.d0
  have hf5 := hx.d1
  have hf6 := hx.d2
  have hf7 := hx.d3
  have hf8 := hx.near
  have hf9 := hx.wide
  have w8 : IntKind.u8.wrap (x.kind : Int) = (x.kind : Int) := IntWalk.u8_in _ (by omega)
  have w9 : (x.kind : Int) % 256 = (x.kind : Int) := by omega
  have ec : cellsV (z.set 0 (UInt8.ofNat x.kind)) = (cellsV z).set 0 (.int .u8 (x.kind : Int)) := by
    unfold cellsV
    rw [List.map_set]
    congr 1
    unfold byteV
    rw [UInt8.toNat_ofNat_of_lt' (by show x.kind < 256; exact hx.kind)]
  have hbA := hbx.alloc (.cells (cellsV (z.set 0 (UInt8.ofNat x.kind))).toArray 5)
  rw [hsz] at hbA
  have hbB := hbA.objBuf (by rw [List.length_set, hz]; decide)
  rw [List.length_set, hz, ec] at hbB
  have HbB := Lib.hid hbB
  unfold byteV at s0
  generalize (z.getD 0 0).toNat = old at s0
  have c1 := cell_of_obj hbB.pull2.obj 1
  simp only [List.getElem?_toArray, List.getElem?_cons_zero, List.getElem?_cons_succ] at c1
  clear henc hz hx hb0 hb1 sset hbx h hb2 hk256 hbA hbB ec
  go_enter Tryz.func53, Tryz.ntmps53
  go_wp2_with fail
  have hB := HbB.out
  refine (lay_any hB 1 x.links (by simp [Hz.out]) (by simp [Hz.out]) (by omega)).mono ?_
  rintro e w1 ⟨rfl, hB⟩
  clear c0 c1 s0 sf0 HbB
  have c2 := cell_of_obj hB.pull2.obj 2
  simp only [List.getElem?_toArray, List.getElem?_cons_zero, List.getElem?_cons_succ] at c2
  go_wp2_with fail
  rw [show (x.size : Int) / 65536 = ((x.size / 65536 : Nat) : Int) by omega]
  refine (lay_any hB 3 (x.size / 65536) (by simp [lay2_length, Hz.out]) (by simp [lay2_length, Hz.out]) (by omega)).mono ?_
  rintro e w2 ⟨rfl, hB⟩
  clear c2
  have c2 := cell_of_obj hB.pull2.obj 2
  simp only [List.getElem?_toArray, List.getElem?_cons_zero, List.getElem?_cons_succ] at c2
  go_wp2_with fail
  refine (lay_any hB 5 x.size (by simp [lay2_length, Hz.out]) (by simp [lay2_length, Hz.out]) (by omega)).mono ?_
  rintro e w3 ⟨rfl, hB⟩
  clear c2
  have hB : Bears w3 (bufA (.slice (some ⟨w.heap.size + 1, 0, none⟩) 32 32) (encP x z 0) * _) := hB
  have c3 := cell_of_obj hB.pull2.obj 3
  simp only [List.getElem?_toArray, List.getElem?_cons_zero, List.getElem?_cons_succ] at c3
  have c4 := cell_of_obj hB.pull2.obj 4
  simp only [List.getElem?_toArray, List.getElem?_cons_zero, List.getElem?_cons_succ] at c4
  have c5 := cell_of_obj hB.pull2.obj 5
  simp only [List.getElem?_toArray, List.getElem?_cons_zero, List.getElem?_cons_succ] at c5
  have c6 := cell_of_obj hB.pull2.obj 6
  simp only [List.getElem?_toArray, List.getElem?_cons_zero, List.getElem?_cons_succ] at c6
  go_wp2_with fail
  clear c3 c4 c5 c6
  go_loopw [31] (fun iv wr => ∃ j : Nat, j ≤ 4 ∧ iv = .int .i64 j ∧ Bears wr (bufA (.slice (some ⟨w.heap.size + 1, 0, none⟩) 32 32) (encP x z j) * (nodeObj w.heap.size x * (filesObj f s * (spA s p d len g k true F G * R))))) (fun iv _ => 4 - (intOf iv).toNat)
  case atStart => exact ⟨0, by omega, rfl, hB⟩
  case round =>
    clear hB
    obtain ⟨j, hj, rfl, hB⟩ := hrel
    obtain rfl | rfl | rfl | rfl | rfl : j = 0 ∨ j = 1 ∨ j = 2 ∨ j = 3 ∨ j = 4 := by omega
    · go_wp2_with fail
      refine (lay_any hB 7 x.d0 (by rw [encP_length, Hz.out]; decide) (by rw [encP_length, Hz.out]; decide) (by omega)).mono ?_
      rintro e w4 ⟨rfl, hB⟩
      go_wp2_with fail
      go_roundw
      case rel => exact ⟨1, by omega, by go_num, hB⟩
      case measure => simp [intOf]
    · go_wp2_with fail
      refine (lay_any hB 9 x.d1 (by rw [encP_length, Hz.out]; decide) (by rw [encP_length, Hz.out]; decide) (by omega)).mono ?_
      rintro e w4 ⟨rfl, hB⟩
      go_wp2_with fail
      go_roundw
      case rel => exact ⟨2, by omega, by go_num, hB⟩
      case measure => simp [intOf]
    · go_wp2_with fail
      refine (lay_any hB 11 x.d2 (by rw [encP_length, Hz.out]; decide) (by rw [encP_length, Hz.out]; decide) (by omega)).mono ?_
      rintro e w4 ⟨rfl, hB⟩
      go_wp2_with fail
      go_roundw
      case rel => exact ⟨3, by omega, by go_num, hB⟩
      case measure => simp [intOf]
    · go_wp2_with fail
      refine (lay_any hB 13 x.d3 (by rw [encP_length, Hz.out]; decide) (by rw [encP_length, Hz.out]; decide) (by omega)).mono ?_
      rintro e w4 ⟨rfl, hB⟩
      go_wp2_with fail
      go_roundw
      case rel => exact ⟨4, by omega, by go_num, hB⟩
      case measure => simp [intOf]
    · have c7 := cell_of_obj hB.pull2.obj 7
      simp only [List.getElem?_toArray, List.getElem?_cons_zero, List.getElem?_cons_succ] at c7
      go_wp2_with fail
      refine (lay_any hB 15 x.near (by rw [encP_length, Hz.out]; decide) (by rw [encP_length, Hz.out]; decide) (by omega)).mono ?_
      rintro e w4 ⟨rfl, hB⟩
      clear c7
      have c8 := cell_of_obj hB.pull2.obj 8
      simp only [List.getElem?_toArray, List.getElem?_cons_zero, List.getElem?_cons_succ] at c8
      go_wp2_with fail
      refine (lay_any hB 17 x.wide (by rw [lay2_length, encP_length, Hz.out]; decide) (by rw [lay2_length, encP_length, Hz.out]; decide) (by omega)).mono ?_
      rintro e w5 ⟨rfl, hB⟩
      rw [Henc.out] at hB
      have cf := files_cell hB.pull3
      clear c8
      go_wp2_with fail
      have hsi := siN_ok (len := len) (m := n) (G := G) (encB_length x)
      refine (setinode_any (hB.pull4 : Bears _ (spA s p d len g k true F G * (bufA (.slice (some ⟨w.heap.size + 1, 0, none⟩) 32 32) (encB x) * _))) n hn buf_tells).mono ?_
      rintro e w6 ⟨rfl, h6⟩
      rw [show (siN len G n (encB x)).1 = 0 from by rw [hsi]]
      clear hsi
      go_wp2_with fail
      go_ret
      exact ⟨rfl, h6.pull3.right.pull2.right.pull2⟩

end Go.Proofs.YtggbnelbnbaoiaaGreat

/- A statement whose order Go leaves open, with two effects that may come in either order: a tree of orders; no condition. -/
namespace Go.Proofs.YtggbnelbnbaoiaaGreat
open Go.RowKit Go.MapKept

/-- A tree of orders. -/
inductive Tr where
  | nil : Tr
  | still : Nat → Tr → Tr
  | eff : Nat → Tr → Tr
  | both : Nat → Tr → Nat → Tr → Tr

section
variable {P : Program} {ops : Array Oper} {Q : Exit → Act → World → Prop} {S : World → Prop} {md : Region.Mode} {C : Act → World → Prop}

def schedT (md : Region.Mode) (ops : Array Oper) (fin : Array Bool) : Tr → Nat → Array Bool → Bool
  | .nil, f, listed => f == 0 && decide (listed = fin)
  | .still i r, f, listed => (Region.ready md ops listed).contains i && Region.free md ops listed i && decide (0 < f) && decide (i < ops.size) && schedT md ops fin r (f - 1) (listed.setIfInBounds i true)
  | .eff i r, f, listed => decide (Region.ready md ops listed = [i]) && decide (0 < f) && decide (i < ops.size) && schedT md ops fin r (f - 1) (listed.setIfInBounds i true)
  | .both i r j q, f, listed => decide (Region.ready md ops listed = [i, j]) && decide (0 < f) && decide (i < ops.size) && decide (j < ops.size) && schedT md ops fin r (f - 1) (listed.setIfInBounds i true) && schedT md ops fin q (f - 1) (listed.setIfInBounds j true)

def wpEff (P : Program) (ops : Array Oper) (Q : Exit → Act → World → Prop) (S : World → Prop) (i : Nat) (K : Act → World → Prop) (a : Act) (w : World) : Prop :=
  ∃ o, ops[i]? = some o ∧ Region.wanted o (yielded ops a.tmps) = true ∧ o.wp P a w (fun a' w' => S w' ∧ K a' w') Q
def wpT (P : Program) (ops : Array Oper) (Q : Exit → Act → World → Prop) (S : World → Prop) (C : Act → World → Prop) : Tr → Act → World → Prop
  | .nil, a, w => C a w
  | .still i r, a, w => ∃ o v, ops[i]? = some o ∧ YieldsIf P ops S o v a ∧ wpT P ops Q S C r (a.put o.dst v) w
  | .eff i r, a, w => wpEff P ops Q S i (wpT P ops Q S C r) a w
  | .both i r j q, a, w => wpEff P ops Q S i (wpT P ops Q S C r) a w ∧ wpEff P ops Q S j (wpT P ops Q S C q) a w

theorem wpPh_of_wpT (hs : Region.noSelect ops = true) (hQ : ∀ c a w, ¬ Q (.panic c) a w) {fin : Array Bool} (hfin : ∀ j ∈ Region.ready md ops fin, ops.size ≤ j) :
    ∀ (t : Tr) (f : Nat) (listed : Array Bool) (a : Act) (w : World), schedT md ops fin t f listed = true → S w → wpT P ops Q S C t a w → wpPh P md ops Q S ops.size (fun listed' a' w' => listed' = fin ∧ C a' w') f listed a w
  | .nil, f, listed, a, w, hB, _, h => by
    simp only [schedT, Bool.and_eq_true, beq_iff_eq, decide_eq_true_eq] at hB
    obtain ⟨rfl, hl⟩ := hB
    exact ⟨hl, h⟩
  | .still i r, f, listed, a, w, hB, hS, h => by
    obtain ⟨o, v, hi, hy, h⟩ := h
    simp only [schedT, Bool.and_eq_true, decide_eq_true_eq] at hB
    obtain ⟨⟨⟨⟨h1, h2⟩, h3⟩, h4⟩, h5⟩ := hB
    obtain ⟨f, rfl⟩ : ∃ f', f = f' + 1 := ⟨f - 1, by omega⟩
    exact wpPh_first hi (Region.noSelect_spec hs) hQ phaseB_all h4 (fun listed' a' w' h => by rw [h.1]; exact hfin) _ listed a w (Region.free_spec hi h2) (by simpa using h1) hy hS
      (wpPh_of_wpT hs hQ hfin r _ _ _ _ (by simpa using h5) hS h)
  | .eff i r, f, listed, a, w, hB, hS, h => by
    obtain ⟨o, hi, hg, h⟩ := h
    simp only [schedT, Bool.and_eq_true, decide_eq_true_eq] at hB
    obtain ⟨⟨⟨hc, h3⟩, h4⟩, h5⟩ := hB
    obtain ⟨f, rfl⟩ : ∃ f', f = f' + 1 := ⟨f - 1, by omega⟩
    refine ⟨by rw [hc]; simp, fun j hj => ?_⟩
    rw [hc] at hj
    have : j = i := by simpa using hj
    subst this
    refine ⟨h4, ?_⟩
    unfold wpOp
    simp only [hi, hg, if_true]
    exact .inl (Oper.wp_mono (fun a' w' h' => ⟨h'.1, wpPh_of_wpT hs hQ hfin r _ _ _ _ (by simpa using h5) h'.1 h'.2⟩) h)
  | .both i r k q, f, listed, a, w, hB, hS, h => by
    obtain ⟨⟨o, hi, hg, h⟩, ⟨o2, hi2, hg2, h2⟩⟩ := h
    simp only [schedT, Bool.and_eq_true, decide_eq_true_eq] at hB
    obtain ⟨⟨⟨⟨⟨hc, h3⟩, h4⟩, h4'⟩, h5⟩, h6⟩ := hB
    obtain ⟨f, rfl⟩ : ∃ f', f = f' + 1 := ⟨f - 1, by omega⟩
    refine ⟨by rw [hc]; simp, fun j hj => ?_⟩
    rw [hc] at hj
    have : j = i ∨ j = k := by simpa using hj
    rcases this with rfl | rfl
    · refine ⟨h4, ?_⟩
      unfold wpOp
      simp only [hi, hg, if_true]
      exact .inl (Oper.wp_mono (fun a' w' h' => ⟨h'.1, wpPh_of_wpT hs hQ hfin r _ _ _ _ (by simpa using h5) h'.1 h'.2⟩) h)
    · refine ⟨h4', ?_⟩
      unfold wpOp
      simp only [hi2, hg2, if_true]
      exact .inl (Oper.wp_mono (fun a' w' h' => ⟨h'.1, wpPh_of_wpT hs hQ hfin q _ _ _ _ (by simpa using h6) h'.1 h'.2⟩) h2)

def planT (ops : Array Oper) (t : Tr) : Bool :=
  Region.noSelect ops && schedT .any ops (Array.replicate ops.size true) t ops.size (Array.replicate ops.size false) && (Region.ready .any ops (Array.replicate ops.size true)).isEmpty

/-- A region that draws its order, walked along a tree of orders. -/
theorem wp_region_T {id : Nat} {l : List Oper} {a : Act} {w : World} (S : World → Prop) (t : Tr) (hm : P.follows .mixedOrders = true)
    (hB : planT l.toArray t = true) (hS : S w.drew) (h : wpT P l.toArray (NoPanic Q) S (Q .normal) t a w.drew) : (Code.region id l.toArray true).wp P Q a w := by
  unfold planT at hB
  simp only [Bool.and_eq_true] at hB
  obtain ⟨⟨hn, hB⟩, hr⟩ := hB
  have hempty : Region.ready .any l.toArray (Array.replicate l.toArray.size true) = [] := by simpa using hr
  refine wp_region_noPanic (wp_region_any hm ?_)
  have H := wpPh_of_wpT (md := .any) (Q := NoPanic Q) hn (fun c a w h => h) (fin := Array.replicate l.toArray.size true) (fun j hj => by rw [hempty] at hj; cases hj) t _ _ a w.drew hB hS h
  have := wpAny_of_wpPh (md := .any) (Q := NoPanic Q) (g := 0) (fun listed' a' w' hc => by
    obtain ⟨rfl, hc⟩ := hc
    exact ⟨hempty, hc⟩) _ _ _ _ H
  exact this

section
variable {r q : Tr} {a : Act} {w : World} {o : Oper} {v : Value} {i j : Nat}
theorem wpT_nil (h : C a w) : wpT P ops Q S C .nil a w := h
theorem wpT_yield (hi : ops[i]? = some o) (hg : o.guard = none) (hy : ∀ w, S w → (execOp a.eval o).run P w = .ok (.value v) w) (h : wpT P ops Q S C r (a.put o.dst v) w) : wpT P ops Q S C (.still i r) a w :=
  ⟨o, v, hi, .inl ⟨by simp [Region.wanted, hg], hy⟩, h⟩
theorem wpT_eff (hi : ops[i]? = some o) (hg : o.guard = none) (h : o.wp P a w (fun a' w' => S w' ∧ wpT P ops Q S C r a' w') Q) : wpT P ops Q S C (.eff i r) a w :=
  ⟨o, hi, by simp [Region.wanted, hg], h⟩
theorem wpT_both (h1 : wpT P ops Q S C (.eff i r) a w) (h2 : wpT P ops Q S C (.eff j q) a w) : wpT P ops Q S C (.both i r j q) a w := ⟨h1, h2⟩
end

theorem wp_alloc_z {a : Act} {w : World} {o : Oper} {K : Act → World → Prop} {t : TypeId} {z : Value} (hop : o.op = .alloc t) (hz : (zeroValue t).run P w = .ok z w)
    (hK : K (a.put o.dst (.pointer (some ⟨w.heap.size, 0, none⟩))) (w.alloc (.cells z.cells t))) : o.wp P a w K Q := by
  unfold Oper.wp
  simp [execOp, hop, Instr.alloc, newVar, newRow, newObj, hz, Result.andThen, Sem.run]
  exact hK
theorem wp_store_obj {R : Assn} {a : Act} {w : World} {o : Oper} {K : Act → World → Prop} {t t' : TypeId} {x y : Operand} {b : Nat} {c cs : Array Value} (h : Bears w (Assn.obj b (.cells c t' (0, 0)) * R)) (hop : o.op = .store t x y) (hx : a.eval x = .pointer (some ⟨b, 0, none⟩)) (hy : a.eval y = .agg cs)
    (hs : cs.size = c.size) (hi : (P.info? t).map (·.size) = some c.size) (h1 : ∀ v ∈ cs.toList, v.oneCell' = true)
    (hK : ∀ w', Bears w' (Assn.obj b (.cells cs t' (0, 0)) * R) → K (a.put o.dst undef) w') : o.wp P a w K Q := by
  have hb := h.obj
  refine wp_store_mid t x y hop b 0 cs hx hy (fun j hj => ⟨?_, frozen_of_obj hb _⟩) (by rw [hi, hs]) (Array.all_eq_true_iff_forall_mem.2 (fun v hv => h1 v (Array.mem_toList_iff.2 hv))) (hK _ ?_)
  · rw [cell_of_obj hb]; simp; omega
  · have := h.setCells 0 cs.toList
    rwa [setList_all _ _ (by simpa using hs)] at this
end

end Go.Proofs.YtggbnelbnbaoiaaGreat

/- Walks of the files' functions, part 3: get; no condition. -/
namespace Go.Proofs.YtggbnelbnbaoiaaGreat
open Go.RowKit Go.MapKept

theorem results_cell_tmp {fn : Func} {p t : Tmp} {ty : TypeId} (h : fn.results = #[.cell p ty, .tmp t]) (tmps : Array Value) {P : Program} {w : World} {a : Addr} {v : Value} (hp : tmps.getD p undef = .pointer (some a)) (hv : (loadVar ty a).run P w = .ok v w) :
    (results fn tmps).run P w = .ok (.tuple #[v, tmps.getD t undef]) w := by
  have hp' : tmps[p]?.getD undef = .pointer (some a) := by simpa using hp
  simp only [results, h]
  simp [hp', asAddr, hv]

abbrev zeroNode : NodeM := ⟨0, 0, 0, 0, 0, 0, 0, 0, 0⟩

/-- The blocks that the inode names itself, as far as j of them are read. -/
def dirP (b : List UInt8) (x : NodeM) : Nat → NodeM
  | 0 => x
  | j + 1 => (dirP b x j).setDir j (two b (7 + 2 * j))
theorem node_zeros {w : World} {a : Nat} {R : Assn} (h : Bears w (nodeObj a zeroNode * R)) :
    w.cell? ⟨a, 0, none⟩ = some (.int .i64 0) ∧ w.cell? ⟨a, 1, none⟩ = some (.int .i64 0) ∧ w.cell? ⟨a, 2, none⟩ = some (.int .i64 0) ∧ w.cell? ⟨a, 3, none⟩ = some (.int .i64 0) ∧ w.cell? ⟨a, 4, none⟩ = some (.int .i64 0) ∧
      w.cell? ⟨a, 5, none⟩ = some (.int .i64 0) ∧ w.cell? ⟨a, 6, none⟩ = some (.int .i64 0) ∧ w.cell? ⟨a, 7, none⟩ = some (.int .i64 0) ∧ w.cell? ⟨a, 8, none⟩ = some (.int .i64 0) ∧ ∀ i, w.frozen? ⟨a, i, none⟩ = false :=
  ⟨cell_of_obj h.obj 0, cell_of_obj h.obj 1, cell_of_obj h.obj 2, cell_of_obj h.obj 3, cell_of_obj h.obj 4, cell_of_obj h.obj 5, cell_of_obj h.obj 6, cell_of_obj h.obj 7, cell_of_obj h.obj 8, fun i => frozen_of_obj h.obj i⟩
theorem sinode_buf {s p len g : Nat} {k : List Nat} {d : DiskM} {op : Bool} {F G : Nat → Sec} {R : Assn} {w : World} (h : Bears w (spA s p d len g k op F G * R)) (m : Nat) (hm : m < 256) {b : List UInt8} (hb : inodeB len G m = b) :
    Calls Tryz.prog 85 #[.pointer (some ⟨s, 0, none⟩), .int .i64 m] w fun e w' => ∃ ad cap, e = .returned (.tuple #[.slice ad 32 cap, .int .i64 0]) ∧ Bears w' (bufA (.slice ad 32 cap) b * (spA s p d len g k op F G * R)) := by
  subst hb
  have h64 := h.sp64 (iSec len m)
  refine (sinode_any h m hm rfl).mono ?_
  rintro e w' ⟨b, cap, rfl, h4⟩
  have hat : iAt m = 0 ∨ iAt m = 32 := by unfold iAt; omega
  refine ⟨_, _, rfl, ?_⟩
  simp only [inodeB]
  generalize iAt m = a at hat
  have hl : (((G (iSec len m)).drop a).take 32).length = 32 := by simp [h64]; omega
  have e1 : (G (iSec len m)).take a ++ ((G (iSec len m)).drop a).take 32 ++ ((G (iSec len m)).drop a).drop 32 = G (iSec len m) := by
    rw [List.append_assoc, List.take_append_drop, List.take_append_drop]
  have hla : ((G (iSec len m)).take a).length = a := by simp [h64]; omega
  have h5 := Bears.bufPart (pre := (G (iSec len m)).take a) (l := ((G (iSec len m)).drop a).take 32) (post := ((G (iSec len m)).drop a).drop 32) (c := 32) (n := 64) (by rw [e1]; exact h4) (by rw [e1, h64])
  rw [hl, hla] at h5
  exact h5

set_option maxRecDepth 100000 in
set_option maxHeartbeats 4000000 in
theorem get_any {f s p len g : Nat} {k : List Nat} {d : DiskM} {op : Bool} {F G : Nat → Sec} {R : Assn} {w : World} (h : Bears w (filesObj f s * (spA s p d len g k op F G * R))) (n : Nat) (hn : n < 256) (hk : (dec (inodeB len G n)).kind ≠ 0) :
    Calls Tryz.prog 54 #[.pointer (some ⟨f, 0, none⟩), .int .i64 n] w fun e w' => e = .returned (.tuple #[nodeV (dec (inodeB len G n)), .int .i64 0]) ∧ Bears w' (filesObj f s * (spA s p d len g k op F G * R)) := by
  obtain ⟨b, hb⟩ : ∃ b, inodeB len G n = b := ⟨_, rfl⟩
  have hbl : b.length = 32 := by
    have := h.pull2.sp64 (iSec len n)
    rw [← hb]; unfold inodeB
    have hat : iAt n = 0 ∨ iAt n = 32 := by unfold iAt; omega
    simp [this]; omega
  rw [hb] at hk ⊢
  have hA := h.alloc (.cells #[.int .i64 0, .int .i64 0, .int .i64 0, .int .i64 0, .int .i64 0, .int .i64 0, .int .i64 0, .int .i64 0, .int .i64 0] 94)
  have hin := sinode_buf (hA.pull3) n hn hb
  have cf := files_cell hA.pull2
  have ht : ∀ (i : Nat) (w' : World) (ad : Option Addr) (cap : Nat) (Q : Assn), Bears w' (bufA (.slice ad 32 cap) b * Q) → i < 31 → Calls Tryz.prog 109 #[.slice ad 32 cap, .int .i64 i] w' fun e w'' => e = .returned (.int .i64 (two b i)) ∧ Bears w'' (bufA (.slice ad 32 cap) b * Q) := fun i w' ad cap Q h hi => two_any h buf_tells i (by rw [hbl]; omega) (by rw [hbl]; decide)
  have hk2 : ((b.getD 0 0).toNat : Int) ≠ 0 := fun e => hk (by unfold dec; simp only; omega)
  obtain ⟨kd, hkd⟩ : ∃ kd, (b.getD 0 0).toNat = kd := ⟨_, rfl⟩
  have hkd256 : kd < 256 := by rw [← hkd]; exact (b.getD 0 0).toNat_lt
  rw [hkd] at hk2
  have hcell : ∀ (w' : World) (ad : Option Addr) (cap : Nat) (Q : Assn), Bears w' (bufA (.slice ad 32 cap) b * Q) → ∃ g o, ad = some ⟨g, o, none⟩ ∧ w'.cell? ⟨g, o, none⟩ = some (.int .u8 kd) := fun w' ad cap Q h => by
    obtain ⟨g, o, e, c, _⟩ := h.bufAt (j := 0) (by rw [hbl]; decide)
    unfold byteV at c
    rw [hkd] at c
    exact ⟨g, o, e, c⟩
  have hdec : dec b = ⟨kd, two b 1, two b 3 * 65536 + two b 5, two b 7, two b 9, two b 11, two b 13, two b 15, two b 17⟩ := by unfold dec; rw [hkd]
  have l1 := two_lt b 1
  have l3 := two_lt b 3
  have l5 := two_lt b 5
  have l15 := two_lt b 15
  have l17 := two_lt b 17
  have hor := or_i64 _ _ l3 l5
  have Hbl := Lib.hid hbl
  have Hin := Lib.hid hin
  have Ht := Lib.hid ht
  have Hcell := Lib.hid hcell
  rw [hdec]
  have Hdec := Lib.hid hdec
  clear hb hin hbl hk hA ht hcell hkd hdec
  generalize h1e : two b 1 = t1 at l1 ⊢
  generalize h3e : two b 3 = t3 at l3 hor ⊢
  generalize h5e : two b 5 = t5 at l5 hor ⊢
  generalize h15e : two b 15 = t15 at l15 ⊢
  generalize h17e : two b 17 = t17 at l17 ⊢
  have ht1 : ∀ (w' : World) (ad : Option Addr) (cap : Nat) (Q : Assn), Bears w' (bufA (.slice ad 32 cap) b * Q) → Calls Tryz.prog 109 #[.slice ad 32 cap, .int .i64 1] w' fun e w'' => e = .returned (.int .i64 t1) ∧ Bears w'' (bufA (.slice ad 32 cap) b * Q) := fun w' ad cap Q h => by
    have := Ht.out 1 w' ad cap Q h (by decide)
    rwa [h1e] at this
  have Ht1 := Lib.hid ht1
  clear ht1
  have ht3 : ∀ (w' : World) (ad : Option Addr) (cap : Nat) (Q : Assn), Bears w' (bufA (.slice ad 32 cap) b * Q) → Calls Tryz.prog 109 #[.slice ad 32 cap, .int .i64 3] w' fun e w'' => e = .returned (.int .i64 t3) ∧ Bears w'' (bufA (.slice ad 32 cap) b * Q) := fun w' ad cap Q h => by
    have := Ht.out 3 w' ad cap Q h (by decide)
    rwa [h3e] at this
  have Ht3 := Lib.hid ht3
  clear ht3
  have ht5 : ∀ (w' : World) (ad : Option Addr) (cap : Nat) (Q : Assn), Bears w' (bufA (.slice ad 32 cap) b * Q) → Calls Tryz.prog 109 #[.slice ad 32 cap, .int .i64 5] w' fun e w'' => e = .returned (.int .i64 t5) ∧ Bears w'' (bufA (.slice ad 32 cap) b * Q) := fun w' ad cap Q h => by
    have := Ht.out 5 w' ad cap Q h (by decide)
    rwa [h5e] at this
  have Ht5 := Lib.hid ht5
  clear ht5
  have ht15 : ∀ (w' : World) (ad : Option Addr) (cap : Nat) (Q : Assn), Bears w' (bufA (.slice ad 32 cap) b * Q) → Calls Tryz.prog 109 #[.slice ad 32 cap, .int .i64 15] w' fun e w'' => e = .returned (.int .i64 t15) ∧ Bears w'' (bufA (.slice ad 32 cap) b * Q) := fun w' ad cap Q h => by
    have := Ht.out 15 w' ad cap Q h (by decide)
    rwa [h15e] at this
  have Ht15 := Lib.hid ht15
  clear ht15
  have ht17 : ∀ (w' : World) (ad : Option Addr) (cap : Nat) (Q : Assn), Bears w' (bufA (.slice ad 32 cap) b * Q) → Calls Tryz.prog 109 #[.slice ad 32 cap, .int .i64 17] w' fun e w'' => e = .returned (.int .i64 t17) ∧ Bears w'' (bufA (.slice ad 32 cap) b * Q) := fun w' ad cap Q h => by
    have := Ht.out 17 w' ad cap Q h (by decide)
    rwa [h17e] at this
  have Ht17 := Lib.hid ht17
  clear ht17
  have hz0 : ∀ w, (zeroValue 94).run Tryz.prog w = .ok (.agg #[.int .i64 0, .int .i64 0, .int .i64 0, .int .i64 0, .int .i64 0, .int .i64 0, .int .i64 0, .int .i64 0, .int .i64 0]) w := fun w => by kernel_rfl
  have Hz0 := Lib.hid hz0
  clear hz0
  clear h1e h3e h5e h15e h17e
  have wk : IntKind.i64.wrap (kd : Int) = (kd : Int) := IntWalk.i64_in _ (by omega)
  have w16 : IntKind.i64.wrap ((t3 : Int) * 65536) = (t3 : Int) * 65536 := IntWalk.i64_in _ (by omega)
  have hne : ((kd : Int) == 0) = false := by rw [beq_eq_false_iff_ne]; exact hk2
  go_enter Tryz.func54, Tryz.ntmps54
  go_wp2_with fail
  refine Hin.out.mono ?_
  rintro e w1 ⟨ad, cap, rfl, h1⟩
  obtain ⟨ig, io, rfl, cb⟩ := Hcell.out _ _ _ _ h1
  generalize w.heap.size = rb at h1
  go_upto_region 6 with (fail)
  go_cut [8] (fun v wr => ∃ xb, v = .pointer (some ⟨xb, 0, none⟩) ∧ Bears wr (nodeObj xb ⟨kd, t1, t3 * 65536 + t5, 0, 0, 0, 0, t15, t17⟩ * (bufA (.slice (some ⟨ig, io, none⟩) 32 cap) b * (spA s p d len g k op F G * (nodeObj rb zeroNode * (filesObj f s * R))))))
  case first =>
    have hB := h1
    have i0 : (0 : Int) < 32 := by decide
    refine wp_region_T (fun w' => ∃ Q, Bears w' (bufA (.slice (some ⟨ig, io, none⟩) 32 cap) b * Q)) (.still 0 (.still 1 (.still 2 (.still 3 (.still 4 (.still 6 (.still 9 (.still 12 (.still 14 (.both 5 (.both 7 (.still 8 (.both 10 (.still 11 (.both 13 (.both 15 (.still 16 (.eff 17 (.eff 18 .nil))) 17 (.eff 15 (.still 16 (.eff 18 .nil)))) 17 (.eff 13 (.eff 15 (.still 16 (.eff 18 .nil)))))) 17 (.eff 10 (.still 11 (.eff 13 (.eff 15 (.still 16 (.eff 18 .nil)))))))) 17 (.eff 7 (.still 8 (.eff 10 (.still 11 (.eff 13 (.eff 15 (.still 16 (.eff 18 .nil))))))))) 17 (.eff 5 (.eff 7 (.still 8 (.eff 10 (.still 11 (.eff 13 (.eff 15 (.still 16 (.eff 18 .nil))))))))))))))))))) (by kernel_rfl) (by kernel_rfl) ⟨_, h1.drew⟩ ?_
    have hB := h1.drew
    clear h1
    refine wpT_yield (v := ?_) rfl rfl (fun w' hS => ?_) ?_
    rotate_left
    · (go_simp; try with_reducible rfl)
    simp only [Act.put, List.setIfInBounds_toArray, List.set_cons_zero, List.set_cons_succ]
    refine wpT_yield (v := ?_) rfl rfl (fun w' hS => ?_) ?_
    rotate_left
    · (go_simp; try with_reducible rfl)
    simp only [Act.put, List.setIfInBounds_toArray, List.set_cons_zero, List.set_cons_succ]
    refine wpT_yield (v := ?_) rfl rfl (fun w' hS => ?_) ?_
    rotate_left
    · (obtain ⟨_, hS⟩ := hS; obtain ⟨ig', io', ei, cbb⟩ := Hcell.out _ _ _ _ hS; cases ei; go_simp; try with_reducible rfl)
    simp only [Act.put, List.setIfInBounds_toArray, List.set_cons_zero, List.set_cons_succ]
    refine wpT_yield (v := ?_) rfl rfl (fun w' hS => ?_) ?_
    rotate_left
    · (go_simp; try with_reducible rfl)
    simp only [Act.put, List.setIfInBounds_toArray, List.set_cons_zero, List.set_cons_succ]
    refine wpT_yield (v := ?_) rfl rfl (fun w' hS => ?_) ?_
    rotate_left
    · (go_simp; try with_reducible rfl)
    simp only [Act.put, List.setIfInBounds_toArray, List.set_cons_zero, List.set_cons_succ]
    refine wpT_yield (v := ?_) rfl rfl (fun w' hS => ?_) ?_
    rotate_left
    · (go_simp; try with_reducible rfl)
    simp only [Act.put, List.setIfInBounds_toArray, List.set_cons_zero, List.set_cons_succ]
    refine wpT_yield (v := ?_) rfl rfl (fun w' hS => ?_) ?_
    rotate_left
    · (go_simp; try with_reducible rfl)
    simp only [Act.put, List.setIfInBounds_toArray, List.set_cons_zero, List.set_cons_succ]
    refine wpT_yield (v := ?_) rfl rfl (fun w' hS => ?_) ?_
    rotate_left
    · (go_simp; try with_reducible rfl)
    simp only [Act.put, List.setIfInBounds_toArray, List.set_cons_zero, List.set_cons_succ]
    refine wpT_yield (v := ?_) rfl rfl (fun w' hS => ?_) ?_
    rotate_left
    · (go_simp; try with_reducible rfl)
    simp only [Act.put, List.setIfInBounds_toArray, List.set_cons_zero, List.set_cons_succ]
    refine wpT_both ?_ ?_
    rotate_left
    · refine wpT_eff rfl rfl (wp_alloc_z rfl (Hz0.out _) ?_)
      have hB := (hB.alloc (.cells #[.int .i64 0, .int .i64 0, .int .i64 0, .int .i64 0, .int .i64 0, .int .i64 0, .int .i64 0, .int .i64 0, .int .i64 0] 94)).pull2
      refine ⟨⟨_, hB⟩, ?_⟩
      simp only [Act.put, List.setIfInBounds_toArray, List.set_cons_zero, List.set_cons_succ]
      refine wpT_eff rfl rfl ?_
      go_simp
      refine (Ht1.out _ _ _ _ hB).mono ?_
      rintro e wB ⟨rfl, hB⟩
      refine ⟨⟨_, hB⟩, ?_⟩
      refine wpT_eff rfl rfl ?_
      go_simp
      refine (Ht3.out _ _ _ _ hB).mono ?_
      rintro e wB ⟨rfl, hB⟩
      refine ⟨⟨_, hB⟩, ?_⟩
      refine wpT_yield (v := ?_) rfl rfl (fun w' hS => ?_) ?_
      rotate_left
      · (go_simp; try with_reducible rfl)
      simp only [Act.put, List.setIfInBounds_toArray, List.set_cons_zero, List.set_cons_succ]
      refine wpT_eff rfl rfl ?_
      go_simp
      refine (Ht5.out _ _ _ _ hB).mono ?_
      rintro e wB ⟨rfl, hB⟩
      refine ⟨⟨_, hB⟩, ?_⟩
      refine wpT_yield (v := ?_) rfl rfl (fun w' hS => ?_) ?_
      rotate_left
      · (go_simp; try with_reducible rfl)
      simp only [Act.put, List.setIfInBounds_toArray, List.set_cons_zero, List.set_cons_succ]
      refine wpT_eff rfl rfl ?_
      go_simp
      refine (Ht15.out _ _ _ _ hB).mono ?_
      rintro e wB ⟨rfl, hB⟩
      refine ⟨⟨_, hB⟩, ?_⟩
      refine wpT_eff rfl rfl ?_
      go_simp
      refine (Ht17.out _ _ _ _ hB).mono ?_
      rintro e wB ⟨rfl, hB⟩
      refine ⟨⟨_, hB⟩, ?_⟩
      refine wpT_yield (v := ?_) rfl rfl (fun w' hS => ?_) ?_
      rotate_left
      · (go_simp; try with_reducible rfl)
      simp only [Act.put, List.setIfInBounds_toArray, List.set_cons_zero, List.set_cons_succ]
      refine wpT_eff rfl rfl (wp_store_obj hB.pull2 rfl rfl rfl rfl (by kernel_rfl) (by intro v hv; simp at hv; rcases hv with rfl | rfl | rfl | rfl | rfl | rfl | rfl | rfl | rfl <;> rfl) ?_)
      intro wB hB
      refine ⟨⟨_, hB.pull2⟩, ?_⟩
      simp only [Act.put, List.setIfInBounds_toArray, List.set_cons_zero, List.set_cons_succ]
      refine wpT_nil ?_
      go_simp
      try go_wp2_with fail
      go_meet
      case rel => exact ⟨_, rfl, hB⟩
    refine wpT_eff rfl rfl ?_
    go_simp
    refine (Ht1.out _ _ _ _ hB).mono ?_
    rintro e wB ⟨rfl, hB⟩
    refine ⟨⟨_, hB⟩, ?_⟩
    refine wpT_both ?_ ?_
    rotate_left
    · refine wpT_eff rfl rfl (wp_alloc_z rfl (Hz0.out _) ?_)
      have hB := (hB.alloc (.cells #[.int .i64 0, .int .i64 0, .int .i64 0, .int .i64 0, .int .i64 0, .int .i64 0, .int .i64 0, .int .i64 0, .int .i64 0] 94)).pull2
      refine ⟨⟨_, hB⟩, ?_⟩
      simp only [Act.put, List.setIfInBounds_toArray, List.set_cons_zero, List.set_cons_succ]
      refine wpT_eff rfl rfl ?_
      go_simp
      refine (Ht3.out _ _ _ _ hB).mono ?_
      rintro e wB ⟨rfl, hB⟩
      refine ⟨⟨_, hB⟩, ?_⟩
      refine wpT_yield (v := ?_) rfl rfl (fun w' hS => ?_) ?_
      rotate_left
      · (go_simp; try with_reducible rfl)
      simp only [Act.put, List.setIfInBounds_toArray, List.set_cons_zero, List.set_cons_succ]
      refine wpT_eff rfl rfl ?_
      go_simp
      refine (Ht5.out _ _ _ _ hB).mono ?_
      rintro e wB ⟨rfl, hB⟩
      refine ⟨⟨_, hB⟩, ?_⟩
      refine wpT_yield (v := ?_) rfl rfl (fun w' hS => ?_) ?_
      rotate_left
      · (go_simp; try with_reducible rfl)
      simp only [Act.put, List.setIfInBounds_toArray, List.set_cons_zero, List.set_cons_succ]
      refine wpT_eff rfl rfl ?_
      go_simp
      refine (Ht15.out _ _ _ _ hB).mono ?_
      rintro e wB ⟨rfl, hB⟩
      refine ⟨⟨_, hB⟩, ?_⟩
      refine wpT_eff rfl rfl ?_
      go_simp
      refine (Ht17.out _ _ _ _ hB).mono ?_
      rintro e wB ⟨rfl, hB⟩
      refine ⟨⟨_, hB⟩, ?_⟩
      refine wpT_yield (v := ?_) rfl rfl (fun w' hS => ?_) ?_
      rotate_left
      · (go_simp; try with_reducible rfl)
      simp only [Act.put, List.setIfInBounds_toArray, List.set_cons_zero, List.set_cons_succ]
      refine wpT_eff rfl rfl (wp_store_obj hB.pull2 rfl rfl rfl rfl (by kernel_rfl) (by intro v hv; simp at hv; rcases hv with rfl | rfl | rfl | rfl | rfl | rfl | rfl | rfl | rfl <;> rfl) ?_)
      intro wB hB
      refine ⟨⟨_, hB.pull2⟩, ?_⟩
      simp only [Act.put, List.setIfInBounds_toArray, List.set_cons_zero, List.set_cons_succ]
      refine wpT_nil ?_
      go_simp
      try go_wp2_with fail
      go_meet
      case rel => exact ⟨_, rfl, hB⟩
    refine wpT_eff rfl rfl ?_
    go_simp
    refine (Ht3.out _ _ _ _ hB).mono ?_
    rintro e wB ⟨rfl, hB⟩
    refine ⟨⟨_, hB⟩, ?_⟩
    refine wpT_yield (v := ?_) rfl rfl (fun w' hS => ?_) ?_
    rotate_left
    · (go_simp; try with_reducible rfl)
    simp only [Act.put, List.setIfInBounds_toArray, List.set_cons_zero, List.set_cons_succ]
    refine wpT_both ?_ ?_
    rotate_left
    · refine wpT_eff rfl rfl (wp_alloc_z rfl (Hz0.out _) ?_)
      have hB := (hB.alloc (.cells #[.int .i64 0, .int .i64 0, .int .i64 0, .int .i64 0, .int .i64 0, .int .i64 0, .int .i64 0, .int .i64 0, .int .i64 0] 94)).pull2
      refine ⟨⟨_, hB⟩, ?_⟩
      simp only [Act.put, List.setIfInBounds_toArray, List.set_cons_zero, List.set_cons_succ]
      refine wpT_eff rfl rfl ?_
      go_simp
      refine (Ht5.out _ _ _ _ hB).mono ?_
      rintro e wB ⟨rfl, hB⟩
      refine ⟨⟨_, hB⟩, ?_⟩
      refine wpT_yield (v := ?_) rfl rfl (fun w' hS => ?_) ?_
      rotate_left
      · (go_simp; try with_reducible rfl)
      simp only [Act.put, List.setIfInBounds_toArray, List.set_cons_zero, List.set_cons_succ]
      refine wpT_eff rfl rfl ?_
      go_simp
      refine (Ht15.out _ _ _ _ hB).mono ?_
      rintro e wB ⟨rfl, hB⟩
      refine ⟨⟨_, hB⟩, ?_⟩
      refine wpT_eff rfl rfl ?_
      go_simp
      refine (Ht17.out _ _ _ _ hB).mono ?_
      rintro e wB ⟨rfl, hB⟩
      refine ⟨⟨_, hB⟩, ?_⟩
      refine wpT_yield (v := ?_) rfl rfl (fun w' hS => ?_) ?_
      rotate_left
      · (go_simp; try with_reducible rfl)
      simp only [Act.put, List.setIfInBounds_toArray, List.set_cons_zero, List.set_cons_succ]
      refine wpT_eff rfl rfl (wp_store_obj hB.pull2 rfl rfl rfl rfl (by kernel_rfl) (by intro v hv; simp at hv; rcases hv with rfl | rfl | rfl | rfl | rfl | rfl | rfl | rfl | rfl <;> rfl) ?_)
      intro wB hB
      refine ⟨⟨_, hB.pull2⟩, ?_⟩
      simp only [Act.put, List.setIfInBounds_toArray, List.set_cons_zero, List.set_cons_succ]
      refine wpT_nil ?_
      go_simp
      try go_wp2_with fail
      go_meet
      case rel => exact ⟨_, rfl, hB⟩
    refine wpT_eff rfl rfl ?_
    go_simp
    refine (Ht5.out _ _ _ _ hB).mono ?_
    rintro e wB ⟨rfl, hB⟩
    refine ⟨⟨_, hB⟩, ?_⟩
    refine wpT_yield (v := ?_) rfl rfl (fun w' hS => ?_) ?_
    rotate_left
    · (go_simp; try with_reducible rfl)
    simp only [Act.put, List.setIfInBounds_toArray, List.set_cons_zero, List.set_cons_succ]
    refine wpT_both ?_ ?_
    rotate_left
    · refine wpT_eff rfl rfl (wp_alloc_z rfl (Hz0.out _) ?_)
      have hB := (hB.alloc (.cells #[.int .i64 0, .int .i64 0, .int .i64 0, .int .i64 0, .int .i64 0, .int .i64 0, .int .i64 0, .int .i64 0, .int .i64 0] 94)).pull2
      refine ⟨⟨_, hB⟩, ?_⟩
      simp only [Act.put, List.setIfInBounds_toArray, List.set_cons_zero, List.set_cons_succ]
      refine wpT_eff rfl rfl ?_
      go_simp
      refine (Ht15.out _ _ _ _ hB).mono ?_
      rintro e wB ⟨rfl, hB⟩
      refine ⟨⟨_, hB⟩, ?_⟩
      refine wpT_eff rfl rfl ?_
      go_simp
      refine (Ht17.out _ _ _ _ hB).mono ?_
      rintro e wB ⟨rfl, hB⟩
      refine ⟨⟨_, hB⟩, ?_⟩
      refine wpT_yield (v := ?_) rfl rfl (fun w' hS => ?_) ?_
      rotate_left
      · (go_simp; try with_reducible rfl)
      simp only [Act.put, List.setIfInBounds_toArray, List.set_cons_zero, List.set_cons_succ]
      refine wpT_eff rfl rfl (wp_store_obj hB.pull2 rfl rfl rfl rfl (by kernel_rfl) (by intro v hv; simp at hv; rcases hv with rfl | rfl | rfl | rfl | rfl | rfl | rfl | rfl | rfl <;> rfl) ?_)
      intro wB hB
      refine ⟨⟨_, hB.pull2⟩, ?_⟩
      simp only [Act.put, List.setIfInBounds_toArray, List.set_cons_zero, List.set_cons_succ]
      refine wpT_nil ?_
      go_simp
      try go_wp2_with fail
      go_meet
      case rel => exact ⟨_, rfl, hB⟩
    refine wpT_eff rfl rfl ?_
    go_simp
    refine (Ht15.out _ _ _ _ hB).mono ?_
    rintro e wB ⟨rfl, hB⟩
    refine ⟨⟨_, hB⟩, ?_⟩
    refine wpT_both ?_ ?_
    rotate_left
    · refine wpT_eff rfl rfl (wp_alloc_z rfl (Hz0.out _) ?_)
      have hB := (hB.alloc (.cells #[.int .i64 0, .int .i64 0, .int .i64 0, .int .i64 0, .int .i64 0, .int .i64 0, .int .i64 0, .int .i64 0, .int .i64 0] 94)).pull2
      refine ⟨⟨_, hB⟩, ?_⟩
      simp only [Act.put, List.setIfInBounds_toArray, List.set_cons_zero, List.set_cons_succ]
      refine wpT_eff rfl rfl ?_
      go_simp
      refine (Ht17.out _ _ _ _ hB).mono ?_
      rintro e wB ⟨rfl, hB⟩
      refine ⟨⟨_, hB⟩, ?_⟩
      refine wpT_yield (v := ?_) rfl rfl (fun w' hS => ?_) ?_
      rotate_left
      · (go_simp; try with_reducible rfl)
      simp only [Act.put, List.setIfInBounds_toArray, List.set_cons_zero, List.set_cons_succ]
      refine wpT_eff rfl rfl (wp_store_obj hB.pull2 rfl rfl rfl rfl (by kernel_rfl) (by intro v hv; simp at hv; rcases hv with rfl | rfl | rfl | rfl | rfl | rfl | rfl | rfl | rfl <;> rfl) ?_)
      intro wB hB
      refine ⟨⟨_, hB.pull2⟩, ?_⟩
      simp only [Act.put, List.setIfInBounds_toArray, List.set_cons_zero, List.set_cons_succ]
      refine wpT_nil ?_
      go_simp
      try go_wp2_with fail
      go_meet
      case rel => exact ⟨_, rfl, hB⟩
    refine wpT_eff rfl rfl ?_
    go_simp
    refine (Ht17.out _ _ _ _ hB).mono ?_
    rintro e wB ⟨rfl, hB⟩
    refine ⟨⟨_, hB⟩, ?_⟩
    refine wpT_yield (v := ?_) rfl rfl (fun w' hS => ?_) ?_
    rotate_left
    · (go_simp; try with_reducible rfl)
    simp only [Act.put, List.setIfInBounds_toArray, List.set_cons_zero, List.set_cons_succ]
    refine wpT_eff rfl rfl (wp_alloc_z rfl (Hz0.out _) ?_)
    have hB := (hB.alloc (.cells #[.int .i64 0, .int .i64 0, .int .i64 0, .int .i64 0, .int .i64 0, .int .i64 0, .int .i64 0, .int .i64 0, .int .i64 0] 94)).pull2
    refine ⟨⟨_, hB⟩, ?_⟩
    simp only [Act.put, List.setIfInBounds_toArray, List.set_cons_zero, List.set_cons_succ]
    refine wpT_eff rfl rfl (wp_store_obj hB.pull2 rfl rfl rfl rfl (by kernel_rfl) (by intro v hv; simp at hv; rcases hv with rfl | rfl | rfl | rfl | rfl | rfl | rfl | rfl | rfl <;> rfl) ?_)
    intro wB hB
    refine ⟨⟨_, hB.pull2⟩, ?_⟩
    simp only [Act.put, List.setIfInBounds_toArray, List.set_cons_zero, List.set_cons_succ]
    refine wpT_nil ?_
    go_simp
    try go_wp2_with fail
    go_meet
    case rel => exact ⟨_, rfl, hB⟩
  case rest =>
    obtain ⟨xb, rfl, h2⟩ := hcut
    clear h1 cb
    have i0 : (0 : Int) < 32 := by decide
    go_wp2_with fail
    go_loopw [51] (fun iv wr => ∃ j : Nat, j ≤ 4 ∧ iv = .int .i64 j ∧ Bears wr (nodeObj xb (dirP b ⟨kd, t1, t3 * 65536 + t5, 0, 0, 0, 0, t15, t17⟩ j) * (bufA (.slice (some ⟨ig, io, none⟩) 32 cap) b * (spA s p d len g k op F G * (nodeObj rb zeroNode * (filesObj f s * R)))))) (fun iv _ => 4 - (intOf iv).toNat)
    case atStart => exact ⟨0, by omega, rfl, h2⟩
    case round =>
      clear h2
      obtain ⟨j, hj, rfl, h3⟩ := hrel
      obtain rfl | rfl | rfl | rfl | rfl : j = 0 ∨ j = 1 ∨ j = 2 ∨ j = 3 ∨ j = 4 := by omega
      · have hB := h3.pull2
        have ht := Ht.out 7 _ _ _ _ hB (by decide)
        rw [show ((7 : Nat) : Int) = 7 from rfl] at ht
        have H := Lib.hid ht
        clear ht
        go_wp2_with fail
        refine H.out.mono ?_
        rintro e w4 ⟨rfl, h4⟩
        have c3 := cell_of_obj h4.pull2.obj 3
        have f3 := frozen_of_obj h4.pull2.obj 3
        simp only [List.getElem?_toArray, List.getElem?_cons_zero, List.getElem?_cons_succ] at c3
        have h5 := h4.pull2.setCell (i := 3) (.int .i64 (two b 7))
        clear h3 hB H h4
        go_wp2_with fail
        go_roundw
        case rel => exact ⟨1, by omega, by go_num, h5⟩
        case measure => simp [intOf]
      · have hB := h3.pull2
        have ht := Ht.out 9 _ _ _ _ hB (by decide)
        rw [show ((9 : Nat) : Int) = 9 from rfl] at ht
        have H := Lib.hid ht
        clear ht
        go_wp2_with fail
        refine H.out.mono ?_
        rintro e w4 ⟨rfl, h4⟩
        have c3 := cell_of_obj h4.pull2.obj 4
        have f3 := frozen_of_obj h4.pull2.obj 4
        simp only [List.getElem?_toArray, List.getElem?_cons_zero, List.getElem?_cons_succ] at c3
        have h5 := h4.pull2.setCell (i := 4) (.int .i64 (two b 9))
        clear h3 hB H h4
        go_wp2_with fail
        go_roundw
        case rel => exact ⟨2, by omega, by go_num, h5⟩
        case measure => simp [intOf]
      · have hB := h3.pull2
        have ht := Ht.out 11 _ _ _ _ hB (by decide)
        rw [show ((11 : Nat) : Int) = 11 from rfl] at ht
        have H := Lib.hid ht
        clear ht
        go_wp2_with fail
        refine H.out.mono ?_
        rintro e w4 ⟨rfl, h4⟩
        have c3 := cell_of_obj h4.pull2.obj 5
        have f3 := frozen_of_obj h4.pull2.obj 5
        simp only [List.getElem?_toArray, List.getElem?_cons_zero, List.getElem?_cons_succ] at c3
        have h5 := h4.pull2.setCell (i := 5) (.int .i64 (two b 11))
        clear h3 hB H h4
        go_wp2_with fail
        go_roundw
        case rel => exact ⟨3, by omega, by go_num, h5⟩
        case measure => simp [intOf]
      · have hB := h3.pull2
        have ht := Ht.out 13 _ _ _ _ hB (by decide)
        rw [show ((13 : Nat) : Int) = 13 from rfl] at ht
        have H := Lib.hid ht
        clear ht
        go_wp2_with fail
        refine H.out.mono ?_
        rintro e w4 ⟨rfl, h4⟩
        have c3 := cell_of_obj h4.pull2.obj 6
        have f3 := frozen_of_obj h4.pull2.obj 6
        simp only [List.getElem?_toArray, List.getElem?_cons_zero, List.getElem?_cons_succ] at c3
        have h5 := h4.pull2.setCell (i := 6) (.int .i64 (two b 13))
        clear h3 hB H h4
        go_wp2_with fail
        go_roundw
        case rel => exact ⟨4, by omega, by go_num, h5⟩
        case measure => simp [intOf]
      · have d0 := cell_of_obj h3.obj 0
        have d1 := cell_of_obj h3.obj 1
        have d2 := cell_of_obj h3.obj 2
        have d3 := cell_of_obj h3.obj 3
        have d4 := cell_of_obj h3.obj 4
        have d5 := cell_of_obj h3.obj 5
        have d6 := cell_of_obj h3.obj 6
        have d7 := cell_of_obj h3.obj 7
        have d8 := cell_of_obj h3.obj 8
        simp only [List.getElem?_toArray, List.getElem?_cons_zero, List.getElem?_cons_succ] at d0 d1 d2 d3 d4 d5 d6 d7 d8
        have h4 := h3.pull4
        go_wp2_with (refine wpList_store_obj h4 rfl rfl rfl rfl rfl (by kernel_rfl) (by intro v hv; simp at hv; rcases hv with rfl | rfl | rfl | rfl | rfl | rfl | rfl | rfl | rfl <;> rfl) ?_; intro w5 h5)
        have hr := rangeAt_of_obj h5.obj
        refine bodyPost_ret (results_cell_tmp rfl _ rfl (run_loadVar_mid w5 rb 0 94 _ _ hr Tryz.underlying94 rfl (by kernel_rfl))) rfl ?_
        exact ⟨by rfl, h5.right.right.right.pull2⟩

end Go.Proofs.YtggbnelbnbaoiaaGreat

/- Walks of the files' functions, part 4: get where there is none; Stat; no condition. -/
namespace Go.Proofs.YtggbnelbnbaoiaaGreat
open Go.RowKit Go.MapKept

theorem build_node (w : World) : (Instr.build 94 #[]).run Tryz.prog w = .ok (.agg #[.int .i64 0, .int .i64 0, .int .i64 0, .int .i64 0, .int .i64 0, .int .i64 0, .int .i64 0, .int .i64 0, .int .i64 0]) w := by kernel_rfl

set_option maxRecDepth 100000 in
set_option maxHeartbeats 1000000 in
theorem get_out {f s p len g : Nat} {k : List Nat} {d : DiskM} {op : Bool} {F G : Nat → Sec} {R : Assn} {w : World} (h : Bears w (filesObj f s * (spA s p d len g k op F G * R))) (n : Int) (hn : n < 0 ∨ 256 ≤ n) :
    Calls Tryz.prog 54 #[.pointer (some ⟨f, 0, none⟩), .int .i64 n] w fun e w' => e = .returned (.tuple #[nodeV zeroNode, .int .i64 50]) ∧ Bears w' (filesObj f s * (spA s p d len g k op F G * R)) := by
  have hA := h.alloc (.cells #[.int .i64 0, .int .i64 0, .int .i64 0, .int .i64 0, .int .i64 0, .int .i64 0, .int .i64 0, .int .i64 0, .int .i64 0] 94)
  have hin := sinode_no hA.pull3 n hn
  have cf := files_cell hA.pull2
  have Hin := Lib.hid hin
  have Hb0 := Lib.hid build_node
  clear hin hn hA
  go_enter Tryz.func54, Tryz.ntmps54
  go_wp2_with fail
  refine Hin.out.mono ?_
  rintro e w1 ⟨rfl, h1⟩
  generalize w.heap.size = rb at h1
  go_wp2_with (first
    | (refine wpList_op rfl (exec_build0 rfl (Hb0.out _)) ?_)
    | (refine wpList_store_obj h1.pull2 rfl rfl rfl rfl rfl (by kernel_rfl) (by intro v hv; simp at hv; rcases hv with rfl | rfl | rfl | rfl | rfl | rfl | rfl | rfl | rfl <;> rfl) ?_; intro w5 h5))
  have hr := rangeAt_of_obj h5.obj
  refine bodyPost_ret (results_cell_tmp rfl _ rfl (run_loadVar_mid w5 rb 0 94 _ _ hr Tryz.underlying94 rfl (by kernel_rfl))) rfl ?_
  exact ⟨by rfl, h5.right.pull2⟩

set_option maxRecDepth 100000 in
set_option maxHeartbeats 1000000 in
theorem get_none {f s p len g : Nat} {k : List Nat} {d : DiskM} {op : Bool} {F G : Nat → Sec} {R : Assn} {w : World} (h : Bears w (filesObj f s * (spA s p d len g k op F G * R))) (n : Nat) (hn : n < 256) (hk : (dec (inodeB len G n)).kind = 0) :
    Calls Tryz.prog 54 #[.pointer (some ⟨f, 0, none⟩), .int .i64 n] w fun e w' => e = .returned (.tuple #[nodeV zeroNode, .int .i64 50]) ∧ Bears w' (filesObj f s * (spA s p d len g k op F G * R)) := by
  obtain ⟨b, hb⟩ : ∃ b, inodeB len G n = b := ⟨_, rfl⟩
  have hbl : b.length = 32 := by
    have := h.pull2.sp64 (iSec len n)
    rw [← hb]; unfold inodeB
    have hat : iAt n = 0 ∨ iAt n = 32 := by unfold iAt; omega
    simp [this]; omega
  rw [hb] at hk
  have hA := h.alloc (.cells #[.int .i64 0, .int .i64 0, .int .i64 0, .int .i64 0, .int .i64 0, .int .i64 0, .int .i64 0, .int .i64 0, .int .i64 0] 94)
  have hin := sinode_buf (hA.pull3) n hn hb
  have cf := files_cell hA.pull2
  have hkd : (b.getD 0 0).toNat = 0 := hk
  have hcell : ∀ (w' : World) (ad : Option Addr) (cap : Nat) (Q : Assn), Bears w' (bufA (.slice ad 32 cap) b * Q) → ∃ g o, ad = some ⟨g, o, none⟩ ∧ w'.cell? ⟨g, o, none⟩ = some (.int .u8 0) := fun w' ad cap Q h => by
    obtain ⟨g, o, e, c, _⟩ := h.bufAt (j := 0) (by rw [hbl]; decide)
    unfold byteV at c
    rw [hkd] at c
    exact ⟨g, o, e, c⟩
  have Hin := Lib.hid hin
  have Hcell := Lib.hid hcell
  have Hb0 := Lib.hid build_node
  clear hb hin hbl hk hA hcell hkd
  go_enter Tryz.func54, Tryz.ntmps54
  go_wp2_with fail
  refine Hin.out.mono ?_
  rintro e w1 ⟨ad, cap, rfl, h1⟩
  obtain ⟨ig, io, rfl, cb⟩ := Hcell.out _ _ _ _ h1
  generalize w.heap.size = rb at h1
  have i0 : (0 : Int) < 32 := by decide
  go_wp2_with (first
    | (refine wpList_op rfl (exec_build0 rfl (Hb0.out _)) ?_)
    | (refine wpList_store_obj h1.pull3 rfl rfl rfl rfl rfl (by kernel_rfl) (by intro v hv; simp at hv; rcases hv with rfl | rfl | rfl | rfl | rfl | rfl | rfl | rfl | rfl <;> rfl) ?_; intro w5 h5))
  have hr := rangeAt_of_obj h5.obj
  refine bodyPost_ret (results_cell_tmp rfl _ rfl (run_loadVar_mid w5 rb 0 94 _ _ hr Tryz.underlying94 rfl (by kernel_rfl))) rfl ?_
  exact ⟨by rfl, h5.right.right.pull2⟩

end Go.Proofs.YtggbnelbnbaoiaaGreat

/- Walks of the files' functions, part 5: block; no condition. -/
namespace Go.Proofs.YtggbnelbnbaoiaaGreat
open Go.RowKit Go.MapKept

/-- A block that is somebody's. -/
structure OwnOk (len : Nat) (G : Nat → Sec) (i : Nat) : Prop where
  lo : firstB len ≤ i
  hi : i < len
  bit : bitN G i = true
theorem OwnOk.chk {len i : Nat} {G : Nat → Sec} (h : OwnOk len G i) : chkN len G i = 0 := chk_used h.lo h.hi h.bit
theorem Core.ownOk {len : Nat} {G : Nat → Sec} {X : Nat → NodeM} {B : Nat → Nat → UInt8} {Ls : Nat → LayM} {E : List Nat} (h : Core len G X B Ls E) {n : Nat} (hn : n < 256) : ∀ i ∈ (Ls n).own, OwnOk len G i :=
  fun i hi => ⟨(h.rng n hn i hi).1, (h.rng n hn i hi).2, (h.bits i (h.rng n hn i hi).1 (h.rng n hn i hi).2).2 (.inl ⟨n, hn, hi⟩)⟩
theorem Core.exOk {len : Nat} {G : Nat → Sec} {X : Nat → NodeM} {B : Nat → Nat → UInt8} {Ls : Nat → LayM} {E : List Nat} (h : Core len G X B Ls E) : ∀ i ∈ E, OwnOk len G i :=
  fun i hi => ⟨(h.eR i hi).1, (h.eR i hi).2, (h.bits i (h.eR i hi).1 (h.eR i hi).2).2 (.inr hi)⟩

set_option maxRecDepth 100000 in
set_option maxHeartbeats 4000000 in
theorem block_any {f s p len g : Nat} {k : List Nat} {d : DiskM} {op : Bool} {F G : Nat → Sec} {R : Assn} {w : World} (h : Bears w (filesObj f s * (spA s p d len g k op F G * R))) {x : NodeM} {L : LayM} (hL : LayOn G x L) (ho : ∀ i ∈ L.own, OwnOk len G i)
    {j : Nat} (hj : j < L.blk.length) {r : Nat} (hr : L.blk.getD j 0 = r) :
    Calls Tryz.prog 57 #[.pointer (some ⟨f, 0, none⟩), nodeV x, .int .i64 j] w fun e w' => e = .returned (.tuple #[.int .i64 r, .int .i64 0]) ∧ Bears w' (filesObj f s * (spA s p d len g k op F G * R)) := by
  have hmax := hL.max
  have hbx := h.alloc (.cells #[.int .i64 x.kind, .int .i64 x.links, .int .i64 x.size, .int .i64 x.d0, .int .i64 x.d1, .int .i64 x.d2, .int .i64 x.d3, .int .i64 x.near, .int .i64 x.wide] 94)
  have c3 := cell_of_obj hbx.obj 3
  have c4 := cell_of_obj hbx.obj 4
  have c5 := cell_of_obj hbx.obj 5
  have c6 := cell_of_obj hbx.obj 6
  have c7 := cell_of_obj hbx.obj 7
  have c8 := cell_of_obj hbx.obj 8
  simp only [List.getElem?_toArray, List.getElem?_cons_zero, List.getElem?_cons_succ] at c3 c4 c5 c6 c7 c8
  have h0 : Bears _ (filesObj f s * (spA s p d len g k op F G * (nodeObj w.heap.size x * R))) := hbx.push3
  by_cases h4 : j < 4
  · have hd := hL.dir j h4 hj
    rw [hr] at hd
    have Hd := Lib.hid hd
    have HL := Lib.hid hL
    clear hd hr hL hj ho hmax
    obtain rfl | rfl | rfl | rfl : j = 0 ∨ j = 1 ∨ j = 2 ∨ j = 3 := by omega
    all_goals
      go_enter Tryz.func57, Tryz.ntmps57
      go_wp2_with fail
      go_ret2
      refine ⟨?_, hbx.right⟩
      exact congrArg (fun y : Nat => Ending.returned (.tuple #[.int .i64 (y : Int), .int .i64 0])) Hd.out
  · by_cases h36 : j < 36
    · have hn := hL.near (by omega)
      have hok := ho _ (LayM.mem_near (by omega))
      have hm := hL.nearN j (by omega) h36 hj
      rw [hr] at hm
      have hnm := named_any (h := h0) hok.chk hok.lo hok.hi (j := j - 4) (by omega) hm
      rw [← hn, show ((j - 4 : Nat) : Int) = (j : Int) - 4 by omega] at hnm
      have d1 : decide ((j : Int) < 4) = false := decide_eq_false (by omega)
      have d2 : decide ((j : Int) < 36) = true := decide_eq_true (by omega)
      have Hnm := Lib.hid hnm
      clear hn hok hm hnm hr hL ho h
      go_enter Tryz.func57, Tryz.ntmps57
      go_wp2_with fail
      refine Hnm.out.mono ?_
      rintro e w1 ⟨rfl, h1⟩
      go_wp2_with fail
      go_ret2
      exact ⟨rfl, h1.pull3.right.cast (by ac_rfl)⟩
    · have hw := hL.wide (by omega)
      have hok := ho _ (LayM.mem_wide (by omega))
      have hil := hL.innLt (k := j) (by omega) hj
      have hm := hL.wideN _ hil
      have hok2 := ho _ (LayM.mem_inner (by omega) hil)
      have hm2 := hL.innN j (by omega) hj
      rw [hr] at hm2
      obtain ⟨q, hq⟩ : ∃ q, L.inner.getD ((j - 36) / 32) 0 = q := ⟨_, rfl⟩
      rw [hq] at hm hok2 hm2
      have hnm := named_any (h := h0) hok.chk hok.lo hok.hi (j := (j - 36) / 32) (by omega) hm
      have hnm2 := fun w' (h' : Bears w' (filesObj f s * (spA s p d len g k op F G * (nodeObj w.heap.size x * R)))) => named_any (h := h') hok2.chk hok2.lo hok2.hi (j := (j - 36) % 32) (by omega) hm2
      have e1 : (((j - 36) / 32 : Nat) : Int) = ((j : Int) - 36) / 32 := by omega
      have e2 : (((j - 36) % 32 : Nat) : Int) = ((j : Int) - 36) % 32 := by omega
      have q1 : ((j : Int) - 36).tdiv 32 = ((j : Int) - 36) / 32 := Int.tdiv_eq_ediv_of_nonneg (by omega)
      have q2 : ((j : Int) - 36).tmod 32 = ((j : Int) - 36) % 32 := Int.tmod_eq_emod_of_nonneg (by omega)
      rw [← hw, e1] at hnm
      rw [e2] at hnm2
      have d1 : decide ((j : Int) < 4) = false := decide_eq_false (by omega)
      have d2 : decide ((j : Int) < 36) = false := decide_eq_false (by omega)
      have Hnm := Lib.hid hnm
      have Hnm2 := Lib.hid hnm2
      clear hw hok hm hnm hnm2 hr hL ho hok2 hm2 hq hil e1 e2 h
      go_enter Tryz.func57, Tryz.ntmps57
      go_wp2_with fail
      refine Hnm.out.mono ?_
      rintro e w1 ⟨rfl, h1⟩
      go_wp2_with fail
      refine (Hnm2.out _ h1).mono ?_
      rintro e w2 ⟨rfl, h2⟩
      go_wp2_with fail
      go_ret2
      exact ⟨rfl, h2.pull3.right.cast (by ac_rfl)⟩

end Go.Proofs.YtggbnelbnbaoiaaGreat

/- Walks of the files' functions, part 6: name; no condition. -/
namespace Go.Proofs.YtggbnelbnbaoiaaGreat
open Go.RowKit Go.MapKept

theorem salloc_some {s p len g : Nat} {k : List Nat} {d : DiskM} {F G : Nat → Sec} {R : Assn} {w : World} (h : Bears w (spA s p d len g k true F G * R)) (hc : CanTake len G) :
    Calls Tryz.prog 74 #[.pointer (some ⟨s, 0, none⟩)] w fun e w' => ∃ n, firstB len ≤ n ∧ n < len ∧ bitN G n = false ∧ e = .returned (.tuple #[.int .i64 n, .int .i64 0]) ∧
      Bears w' (spA s p d len g (n :: (621 + n / 512) :: k) true F (allocG G n) * R) := by
  refine (salloc_any h).mono ?_
  rintro e w' (⟨n, h1, h2, h3, _, rfl, h5⟩ | ⟨h1, _⟩)
  · exact ⟨n, h1, h2, h3, rfl, h5⟩
  · obtain ⟨q, q1, q2, q3⟩ := hc
    have := h1 q q2 q1 q2
    rw [q3] at this; cases this

set_option maxRecDepth 100000 in
set_option maxHeartbeats 4000000 in
/-- Behind the choice of the block m: its bytes are read, the number is laid, they are written. -/
theorem name_at {f s p len g pb po : Nat} {c : Array Value} {ty : TypeId} {k : List Nat} {d : DiskM} {F G : Nat → Sec} {R : Assn} {w : World} (h : Bears w (Assn.obj pb (.cells c ty (0, 0)) * (filesObj f s * (spA s p d len g k true F G * R)))) {m : Nat} (hc : c[po]? = some (.int .i64 m)) (hm0 : m ≠ 0)
    (hok : OwnOk len G m) {j q : Nat} (hj : j < 32) (hq : q < 65536) :
    Calls Tryz.prog 110 #[.pointer (some ⟨f, 0, none⟩), .pointer (some ⟨pb, po, none⟩), .int .i64 j, .int .i64 q] w fun e w' => e = .returned (.int .i64 0) ∧
      Bears w' (Assn.obj pb (.cells c ty (0, 0)) * (filesObj f s * (spA s p d len g (m :: k) true F (updS G m (lay2 (G m) (2 * j) q)) * R))) := by
  have hp0 := (cell_of_obj h.obj po).trans hc
  have hgm : (G m).length = 64 := h.right.right.sp64 m
  have hpc : ∀ w' Q, Bears w' (Assn.obj pb (.cells c ty (0, 0)) * Q) → w'.cell? ⟨pb, po, none⟩ = some (.int .i64 m) := fun w' Q h => (cell_of_obj h.obj po).trans hc
  have hread := sreads_any (h.pull3.drew) m rfl hok.chk hok.lo hok.hi rfl
  have hlen2 : (lay2 (G m) (2 * j) q).length = 64 := by rw [lay2_length]; exact hgm
  have hlay := fun w' ad cap Q (h : Bears w' (bufA (.slice ad 64 cap) (G m) * Q)) => lay_any h (2 * j) q (by rw [hgm]; omega) (by rw [hgm]; decide) (by omega)
  rw [show ((2 * j : Nat) : Int) = 2 * (j : Int) by omega] at hlay
  have hwr := fun w' k' ad cap Q (h : Bears w' (spA s p d len g k' true F G * (bufA (.slice ad 64 cap) (lay2 (G m) (2 * j) q) * Q))) => swrites_any h m rfl hok.chk hok.lo hok.hi (b := lay2 (G m) (2 * j) q) buf_tells
  rw [wrN_ok hlen2] at hwr
  have hne : ((m : Int) == 0) = false := by rw [beq_eq_false_iff_ne]; omega
  have Hpc := Lib.hid hpc
  have Hread := Lib.hid hread
  have Hlay := Lib.hid hlay
  have Hwr := Lib.hid hwr
  clear hpc hread hlay hwr hgm hlen2 hok hc
  go_enter Tryz.func110, Tryz.ntmps110
  go_wp2_with fail
  refine wp_region_L (fun w' => ∃ Q, Bears w' (Assn.obj pb (.cells c ty (0, 0)) * (filesObj f s * Q))) 12
    [(true, 0), (true, 1), (true, 2), (true, 3), (true, 4), (true, 5), (true, 6), (false, 7), (true, 8), (true, 9), (true, 10), (true, 11)] [(true, 12)] (by kernel_rfl) (by kernel_rfl) ⟨_, h.drew⟩ ?_
  simp only [pick, List.getElem?_cons_zero, List.getElem?_cons_succ]
  refine wpL_yield (v := ?_) rfl (fun w' hS => ?_) ?_
  rotate_left
  · (obtain ⟨_, hS⟩ := hS; have pc := Hpc.out _ _ hS; have fc := files_cell hS.right; go_simp; try with_reducible rfl)
  simp only [Act.put, List.setIfInBounds_toArray, List.set_cons_zero, List.set_cons_succ]
  refine wpL_yield (v := ?_) rfl (fun w' hS => ?_) ?_
  rotate_left
  · (obtain ⟨_, hS⟩ := hS; have pc := Hpc.out _ _ hS; have fc := files_cell hS.right; go_simp; try with_reducible rfl)
  simp only [Act.put, List.setIfInBounds_toArray, List.set_cons_zero, List.set_cons_succ]
  refine wpL_yield (v := ?_) rfl (fun w' hS => ?_) ?_
  rotate_left
  · (obtain ⟨_, hS⟩ := hS; have pc := Hpc.out _ _ hS; have fc := files_cell hS.right; go_simp; try with_reducible rfl)
  simp only [Act.put, List.setIfInBounds_toArray, List.set_cons_zero, List.set_cons_succ]
  refine wpL_yield (v := ?_) rfl (fun w' hS => ?_) ?_
  rotate_left
  · (obtain ⟨_, hS⟩ := hS; have pc := Hpc.out _ _ hS; have fc := files_cell hS.right; go_simp; try with_reducible rfl)
  simp only [Act.put, List.setIfInBounds_toArray, List.set_cons_zero, List.set_cons_succ]
  refine wpL_yield (v := ?_) rfl (fun w' hS => ?_) ?_
  rotate_left
  · (obtain ⟨_, hS⟩ := hS; have pc := Hpc.out _ _ hS; have fc := files_cell hS.right; go_simp; try with_reducible rfl)
  simp only [Act.put, List.setIfInBounds_toArray, List.set_cons_zero, List.set_cons_succ]
  refine wpL_yield (v := ?_) rfl (fun w' hS => ?_) ?_
  rotate_left
  · (obtain ⟨_, hS⟩ := hS; have pc := Hpc.out _ _ hS; have fc := files_cell hS.right; go_simp; try with_reducible rfl)
  simp only [Act.put, List.setIfInBounds_toArray, List.set_cons_zero, List.set_cons_succ]
  refine wpL_yield (v := ?_) rfl (fun w' hS => ?_) ?_
  rotate_left
  · (obtain ⟨_, hS⟩ := hS; have pc := Hpc.out _ _ hS; have fc := files_cell hS.right; go_simp; try with_reducible rfl)
  simp only [Act.put, List.setIfInBounds_toArray, List.set_cons_zero, List.set_cons_succ]
  refine wpL_eff rfl ?_
  go_simp
  refine Hread.out.mono ?_
  rintro e w1 ⟨ad, cap, rfl, h1⟩
  have h2 : Bears w1 (Assn.obj pb (.cells c ty (0, 0)) * (filesObj f s * (bufA (.slice ad 64 cap) (G m) * (spA s p d len g k true F G * R)))) := h1.bufRow.cast (by ac_rfl)
  refine ⟨⟨_, h2⟩, ?_⟩
  refine wpL_yield (v := ?_) rfl (fun w' hS => ?_) ?_
  rotate_left
  · (go_simp; try with_reducible rfl)
  simp only [Act.put, List.setIfInBounds_toArray, List.set_cons_zero, List.set_cons_succ]
  refine wpL_yield (v := ?_) rfl (fun w' hS => ?_) ?_
  rotate_left
  · (go_simp; try with_reducible rfl)
  simp only [Act.put, List.setIfInBounds_toArray, List.set_cons_zero, List.set_cons_succ]
  refine wpL_yield (v := ?_) rfl (fun w' hS => ?_) ?_
  rotate_left
  · (go_simp; try with_reducible rfl)
  simp only [Act.put, List.setIfInBounds_toArray, List.set_cons_zero, List.set_cons_succ]
  refine wpL_yield (v := ?_) rfl (fun w' hS => ?_) ?_
  rotate_left
  · (go_simp; try with_reducible rfl)
  simp only [Act.put, List.setIfInBounds_toArray, List.set_cons_zero, List.set_cons_succ]
  refine wpL_nil ?_
  refine wpL_yield (v := ?_) rfl (fun w' hS => ?_) ?_
  rotate_left
  · (go_simp; try with_reducible rfl)
  simp only [Act.put, List.setIfInBounds_toArray, List.set_cons_zero]
  refine wpL_nil ?_
  go_wp2_with fail
  refine (Hlay.out _ _ _ _ h2.pull3).mono ?_
  rintro e w3 ⟨rfl, h3⟩
  go_wp2_with fail
  have h4 : Bears w3 (Assn.obj pb (.cells c ty (0, 0)) * (filesObj f s * (bufA (.slice ad 64 cap) (lay2 (G m) (2 * j) q) * (spA s p d len g k true F G * R)))) := h3.cast (by ac_rfl)
  refine wp_region_L (fun w' => ∃ Q, Bears w' (Assn.obj pb (.cells c ty (0, 0)) * (filesObj f s * Q))) 9
    [(true, 0), (true, 1), (true, 2), (true, 3), (true, 4), (true, 5), (true, 6), (true, 7), (false, 8)] [(true, 9)] (by kernel_rfl) (by kernel_rfl) ⟨_, h4.drew⟩ ?_
  simp only [pick, List.getElem?_cons_zero, List.getElem?_cons_succ]
  refine wpL_yield (v := ?_) rfl (fun w' hS => ?_) ?_
  rotate_left
  · (obtain ⟨_, hS⟩ := hS; have pc := Hpc.out _ _ hS; have fc := files_cell hS.right; go_simp; try with_reducible rfl)
  simp only [Act.put, List.setIfInBounds_toArray, List.set_cons_zero, List.set_cons_succ]
  refine wpL_yield (v := ?_) rfl (fun w' hS => ?_) ?_
  rotate_left
  · (obtain ⟨_, hS⟩ := hS; have pc := Hpc.out _ _ hS; have fc := files_cell hS.right; go_simp; try with_reducible rfl)
  simp only [Act.put, List.setIfInBounds_toArray, List.set_cons_zero, List.set_cons_succ]
  refine wpL_yield (v := ?_) rfl (fun w' hS => ?_) ?_
  rotate_left
  · (obtain ⟨_, hS⟩ := hS; have pc := Hpc.out _ _ hS; have fc := files_cell hS.right; go_simp; try with_reducible rfl)
  simp only [Act.put, List.setIfInBounds_toArray, List.set_cons_zero, List.set_cons_succ]
  refine wpL_yield (v := ?_) rfl (fun w' hS => ?_) ?_
  rotate_left
  · (obtain ⟨_, hS⟩ := hS; have pc := Hpc.out _ _ hS; have fc := files_cell hS.right; go_simp; try with_reducible rfl)
  simp only [Act.put, List.setIfInBounds_toArray, List.set_cons_zero, List.set_cons_succ]
  refine wpL_yield (v := ?_) rfl (fun w' hS => ?_) ?_
  rotate_left
  · (obtain ⟨_, hS⟩ := hS; have pc := Hpc.out _ _ hS; have fc := files_cell hS.right; go_simp; try with_reducible rfl)
  simp only [Act.put, List.setIfInBounds_toArray, List.set_cons_zero, List.set_cons_succ]
  refine wpL_yield (v := ?_) rfl (fun w' hS => ?_) ?_
  rotate_left
  · (obtain ⟨_, hS⟩ := hS; have pc := Hpc.out _ _ hS; have fc := files_cell hS.right; go_simp; try with_reducible rfl)
  simp only [Act.put, List.setIfInBounds_toArray, List.set_cons_zero, List.set_cons_succ]
  refine wpL_yield (v := ?_) rfl (fun w' hS => ?_) ?_
  rotate_left
  · (obtain ⟨_, hS⟩ := hS; have pc := Hpc.out _ _ hS; have fc := files_cell hS.right; go_simp; try with_reducible rfl)
  simp only [Act.put, List.setIfInBounds_toArray, List.set_cons_zero, List.set_cons_succ]
  refine wpL_yield (v := ?_) rfl (fun w' hS => ?_) ?_
  rotate_left
  · (obtain ⟨_, hS⟩ := hS; have pc := Hpc.out _ _ hS; have fc := files_cell hS.right; go_simp; try with_reducible rfl)
  simp only [Act.put, List.setIfInBounds_toArray, List.set_cons_zero, List.set_cons_succ]
  refine wpL_eff rfl ?_
  go_simp
  refine (Hwr.out _ _ _ _ _ (h4.drew.cast (by ac_rfl) : Bears _ (spA s p d len g k true F G * (bufA (.slice ad 64 cap) (lay2 (G m) (2 * j) q) * (Assn.obj pb (.cells c ty (0, 0)) * (filesObj f s * R)))))).mono ?_
  rintro e w5 ⟨rfl, h5⟩
  have h6 : Bears w5 (Assn.obj pb (.cells c ty (0, 0)) * (filesObj f s * (spA s p d len g (m :: k) true F (updS G m (lay2 (G m) (2 * j) q)) * (bufA (.slice ad 64 cap) (lay2 (G m) (2 * j) q) * R)))) := h5.cast (by ac_rfl)
  refine ⟨⟨_, h6⟩, ?_⟩
  refine wpL_nil ?_
  refine wpL_yield (v := ?_) rfl (fun w' hS => ?_) ?_
  rotate_left
  · (go_simp; try with_reducible rfl)
  simp only [Act.put, List.setIfInBounds_toArray, List.set_cons_zero]
  refine wpL_nil ?_
  go_wp2_with fail
  go_ret
  exact ⟨rfl, h6.pull4.right⟩

set_option maxRecDepth 100000 in
set_option maxHeartbeats 4000000 in
/-- Block 0: a new one is taken, and named. -/
theorem name_new {f s p len g pb po : Nat} {c : Array Value} {ty : TypeId} {k : List Nat} {d : DiskM} {F G : Nat → Sec} {R : Assn} {w : World} (h : Bears w (Assn.obj pb (.cells c ty (0, 0)) * (filesObj f s * (spA s p d len g k true F G * R)))) (hc : c[po]? = some (.int .i64 0))
    (hct : CanTake len G) {j q : Nat} (hj : j < 32) (hq : q < 65536) :
    Calls Tryz.prog 110 #[.pointer (some ⟨f, 0, none⟩), .pointer (some ⟨pb, po, none⟩), .int .i64 j, .int .i64 q] w fun e w' => ∃ r, firstB len ≤ r ∧ r < len ∧ bitN G r = false ∧ e = .returned (.int .i64 0) ∧
      Bears w' (Assn.obj pb (.cells (c.setIfInBounds po (.int .i64 r)) ty (0, 0)) * (filesObj f s * (spA s p d len g (r :: r :: (621 + r / 512) :: k) true F (updS (allocG G r) r (lay2 zeroSec (2 * j) q)) * R))) := by
  have hp0 := (cell_of_obj h.obj po).trans hc
  have hpl : po < c.size := by
    rcases Nat.lt_or_ge po c.size with q | q
    · exact q
    · rw [Array.getElem?_eq_none q] at hc; cases hc
  have fc := files_cell h.right
  have h64 := h.right.right.sp64
  have hal := salloc_some h.pull3 hct
  have Hal := Lib.hid hal
  have H64 := Lib.hid h64
  have hzl : zeroSec.length = 64 := rfl
  clear hal h64 hct
  go_enter Tryz.func110, Tryz.ntmps110
  go_wp2_with fail
  refine Hal.out.mono ?_
  rintro e w0 ⟨r, hr1, hr2, hr3, rfl, hA⟩
  have Hr3 := Lib.hid hr3
  have hr0 : r ≠ 0 := by unfold firstB at hr1; omega
  have hp1 := (cell_of_obj hA.pull2.obj po).trans hc
  have hf1 := frozen_of_obj hA.pull2.obj po
  have hS1 := hA.pull2.setCell (i := po) (.int .i64 r)
  have hS2 : Bears _ (Assn.obj pb (.cells (c.setIfInBounds po (.int .i64 r)) ty (0, 0)) * (filesObj f s * (spA s p d len g (r :: (621 + r / 512) :: k) true F (allocG G r) * R))) := hS1.cast (by ac_rfl)
  have hpc : ∀ w' Q, Bears w' (Assn.obj pb (.cells (c.setIfInBounds po (.int .i64 r)) ty (0, 0)) * Q) → w'.cell? ⟨pb, po, none⟩ = some (.int .i64 r) := fun w' Q h => (cell_of_obj h.obj po).trans (by simp [hpl])
  have hbit : bitN (allocG G r) r = true := by rw [bitN_alloc H64.out hr1 r hr2, if_pos rfl]
  have hok : OwnOk len (allocG G r) r := ⟨hr1, hr2, hbit⟩
  have hread := sreads_any (hS2.pull3.drew) r rfl hok.chk hok.lo hok.hi (allocG_self r)
  have hlen2 : (lay2 zeroSec (2 * j) q).length = 64 := by rw [lay2_length]; exact hzl
  have hlay := fun w' ad cap Q (h : Bears w' (bufA (.slice ad 64 cap) zeroSec * Q)) => lay_any h (2 * j) q (by rw [hzl]; omega) (by rw [hzl]; decide) (by omega)
  rw [show ((2 * j : Nat) : Int) = 2 * (j : Int) by omega] at hlay
  have hwr := fun w' k' ad cap Q (h : Bears w' (spA s p d len g k' true F (allocG G r) * (bufA (.slice ad 64 cap) (lay2 zeroSec (2 * j) q) * Q))) => swrites_any h r rfl hok.chk hok.lo hok.hi (b := lay2 zeroSec (2 * j) q) buf_tells
  rw [wrN_ok hlen2] at hwr
  have hne : ((r : Int) == 0) = false := by rw [beq_eq_false_iff_ne]; omega
  have Hpc := Lib.hid hpc
  have Hread := Lib.hid hread
  have Hlay := Lib.hid hlay
  have Hwr := Lib.hid hwr
  clear hpc hread hlay hwr hlen2 hok hc hbit hr3 hS1 hA hp0 h fc
  go_wp2_with fail
  refine wp_region_L (fun w' => ∃ Q, Bears w' (Assn.obj pb (.cells (c.setIfInBounds po (.int .i64 r)) ty (0, 0)) * (filesObj f s * Q))) 12
    [(true, 0), (true, 1), (true, 2), (true, 3), (true, 4), (true, 5), (true, 6), (false, 7), (true, 8), (true, 9), (true, 10), (true, 11)] [(true, 12)] (by kernel_rfl) (by kernel_rfl) ⟨_, hS2.drew⟩ ?_
  simp only [pick, List.getElem?_cons_zero, List.getElem?_cons_succ]
  refine wpL_yield (v := ?_) rfl (fun w' hS => ?_) ?_
  rotate_left
  · (obtain ⟨_, hS⟩ := hS; have pc := Hpc.out _ _ hS; have fc := files_cell hS.right; go_simp; try with_reducible rfl)
  simp only [Act.put, List.setIfInBounds_toArray, List.set_cons_zero, List.set_cons_succ]
  refine wpL_yield (v := ?_) rfl (fun w' hS => ?_) ?_
  rotate_left
  · (obtain ⟨_, hS⟩ := hS; have pc := Hpc.out _ _ hS; have fc := files_cell hS.right; go_simp; try with_reducible rfl)
  simp only [Act.put, List.setIfInBounds_toArray, List.set_cons_zero, List.set_cons_succ]
  refine wpL_yield (v := ?_) rfl (fun w' hS => ?_) ?_
  rotate_left
  · (obtain ⟨_, hS⟩ := hS; have pc := Hpc.out _ _ hS; have fc := files_cell hS.right; go_simp; try with_reducible rfl)
  simp only [Act.put, List.setIfInBounds_toArray, List.set_cons_zero, List.set_cons_succ]
  refine wpL_yield (v := ?_) rfl (fun w' hS => ?_) ?_
  rotate_left
  · (obtain ⟨_, hS⟩ := hS; have pc := Hpc.out _ _ hS; have fc := files_cell hS.right; go_simp; try with_reducible rfl)
  simp only [Act.put, List.setIfInBounds_toArray, List.set_cons_zero, List.set_cons_succ]
  refine wpL_yield (v := ?_) rfl (fun w' hS => ?_) ?_
  rotate_left
  · (obtain ⟨_, hS⟩ := hS; have pc := Hpc.out _ _ hS; have fc := files_cell hS.right; go_simp; try with_reducible rfl)
  simp only [Act.put, List.setIfInBounds_toArray, List.set_cons_zero, List.set_cons_succ]
  refine wpL_yield (v := ?_) rfl (fun w' hS => ?_) ?_
  rotate_left
  · (obtain ⟨_, hS⟩ := hS; have pc := Hpc.out _ _ hS; have fc := files_cell hS.right; go_simp; try with_reducible rfl)
  simp only [Act.put, List.setIfInBounds_toArray, List.set_cons_zero, List.set_cons_succ]
  refine wpL_yield (v := ?_) rfl (fun w' hS => ?_) ?_
  rotate_left
  · (obtain ⟨_, hS⟩ := hS; have pc := Hpc.out _ _ hS; have fc := files_cell hS.right; go_simp; try with_reducible rfl)
  simp only [Act.put, List.setIfInBounds_toArray, List.set_cons_zero, List.set_cons_succ]
  refine wpL_eff rfl ?_
  go_simp
  refine Hread.out.mono ?_
  rintro e w1 ⟨ad, cap, rfl, h1⟩
  have h2 : Bears w1 (Assn.obj pb (.cells (c.setIfInBounds po (.int .i64 r)) ty (0, 0)) * (filesObj f s * (bufA (.slice ad 64 cap) zeroSec * (spA s p d len g (r :: (621 + r / 512) :: k) true F (allocG G r) * R)))) := h1.bufRow.cast (by ac_rfl)
  refine ⟨⟨_, h2⟩, ?_⟩
  refine wpL_yield (v := ?_) rfl (fun w' hS => ?_) ?_
  rotate_left
  · (go_simp; try with_reducible rfl)
  simp only [Act.put, List.setIfInBounds_toArray, List.set_cons_zero, List.set_cons_succ]
  refine wpL_yield (v := ?_) rfl (fun w' hS => ?_) ?_
  rotate_left
  · (go_simp; try with_reducible rfl)
  simp only [Act.put, List.setIfInBounds_toArray, List.set_cons_zero, List.set_cons_succ]
  refine wpL_yield (v := ?_) rfl (fun w' hS => ?_) ?_
  rotate_left
  · (go_simp; try with_reducible rfl)
  simp only [Act.put, List.setIfInBounds_toArray, List.set_cons_zero, List.set_cons_succ]
  refine wpL_yield (v := ?_) rfl (fun w' hS => ?_) ?_
  rotate_left
  · (go_simp; try with_reducible rfl)
  simp only [Act.put, List.setIfInBounds_toArray, List.set_cons_zero, List.set_cons_succ]
  refine wpL_nil ?_
  refine wpL_yield (v := ?_) rfl (fun w' hS => ?_) ?_
  rotate_left
  · (go_simp; try with_reducible rfl)
  simp only [Act.put, List.setIfInBounds_toArray, List.set_cons_zero]
  refine wpL_nil ?_
  go_wp2_with fail
  refine (Hlay.out _ _ _ _ h2.pull3).mono ?_
  rintro e w3 ⟨rfl, h3⟩
  go_wp2_with fail
  have h4 : Bears w3 (Assn.obj pb (.cells (c.setIfInBounds po (.int .i64 r)) ty (0, 0)) * (filesObj f s * (bufA (.slice ad 64 cap) (lay2 zeroSec (2 * j) q) * (spA s p d len g (r :: (621 + r / 512) :: k) true F (allocG G r) * R)))) := h3.cast (by ac_rfl)
  refine wp_region_L (fun w' => ∃ Q, Bears w' (Assn.obj pb (.cells (c.setIfInBounds po (.int .i64 r)) ty (0, 0)) * (filesObj f s * Q))) 9
    [(true, 0), (true, 1), (true, 2), (true, 3), (true, 4), (true, 5), (true, 6), (true, 7), (false, 8)] [(true, 9)] (by kernel_rfl) (by kernel_rfl) ⟨_, h4.drew⟩ ?_
  simp only [pick, List.getElem?_cons_zero, List.getElem?_cons_succ]
  refine wpL_yield (v := ?_) rfl (fun w' hS => ?_) ?_
  rotate_left
  · (obtain ⟨_, hS⟩ := hS; have pc := Hpc.out _ _ hS; have fc := files_cell hS.right; go_simp; try with_reducible rfl)
  simp only [Act.put, List.setIfInBounds_toArray, List.set_cons_zero, List.set_cons_succ]
  refine wpL_yield (v := ?_) rfl (fun w' hS => ?_) ?_
  rotate_left
  · (obtain ⟨_, hS⟩ := hS; have pc := Hpc.out _ _ hS; have fc := files_cell hS.right; go_simp; try with_reducible rfl)
  simp only [Act.put, List.setIfInBounds_toArray, List.set_cons_zero, List.set_cons_succ]
  refine wpL_yield (v := ?_) rfl (fun w' hS => ?_) ?_
  rotate_left
  · (obtain ⟨_, hS⟩ := hS; have pc := Hpc.out _ _ hS; have fc := files_cell hS.right; go_simp; try with_reducible rfl)
  simp only [Act.put, List.setIfInBounds_toArray, List.set_cons_zero, List.set_cons_succ]
  refine wpL_yield (v := ?_) rfl (fun w' hS => ?_) ?_
  rotate_left
  · (obtain ⟨_, hS⟩ := hS; have pc := Hpc.out _ _ hS; have fc := files_cell hS.right; go_simp; try with_reducible rfl)
  simp only [Act.put, List.setIfInBounds_toArray, List.set_cons_zero, List.set_cons_succ]
  refine wpL_yield (v := ?_) rfl (fun w' hS => ?_) ?_
  rotate_left
  · (obtain ⟨_, hS⟩ := hS; have pc := Hpc.out _ _ hS; have fc := files_cell hS.right; go_simp; try with_reducible rfl)
  simp only [Act.put, List.setIfInBounds_toArray, List.set_cons_zero, List.set_cons_succ]
  refine wpL_yield (v := ?_) rfl (fun w' hS => ?_) ?_
  rotate_left
  · (obtain ⟨_, hS⟩ := hS; have pc := Hpc.out _ _ hS; have fc := files_cell hS.right; go_simp; try with_reducible rfl)
  simp only [Act.put, List.setIfInBounds_toArray, List.set_cons_zero, List.set_cons_succ]
  refine wpL_yield (v := ?_) rfl (fun w' hS => ?_) ?_
  rotate_left
  · (obtain ⟨_, hS⟩ := hS; have pc := Hpc.out _ _ hS; have fc := files_cell hS.right; go_simp; try with_reducible rfl)
  simp only [Act.put, List.setIfInBounds_toArray, List.set_cons_zero, List.set_cons_succ]
  refine wpL_yield (v := ?_) rfl (fun w' hS => ?_) ?_
  rotate_left
  · (obtain ⟨_, hS⟩ := hS; have pc := Hpc.out _ _ hS; have fc := files_cell hS.right; go_simp; try with_reducible rfl)
  simp only [Act.put, List.setIfInBounds_toArray, List.set_cons_zero, List.set_cons_succ]
  refine wpL_eff rfl ?_
  go_simp
  refine (Hwr.out _ _ _ _ _ (h4.drew.cast (by ac_rfl) : Bears _ (spA s p d len g (r :: (621 + r / 512) :: k) true F (allocG G r) * (bufA (.slice ad 64 cap) (lay2 zeroSec (2 * j) q) * (Assn.obj pb (.cells (c.setIfInBounds po (.int .i64 r)) ty (0, 0)) * (filesObj f s * R)))))).mono ?_
  rintro e w5 ⟨rfl, h5⟩
  have h6 : Bears w5 (Assn.obj pb (.cells (c.setIfInBounds po (.int .i64 r)) ty (0, 0)) * (filesObj f s * (spA s p d len g (r :: r :: (621 + r / 512) :: k) true F (updS (allocG G r) r (lay2 zeroSec (2 * j) q)) * (bufA (.slice ad 64 cap) (lay2 zeroSec (2 * j) q) * R)))) := h5.cast (by ac_rfl)
  refine ⟨⟨_, h6⟩, ?_⟩
  refine wpL_nil ?_
  refine wpL_yield (v := ?_) rfl (fun w' hS => ?_) ?_
  rotate_left
  · (go_simp; try with_reducible rfl)
  simp only [Act.put, List.setIfInBounds_toArray, List.set_cons_zero]
  refine wpL_nil ?_
  go_wp2_with fail
  go_ret
  exact ⟨r, hr1, hr2, Hr3.out, rfl, h6.pull4.right⟩

end Go.Proofs.YtggbnelbnbaoiaaGreat

/- Walks of the files' functions, part 7: grow; no condition. -/
namespace Go.Proofs.YtggbnelbnbaoiaaGreat
open Go.RowKit Go.MapKept

theorem inodeB_alloc {len n m : Nat} {G : Nat → Sec} (hn : firstB len ≤ n) (hnl : n < len) (hm : m < 256) (h1 : 1024 ≤ len) (h2 : len ≤ 8192) : inodeB len (allocG G n) m = inodeB len G m := by
  obtain ⟨i1, i2, i3⟩ := iSec_lt h1 h2 hm
  have h0 : n / 512 < mapsN len := by unfold mapsN; omega
  unfold allocG
  rw [inodeB_other (by omega), inodeB_other]
  unfold iSec firstB at *
  omega
theorem inodeB_blk {len n m : Nat} {G : Nat → Sec} {b : Sec} (hn : firstB len ≤ n) (hm : m < 256) (h1 : 1024 ≤ len) (h2 : len ≤ 8192) : inodeB len (updS G n b) m = inodeB len G m := by
  obtain ⟨i1, i2, i3⟩ := iSec_lt h1 h2 hm
  exact inodeB_other (by omega)
theorem blk_updS {len n : Nat} {G : Nat → Sec} {b : Sec} (hn : firstB len ≤ n) : blkN len (updS G n b) = blkN len G := blk_same (bits_upd hn)
/-- What a file's growing by its j-th block writes, beside bits. -/
def touchL (L : LayM) (j : Nat) : List Nat := L.blk.getD j 0 :: ((if 4 ≤ j ∧ j < 36 then [L.near] else []) ++ (if 36 ≤ j then [L.inner.getD ((j - 36) / 32) 0, L.wide] else []))

/-- What grow leaves. -/
structure Grown (len : Nat) (G G' : Nat → Sec) (X : Nat → NodeM) (B : Nat → Nat → UInt8) (Ls : Nat → LayM) (n j : Nat) (x' : NodeM) (L' : LayM) (k k' : List Nat) : Prop where
  core : Core len G' (updF X n x') B (updF Ls n L') []
  lenB : L'.blk.length = j + 1
  blk : blkN len G' = blkN len G - ((costN (j + 1) : Int) - costN j)
  ino : ∀ m, m < 256 → inodeB len G' m = inodeB len G m
  kind : x'.kind = (X n).kind
  links : x'.links = (X n).links
  size : x'.size = (X n).size
  fits : (X n).Fits → x'.Fits
  pins : ∀ i ∈ k', i ∈ k ∨ i < firstB len ∨ i ∈ touchL L' j

section
variable {f s p len g xb n j : Nat} {k : List Nat} {d : DiskM} {F G : Nat → Sec} {X : Nat → NodeM} {B : Nat → Nat → UInt8} {Ls : Nat → LayM} {R : Assn} {w : World}

set_option maxRecDepth 100000 in
set_option maxHeartbeats 4000000 in
theorem grow_dir (h : Bears w (nodeObj xb (X n) * (filesObj f s * (spA s p d len g k true F G * R)))) (hc : Core len G X B Ls []) (hn : n < 256) (hk : (Ls n).blk.length = j) (hj : j < 4) (hb : (costN (j + 1) : Int) - costN j ≤ blkN len G) :
    Calls Tryz.prog 56 #[.pointer (some ⟨f, 0, none⟩), .pointer (some ⟨xb, 0, none⟩), .int .i64 j] w fun e w' => ∃ (q : Nat) (G' : Nat → Sec) (x' : NodeM) (L' : LayM) (k' : List Nat), e = .returned (.tuple #[.int .i64 q, .int .i64 0]) ∧
      Grown len G G' X B Ls n j x' L' k k' ∧ Bears w' (nodeObj xb x' * (filesObj f s * (spA s p d len g k' true F G' * R))) := by
  obtain ⟨hlo, hhi⟩ := h.right.right.spOk
  have hcost : (costN (j + 1) : Int) - costN j = 1 := by unfold costN; rw [if_neg (by omega), if_neg (by omega), if_neg (by omega), if_neg (by omega)]; omega
  rw [hcost] at hb
  have hfl : firstB len ≤ len := by unfold firstB mapsN; omega
  have hct := hc.canTake hfl (by omega)
  have fc := files_cell h.right
  have hal := salloc_some h.pull3 hct
  have Hal := Lib.hid hal
  have Hc := Lib.hid hc
  have Hk := Lib.hid hk
  have Hcost := Lib.hid hcost
  have hfin : ∀ q, firstB len ≤ q → q < len → bitN G q = false → Grown len G (allocG G q) X B Ls n j ((X n).setDir j q) { Ls n with blk := (Ls n).blk ++ [q] } k (q :: (621 + q / 512) :: k) := fun q h1 h2 h3 => by
    have hG := (hc.alloc h1 h2 h3).linkDir hn hk hj (allocG_self q)
    refine ⟨hG, by simp [hk], by rw [blk_alloc' hc.g64 h1 h2 h3, hcost], fun m hm => inodeB_alloc h1 h2 hm hlo hhi, ?_, ?_, ?_, fun hf => hf.setDir (by omega), fun i hi => ?_⟩
    · unfold NodeM.setDir; split <;> rfl
    · unfold NodeM.setDir; split <;> rfl
    · unfold NodeM.setDir; split <;> rfl
    · rcases List.mem_cons.1 hi with rfl | hi
      · right; right
        unfold touchL
        rw [← hk, getD_last]
        exact List.mem_cons_self
      · rcases List.mem_cons.1 hi with rfl | hi
        · right; left; unfold firstB mapsN; omega
        · exact .inl hi
  have Hfin := Lib.hid hfin
  clear hal hct hc hk hfin hcost h
  obtain rfl | rfl | rfl | rfl : j = 0 ∨ j = 1 ∨ j = 2 ∨ j = 3 := by omega
  all_goals
    go_enter Tryz.func56, Tryz.ntmps56
    go_wp2_with fail
    refine Hal.out.mono ?_
    rintro e w1 ⟨q, h1, h2, h3, rfl, hA⟩
    have H3 := Lib.hid h3
    have hN := hA.pull2
    have c3 := cell_of_obj hN.obj 3
    have c4 := cell_of_obj hN.obj 4
    have c5 := cell_of_obj hN.obj 5
    have c6 := cell_of_obj hN.obj 6
    simp only [List.getElem?_toArray, List.getElem?_cons_zero, List.getElem?_cons_succ] at c3 c4 c5 c6
    have f3 := frozen_of_obj hN.obj 3
    have f4 := frozen_of_obj hN.obj 4
    have f5 := frozen_of_obj hN.obj 5
    have f6 := frozen_of_obj hN.obj 6
    clear h3 hA
    go_wp2_with fail
    go_ret2
    refine ⟨q, _, _, _, _, rfl, Hfin.out q h1 h2 H3.out, ?_⟩
    first
    | exact (hN.setCell (i := 3) (.int .i64 q)).c23
    | exact (hN.setCell (i := 4) (.int .i64 q)).c23
    | exact (hN.setCell (i := 5) (.int .i64 q)).c23
    | exact (hN.setCell (i := 6) (.int .i64 q)).c23

end

end Go.Proofs.YtggbnelbnbaoiaaGreat
