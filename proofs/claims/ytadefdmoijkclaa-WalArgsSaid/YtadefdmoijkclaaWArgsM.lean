/- WalArgs: what holds of the plain model; no condition. -/
import Derived.Test.YtadefdmoijkclaaWGrp
namespace Go.Proofs.Ytadefdmoijkclaa
open Go.RowKit Go.MapKept

theorem room_facts {m : Int} (h : 3 ≤ m) : (1 : Int) ≤ (roomN m.toNat : Nat) ∧ ((roomN m.toNat : Nat) : Int) ≤ m ∧ 0 ≤ m - 1 - (roomN m.toNat : Nat) - ((roomN m.toNat : Nat) + 31) / 32 ∧ m - 2 - (roomN m.toNat : Nat) - ((roomN m.toNat : Nat) + 32) / 32 < 0 := by
  obtain ⟨k, rfl⟩ : ∃ k : Nat, m = k := ⟨m.toNat, by omega⟩
  rw [Int.toNat_natCast]
  unfold roomN
  rw [if_neg (by omega)]
  omega

/-- The puts so far: sectors below k, each once. -/
structure ArgsL (n a z k : Nat) (l : List PutM) : Prop where
  may : wMayTo n a z [] l = true
  puts : ∀ p ∈ l, ∃ j, j < k ∧ p.sector = (j : Int) ∧ p.bytes = fullS (UInt8.ofNat j) 7
theorem ArgsL.nil (n a z : Nat) : ArgsL n a z 0 [] := ⟨rfl, by simp⟩
theorem ArgsL.mono {n a z k : Nat} {l : List PutM} (h : ArgsL n a z k l) : ArgsL n a z (k + 1) l :=
  ⟨h.may, fun p hp => by obtain ⟨j, hj, e⟩ := h.puts p hp; exact ⟨j, by omega, e⟩⟩
theorem ArgsL.step {n a z k : Nat} {l : List PutM} (h : ArgsL n a z k l) (hk : k < n) (ho : ¬ (a ≤ k ∧ k < a + z)) (g : Nat) : ArgsL n a z (k + 1) (l ++ [putOf (k : Int) g (fullS (UInt8.ofNat k) 7)]) := by
  refine ⟨?_, fun p hp => ?_⟩
  · rw [wMayTo_snoc, h.may, Bool.true_and, List.nil_append]
    have h64 := fullS_length (UInt8.ofNat k) 7
    refine wOk_iff.2 ⟨?_, by simp only; omega, by simp only; omega, by simp only; omega, by simp only; omega⟩
    rw [← Bool.not_eq_true, List.any_eq_true]
    rintro ⟨q, hq, e⟩
    obtain ⟨i, hi, e1, _⟩ := h.puts q hq
    have e3 : q.sector = (k : Int) := by simpa using e
    omega
  · rcases List.mem_append.1 hp with hp | hp
    · exact h.mono.puts p hp
    · rw [List.mem_singleton] at hp
      subst hp
      exact ⟨k, by omega, rfl, rfl⟩
theorem wMayTo_take {n a s : Nat} : ∀ (l seen : List PutM) (m : Nat), wMayTo n a s seen l = true → wMayTo n a s seen (l.take m) = true
  | [], _, _, _ => by simp [wMayTo]
  | _ :: _, _, 0, _ => by simp [wMayTo]
  | p :: l, seen, m + 1, h => by
    simp only [List.take_succ_cons, wMayTo, Bool.and_eq_true] at h ⊢
    exact ⟨h.1, wMayTo_take l _ m h.2⟩
theorem ArgsL.take {n a z k : Nat} {l : List PutM} (h : ArgsL n a z k l) (m : Nat) : ArgsL n a z k (l.take m) :=
  ⟨wMayTo_take l [] m h.may, fun p hp => h.puts p (List.mem_of_mem_take hp)⟩
theorem ArgsL.yes {n a z k : Nat} {l : List PutM} (h : ArgsL n a z k l) (hl : l.length ≤ roomN z) : wMay n a z l = true := by
  unfold wMay
  rw [h.may]
  simpa using hl
theorem may_long {n a z : Nat} {l : List PutM} (hl : roomN z < l.length) : wMay n a z l = false := by
  unfold wMay
  rw [Bool.and_eq_false_iff]
  right
  simpa using hl
theorem ArgsL.now {n a z k : Nat} {l : List PutM} (h : ArgsL n a z k l) (F : Nat → Sec) {j : Nat} (hj : j < l.length) :
    ∃ i : Nat, (l.getD j default).sector = (i : Int) ∧ applyPuts F l i = fullS (UInt8.ofNat i) 7 := by
  obtain ⟨i, _, e, _⟩ := h.puts _ (getD_mem hj)
  refine ⟨i, e, ?_⟩
  rcases applyPuts_or l i with ⟨p, hp, e1, h1⟩ | ⟨h1, _⟩
  · obtain ⟨i2, _, e2, e3⟩ := h.puts p hp
    have : i2 = i := by omega
    subst this
    rw [h1, e3]
  · exact absurd (by rw [e]; rfl) (h1 _ (getD_mem hj))
theorem ArgsL.len {n a z : Nat} : ∀ {k : Nat} {l : List PutM}, ArgsL n a z k l → ∀ p ∈ l, 0 ≤ p.sector ∧ p.sector < k := by
  intro k l h p hp
  obtain ⟨j, hj, e, _⟩ := h.puts p hp
  omega

theorem PutsIn.take {w : World} {ad : Option Addr} {n cap : Nat} {l : List PutM} (h : PutsIn w (.slice ad n cap) l) {m : Nat} (hm : m ≤ l.length) : PutsIn w (.slice ad m cap) (l.take m) := by
  obtain ⟨ad', cap', hv, hc, hr⟩ := h
  simp only [Value.slice.injEq] at hv
  obtain ⟨rfl, _, rfl⟩ := hv
  have hl : (l.take m).length = m := by simp; omega
  refine ⟨ad, cap, by rw [hl], by omega, fun hne => ?_⟩
  obtain ⟨b, o, e, hk⟩ := hr (by rintro rfl; simp at hne)
  refine ⟨b, o, e, fun k hk2 => ?_⟩
  rw [hl] at hk2
  have e2 : (l.take m).getD k default = l.getD k default := by
    simp only [List.getD_eq_getElem?_getD, List.getElem?_take_of_lt hk2]
  rw [e2]
  exact hk k (by omega)

/-- A log of another size is none. -/
theorem LogOn.other {d : DiskM} {a s g : Nat} {F : Nat → Sec} (h : LogOn d a (s + 1) g F) (hs : 3 ≤ s) : wOpen d a s = (4, d) := by
  have hp := h.place
  have hl := h.len
  have e1 : d.now a = headB ((s + 1 : Nat) : Int) g ((0 : Nat) : Int) := by rw [now_quiet h.quiet]; exact h.rest.head
  have hck : d.check (a : Int) = 0 := DiskM.on_check h.off (by omega)
  unfold wOpen
  rw [if_neg (by simp [wThere_nat (a := a) hs (by omega : a + s ≤ d.len)]), if_neg (fun h' => h' hck), Int.toNat_natCast, if_pos]
  left
  rw [e1]
  intro e
  have e2 := congrArg (fun l => (l.drop 13).take 4) e
  simp only [headB_size] at e2
  have := numB_inj (m := 4) (a := s + 1) (b := s) (by omega) (by omega) e2
  omega
theorem new_open {n a s : Nat} (hs : 3 ≤ s) (hp : a + s ≤ n) : wOpen (DiskM.new n) a s = (4, DiskM.new n) := by
  have hck : (DiskM.new n).check (a : Int) = 0 := DiskM.on_check rfl (by show a < n; omega)
  unfold wOpen
  rw [if_neg (by simp [wThere_nat (d := DiskM.new n) (a := a) hs hp]), if_neg (fun h' => h' hck), Int.toNat_natCast, if_pos]
  left
  intro e
  have e2 := congrArg List.head? e
  have e3 : ((DiskM.new n).now a).head? = some 0 := rfl
  rw [e3] at e2
  simp [headB, markB] at e2
theorem new_few (n : Nat) : (DiskM.new n).waits.length + 20000 < 1099511627776 := by
  have e : (DiskM.new n).waits.length = 0 := rfl
  rw [e]
  decide
theorem open_nowhere {d : DiskM} {a s : Int} (h : wThere d a s = false) : wOpen d a s = (1, d) := by unfold wOpen; rw [if_pos h]
theorem format_nowhere {d : DiskM} {a s : Int} (h : wThere d a s = false) : wFormat d a s = (1, d) := by unfold wFormat; rw [if_pos h]

end Go.Proofs.Ytadefdmoijkclaa
