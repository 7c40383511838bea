/- The log: a group is done; no condition. -/
import Derived.Test.YtaiobekochhemaaWalW5
namespace Go.Proofs.Ytaiobekochhemaa
open Go.RowKit Go.MapKept

/-! ### The model, step by step -/
theorem wBytes_succ {d dk : DiskM} {a s k : Nat} {l : List PutM} (h : wBytes d a s l k = (0, dk)) : wBytes d a s l (k + 1) = dk.write ((wFirst a s + k : Nat) : Int) (l.getD k default).bytes := by
  simp only [wBytes, h]; rw [if_neg (by simp)]
theorem wBytes_stop {d : DiskM} {a s k : Nat} {l : List PutM} (h : (wBytes d a s l k).1 ≠ 0) : ∀ n, wBytes d a s l (k + n) = wBytes d a s l k
  | 0 => rfl
  | n + 1 => by
    have e := wBytes_stop h n
    show (if (wBytes d a s l (k + n)).1 ≠ 0 then wBytes d a s l (k + n) else _) = _
    rw [e, if_pos h]
theorem wBytes_waits (d : DiskM) (a s : Nat) (l : List PutM) : ∀ k, (wBytes d a s l k).2.waits.length ≤ d.waits.length + k
  | 0 => Nat.le_refl _
  | k + 1 => by
    have := wBytes_waits d a s l k
    simp only [wBytes]
    split
    · omega
    · have := write_waits (wBytes d a s l k).2 ((wFirst a s + k : Nat) : Int) (l.getD k default).bytes
      omega
theorem wLists_succ {d dk : DiskM} {a k : Nat} {l : List PutM} (h : wLists d a l k = (0, dk)) : wLists d a l (k + 1) = dk.write ((a + 1 + k : Nat) : Int) (wList l k) := by
  simp only [wLists, h]; rw [if_neg (by simp)]
theorem wLists_stop {d : DiskM} {a k : Nat} {l : List PutM} (h : (wLists d a l k).1 ≠ 0) : ∀ n, wLists d a l (k + n) = wLists d a l k
  | 0 => rfl
  | n + 1 => by
    have e := wLists_stop h n
    show (if (wLists d a l (k + n)).1 ≠ 0 then wLists d a l (k + n) else _) = _
    rw [e, if_pos h]
theorem wLists_waits (d : DiskM) (a : Nat) (l : List PutM) : ∀ k, (wLists d a l k).2.waits.length ≤ d.waits.length + k
  | 0 => Nat.le_refl _
  | k + 1 => by
    have := wLists_waits d a l k
    simp only [wLists]
    split
    · omega
    · have := write_waits (wLists d a l k).2 ((a + 1 + k : Nat) : Int) (wList l k)
      omega

theorem wCommit_no {d : DiskM} {a s : Nat} {g : Int} {l : List PutM} (h : wMay d.len a s l = false) : wCommit d a s g l = (20, g, d) := by
  unfold wCommit; rw [if_pos h]
theorem wCommit_bytes {d dk : DiskM} {a s k : Nat} {g r : Int} {l : List PutM} (h : wMay d.len a s l = true) (hb : wBytes d a s l k = (r, dk)) (hr : r ≠ 0) (hk : k ≤ l.length) : wCommit d a s g l = (r, g, dk) := by
  obtain ⟨m, hm⟩ := Nat.exists_eq_add_of_le hk
  have e : wBytes d a s l l.length = (r, dk) := by rw [hm, wBytes_stop (by rw [hb]; exact hr) m, hb]
  unfold wCommit
  rw [if_neg (by simp [h]), e, if_pos hr]
theorem wCommit_lists {d dn dk : DiskM} {a s k : Nat} {g r : Int} {l : List PutM} (h : wMay d.len a s l = true) (hb : wBytes d a s l l.length = (0, dn)) (hl : wLists dn a l k = (r, dk)) (hr : r ≠ 0) (hk : k ≤ listsN l.length) : wCommit d a s g l = (r, g, dk) := by
  obtain ⟨m, hm⟩ := Nat.exists_eq_add_of_le hk
  have e : wLists dn a l (listsN l.length) = (r, dk) := by rw [hm, wLists_stop (by rw [hl]; exact hr) m, hl]
  unfold wCommit
  rw [if_neg (by simp [h]), hb, if_neg (by simp)]
  simp only [e]
  rw [if_pos hr]
theorem wCommit_both {d dn dm db : DiskM} {a s : Nat} {g r : Int} {l : List PutM} (h : wMay d.len a s l = true) (hb : wBytes d a s l l.length = (0, dn)) (hl : wLists dn a l (listsN l.length) = (0, dm)) (ho : wBoth dm a s (wrap64 (g + 1)) l.length = (r, db)) :
    wCommit d a s g l = if r ≠ 0 ∨ l.length = 0 then (r, wrap64 (g + 1), db) else ((wFinish db a s (wrap64 (g + 1)) l.length).1, wrap64 (g + 1), (wFinish db a s (wrap64 (g + 1)) l.length).2) := by
  unfold wCommit
  rw [if_neg (by simp [h]), hb, if_neg (by simp)]
  simp only [hl]
  rw [if_neg (by simp)]
  simp only [ho]

/-- So many of the places of a group's sectors, the rest noughts. -/
def wListTo (l : List PutM) (c k : Nat) : Sec := (((l.drop (32 * c)).take k).flatMap fun p => numB 2 p.sector) ++ List.replicate (64 - 2 * k) 0
theorem flatMap_numB (l : List PutM) : (l.flatMap fun p => numB 2 p.sector).length = 2 * l.length := by
  induction l with
  | nil => rfl
  | cons p l ih => simp [numB_length, ih]; omega
theorem wListTo_length {l : List PutM} {c k : Nat} (hk : k ≤ 32) (hl : 32 * c + k ≤ l.length) : (wListTo l c k).length = 64 := by
  unfold wListTo
  rw [List.length_append, flatMap_numB]
  simp; omega
theorem wListTo_succ {l : List PutM} {c k : Nat} (hk : k < 32) (hl : 32 * c + k < l.length) : putAt (wListTo l c k) (2 * k) (numB 2 (l.getD (32 * c + k) default).sector) = wListTo l c (k + 1) := by
  have h1 : (((l.drop (32 * c)).take k).flatMap fun p => numB 2 p.sector).length = 2 * k := by rw [flatMap_numB]; simp; omega
  have h2 : (l.drop (32 * c)).take (k + 1) = (l.drop (32 * c)).take k ++ [l.getD (32 * c + k) default] := by
    rw [List.take_succ_eq_append_getElem (by simp; omega)]
    simp [hl]
  unfold putAt wListTo
  rw [h2, List.flatMap_append, numB_length]
  simp only [List.flatMap_cons, List.flatMap_nil, List.append_nil]
  generalize ((l.drop (32 * c)).take k).flatMap (fun p => numB 2 p.sector) = F at h1
  rw [List.take_append_of_le_length (by omega), List.take_of_length_le (by omega), List.drop_append, List.drop_of_length_le (by omega), h1]
  simp only [List.nil_append, List.drop_replicate]
  congr 2
  omega
theorem wList_eq {l : List PutM} {c k : Nat} (hk : k = min 32 (l.length - 32 * c)) : wListTo l c k = wList l c := by
  have h2 : (l.drop (32 * c)).take 32 = (l.drop (32 * c)).take k := by
    by_cases h : 32 * c + 32 ≤ l.length
    · rw [show k = 32 by omega]
    · rw [List.take_of_length_le (by simp; omega), List.take_of_length_le (by simp; omega)]
  have h1 : (((l.drop (32 * c)).take k).flatMap fun p => numB 2 p.sector).length = 2 * k := by rw [flatMap_numB]; simp; omega
  unfold wList wListTo
  rw [h2]
  simp only [h1]

end Go.Proofs.Ytaiobekochhemaa
