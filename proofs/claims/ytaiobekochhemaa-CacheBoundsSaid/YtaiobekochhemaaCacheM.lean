/- The cache: a plain model of it; no condition. -/
import Derived.Test.YtaiobekochhemaaMaps2
import Derived.Test.YtaiobekochhemaaDiskM
namespace Go.Proofs.Ytaiobekochhemaa
open Go.RowKit Go.MapKept

/-- A sector that is held. -/
structure LineM where
  at' : Int
  b : Sec
  pin : Bool
instance : Inhabited LineM := ⟨⟨0, [], false⟩⟩
/-- The lines, the one that was used the longest ago first. -/
structure CacheM where
  most : Int
  misses : Int
  isOpen : Bool
  lines : List LineM

def findL (i : Int) : List LineM → Option LineM
  | [] => none
  | x :: r => if x.at' = i then some x else findL i r
def forgetL (i : Int) : List LineM → List LineM
  | [] => []
  | x :: r => if x.at' = i then r else x :: forgetL i r
def useL (x : LineM) (ls : List LineM) : List LineM := forgetL x.at' ls ++ [x]
/-- The first line that is not pinned, taken out. -/
def dropFree : List LineM → Option (List LineM)
  | [] => none
  | x :: r => if x.pin = false then some r else (dropFree r).map (x :: ·)
def trimL (most : Int) : Nat → List LineM → List LineM
  | 0, ls => ls
  | n + 1, ls => if (ls.length : Int) ≤ most then ls else match dropFree ls with
    | none => ls
    | some r => trimL most n r
def CacheM.trim (c : CacheM) : CacheM := { c with lines := trimL c.most c.lines.length c.lines }

structure CacheM.WF (c : CacheM) : Prop where
  nodup : (c.lines.map (·.at')).Nodup
  bytes : ∀ x ∈ c.lines, x.b.length = 64
  most : 1 ≤ c.most ∧ c.most ≤ 9223372036854775807
  misses : -9223372036854775808 ≤ c.misses ∧ c.misses ≤ 9223372036854775807
  closed : c.isOpen = false → ∀ x ∈ c.lines, x.pin = false
  place : ∀ x ∈ c.lines, x.pin = true → 0 ≤ x.at' ∧ x.at' ≤ 8192

theorem forgetL_sub (i : Int) : ∀ (ls : List LineM), (forgetL i ls).Sublist ls
  | [] => by simp [forgetL]
  | x :: r => by
    simp only [forgetL]
    split
    · exact List.sublist_cons_self x r
    · exact (forgetL_sub i r).cons_cons x
theorem forgetL_not {i : Int} : ∀ {ls : List LineM}, (ls.map (·.at')).Nodup → i ∉ (forgetL i ls).map (·.at')
  | [], _ => by simp [forgetL]
  | x :: r, h => by
    simp only [List.map_cons, List.nodup_cons] at h
    simp only [forgetL]
    split
    · rename_i e
      rw [← e]
      exact h.1
    · rename_i e
      simp only [List.map_cons, List.mem_cons, not_or]
      exact ⟨Ne.symm e, forgetL_not h.2⟩
theorem forgetL_none {i : Int} : ∀ {ls : List LineM}, findL i ls = none → forgetL i ls = ls
  | [], _ => rfl
  | x :: r, h => by
    simp only [findL] at h
    split at h
    · cases h
    · rename_i e
      simp only [forgetL]
      rw [if_neg e, forgetL_none h]
theorem findL_forgetL (i j : Int) : ∀ {ls : List LineM}, (ls.map (·.at')).Nodup → findL j (forgetL i ls) = if j = i then none else findL j ls
  | [], _ => by simp [forgetL, findL]
  | x :: r, h => by
    have h' := h
    simp only [List.map_cons, List.nodup_cons] at h
    simp only [forgetL]
    by_cases e : x.at' = i
    · rw [if_pos e]
      by_cases hj : j = i
      · subst hj
        rw [if_pos rfl]
        have hn : j ∉ r.map (·.at') := by rw [← e]; exact h.1
        clear h h' e
        induction r with
        | nil => rfl
        | cons y r ih =>
          simp only [List.map_cons, List.mem_cons, not_or] at hn
          simp only [findL]
          rw [if_neg (Ne.symm hn.1)]
          exact ih hn.2
      · rw [if_neg hj]
        simp only [findL]
        rw [if_neg (by rw [e]; exact Ne.symm hj)]
    · rw [if_neg e]
      simp only [findL]
      by_cases hx : x.at' = j
      · rw [if_pos hx, if_neg (by rw [← hx]; exact e), if_pos hx]
      · rw [if_neg hx, findL_forgetL i j h.2, if_neg hx]
theorem findL_snoc (j : Int) (x : LineM) : ∀ (ls : List LineM), findL j (ls ++ [x]) = if (findL j ls).isSome then findL j ls else if x.at' = j then some x else none
  | [] => by simp [findL]
  | y :: r => by
    simp only [List.cons_append, findL]
    by_cases h : y.at' = j
    · simp [h]
    · simp only [h, if_false]
      exact findL_snoc j x r
theorem findL_useL {x : LineM} {ls : List LineM} (h : (ls.map (·.at')).Nodup) (j : Int) : findL j (useL x ls) = if j = x.at' then some x else findL j ls := by
  unfold useL
  rw [findL_snoc, findL_forgetL _ _ h]
  by_cases e : j = x.at'
  · subst e; simp
  · rw [if_neg e]
    have e2 : ¬ x.at' = j := Ne.symm e
    cases h2 : findL j ls with
    | none => simp [e, e2]
    | some y => simp [e]
theorem useL_nodup {x : LineM} {ls : List LineM} (h : (ls.map (·.at')).Nodup) : ((useL x ls).map (·.at')).Nodup := by
  unfold useL
  rw [List.map_append, List.nodup_append]
  refine ⟨((forgetL_sub x.at' ls).map _).nodup h, by simp, fun a ha b hb => ?_⟩
  simp only [List.map_cons, List.map_nil, List.mem_singleton] at hb
  subst hb
  intro e
  subst e
  exact forgetL_not h ha
theorem dropFree_sub : ∀ {ls r : List LineM}, dropFree ls = some r → r.Sublist ls ∧ r.length + 1 = ls.length
  | [], _, h => by simp [dropFree] at h
  | x :: l, r, h => by
    simp only [dropFree] at h
    split at h
    · simp only [Option.some.injEq] at h
      subst h
      exact ⟨List.sublist_cons_self x l, rfl⟩
    · cases hd : dropFree l with
      | none => simp [hd] at h
      | some r' =>
        simp only [hd, Option.map_some, Option.some.injEq] at h
        subst h
        obtain ⟨h1, h2⟩ := dropFree_sub hd
        exact ⟨h1.cons_cons x, by simp [h2]⟩
theorem trimL_sub (most : Int) : ∀ (n : Nat) (ls : List LineM), (trimL most n ls).Sublist ls
  | 0, ls => List.Sublist.refl _
  | n + 1, ls => by
    simp only [trimL]
    split
    · exact List.Sublist.refl _
    · split
      · exact List.Sublist.refl _
      · rename_i r hd
        exact (trimL_sub most n r).trans (dropFree_sub hd).1

end Go.Proofs.Ytaiobekochhemaa
