/-
  The cut ways of the network and of its reference, in plain lists.
-/
import Derived.Test.YtjeiakfdjbnkaaaRefJoin
import Derived.Test.YtjeiakfdjbnkaaaNetCutWalks
namespace Go.Proofs.Ytjeiakfdjbnkaaa

/-- A way that was cut between a and b is the way between x and y. -/
theorem meets_btw (x y a b : Int) : meets x y (a, b) = decide (btw a b = btw x y) := by
  unfold meets btw
  by_cases h : (a = x ∧ b = y) ∨ (a = y ∧ b = x)
  · rcases h with ⟨rfl, rfl⟩ | ⟨rfl, rfl⟩
    · simp
    · simp [Int.min_comm, Int.max_comm]
  · have h1 : ¬ ((min a b, max a b) = (min x y, max x y)) := by
      intro he
      simp only [Prod.mk.injEq] at he
      apply h
      omega
    rw [decide_eq_false h1]
    cases hb : (decide (a = x) && decide (b = y)) || (decide (a = y) && decide (b = x))
    · rfl
    · exfalso; apply h; simpa using hb

/-- The same ways are cut. -/
def Same (cut ws : List (Int × Int)) : Prop := ∀ x y, refCut ws x y = hasWay cut (btw x y)

theorem refCut_put (ws : List (Int × Int)) (a b x y : Int) : refCut (ws ++ [(a, b)]) x y = (refCut ws x y || decide (btw a b = btw x y)) := by
  unfold refCut; rw [List.any_append, ← meets_btw]; simp

theorem hasWay_put (l : List (Int × Int)) (p q : Int × Int) : hasWay (cutWay l p) q = (hasWay l q || decide (p = q)) := by
  unfold hasWay cutWay
  split
  · rename_i h
    by_cases e : p = q
    · subst e; simp_all
    · simp [e]
  · by_cases e : p = q
    · subst e; simp
    · have : q ≠ p := fun h => e h.symm
      simp [e, this]

theorem Same.put {cut ws : List (Int × Int)} (h : Same cut ws) (a b : Int) : Same (cutWay cut (btw a b)) (ws ++ [(a, b)]) := fun x y => by
  rw [refCut_put, hasWay_put, h x y]

theorem refCut_join (ws : List (Int × Int)) (a b x y : Int) : refCut (refJoin ws a b) x y = (refCut ws x y && !decide (btw a b = btw x y)) := by
  unfold refCut refJoin
  induction ws with
  | nil => simp
  | cons q ws ih =>
    obtain ⟨c, d⟩ := q
    have m1 := meets_btw a b c d
    have m2 := meets_btw x y c d
    by_cases e1 : btw c d = btw a b
    · have m1' : meets a b (c, d) = true := by rw [m1]; simp [e1]
      rw [List.filter_cons_of_neg (by simp [m1']), ih, List.any_cons, m2, e1]
      by_cases e2 : btw a b = btw x y <;> simp [e2]
    · have m1' : meets a b (c, d) = false := by rw [m1]; simp [e1]
      rw [List.filter_cons_of_pos (by simp [m1']), List.any_cons, ih, List.any_cons, m2]
      by_cases e2 : btw c d = btw x y
      · have : btw a b ≠ btw x y := fun h => e1 (e2.trans h.symm)
        simp [e2, this]
      · simp [e2]

theorem hasWay_join {l : List (Int × Int)} (hnd : l.Nodup) (p q : Int × Int) : hasWay (joinWay l p) q = (hasWay l q && !decide (p = q)) := by
  unfold hasWay joinWay
  cases h : wayAt p l with
  | none =>
    have h1 := wayAt_none h
    by_cases e : p = q
    · subst e; simp only [h1]; simp
    · simp [e]
  | some k =>
    obtain ⟨_, hk, hp⟩ := wayAt_some h
    have hperm := erase_perm l (0, 0) k hk
    rw [List.getD_eq_getElem?_getD, List.getElem?_eq_getElem hk, Option.getD_some, hp] at hperm
    have hnd2 := hperm.nodup_iff.2 hnd
    have hm : ∀ z, z ∈ l ↔ z = p ∨ z ∈ l.eraseIdx k := fun z => by rw [← hperm.mem_iff, List.mem_cons]
    have hpn : p ∉ l.eraseIdx k := (List.nodup_cons.1 hnd2).1
    rw [Bool.eq_iff_iff]
    simp only [List.contains_iff_mem, Bool.and_eq_true, Bool.not_eq_true', decide_eq_false_iff_not]
    constructor
    · intro hq
      exact ⟨(hm q).2 (.inr hq), fun e => hpn (by rw [e]; exact hq)⟩
    · rintro ⟨hq, hne⟩
      rcases (hm q).1 hq with e | e
      · exact absurd e.symm hne
      · exact e

theorem Same.join {cut ws : List (Int × Int)} (h : Same cut ws) (hnd : cut.Nodup) (a b : Int) : Same (joinWay cut (btw a b)) (refJoin ws a b) := fun x y => by
  rw [refCut_join, hasWay_join hnd, h x y]

theorem Same.none : Same [] [] := fun x y => rfl

end Go.Proofs.Ytjeiakfdjbnkaaa
