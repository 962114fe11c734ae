/- A list that is filled from its beginning on. -/
import Derived.Test.YtpnmmedjamkmeaaLib
namespace Go.Proofs.Ytpnmmedjamkmeaa
def fillTo (f : Nat → Nat) (n k : Nat) : List Nat := (List.range n).map fun j => if j < k then f j else 0
theorem fillTo_length (f : Nat → Nat) (n k : Nat) : (fillTo f n k).length = n := by simp [fillTo]
theorem gn_fillTo (f : Nat → Nat) (n k j : Nat) (h : j < n) : gn (fillTo f n k) j = if j < k then f j else 0 := by simp [gn, fillTo, h]
theorem fillTo_zero (f : Nat → Nat) (n : Nat) : fillTo f n 0 = List.replicate n 0 := by
  apply List.ext_getElem (by simp [fillTo])
  intro j h1 h2
  simp [fillTo]
theorem fillTo_set (f : Nat → Nat) (n k : Nat) (h : k < n) : (fillTo f n k).set k (f k) = fillTo f n (k + 1) := by
  refine ext_gn (by simp [fillTo_length]) fun j hj => ?_
  simp only [List.length_set, fillTo_length] at hj
  rw [gn_set _ _ _ _ (by rw [fillTo_length]; exact h), gn_fillTo _ _ _ _ hj, gn_fillTo _ _ _ _ hj]
  by_cases e : j = k
  · subst e; rw [if_pos rfl, if_pos (by omega)]
  · rw [if_neg e]
    by_cases c : j < k
    · rw [if_pos c, if_pos (by omega)]
    · rw [if_neg c, if_neg (by omega)]
theorem fillTo_full (f : Nat → Nat) (l : List Nat) (h : ∀ j, j < l.length → gn l j = f j) : fillTo f l.length l.length = l := by
  refine ext_gn (fillTo_length _ _ _) fun j hj => ?_
  rw [fillTo_length] at hj
  rw [gn_fillTo _ _ _ _ hj, if_pos hj, h j hj]
end Go.Proofs.Ytpnmmedjamkmeaa
