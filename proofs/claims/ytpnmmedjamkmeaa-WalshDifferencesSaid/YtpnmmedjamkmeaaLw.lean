/- The plain law of WalshDifferences: the locator's logarithms are the sums over the lost indices, their powers the products of the differences. -/
import Derived.Test.YtpnmmedjamkmeaaCv
import Derived.Test.YtpnmmedjamkmeaaGf
import Derived.Test.YtpnmmedjamkmeaaWi
set_option linter.unusedVariables false
namespace Go.Proofs.Ytpnmmedjamkmeaa

theorem SX_point (t e : Nat) (c : Int) (he : e < 2 ^ t) : SX t (fun n => if n = e then c else 0) = c := by
  have h := SX_shift t (fun n => if n = e then c else 0) e he
  rw [← h]
  have e1 : (fun j => (fun n => if n = e then c else 0) (j ^^^ e)) = fun j => if j = 0 then c else 0 := by
    funext j
    by_cases hj : j = 0
    · subst hj; simp
    · have : j ^^^ e ≠ e := fun hh => hj (by
        have : j ^^^ e ^^^ e = e ^^^ e := by rw [hh]
        rwa [Nat.xor_assoc, Nat.xor_self, Nat.xor_zero] at this)
      simp [hj, this]
  rw [e1]
  clear h e1 he
  induction t with
  | zero => simp [SX]
  | succ t ih =>
    rw [SX, ih]
    have : SX t (fun j => if 2 ^ t ^^^ j = 0 then c else 0) = SX t (fun _ => 0) := by
      refine SX_congr fun j hj => ?_
      rw [if_neg]
      intro h
      have := xor_eq_zero h
      omega
    rw [this]
    have z : SX t (fun _ => 0) = 0 := by
      have := SX_mul t 0 (fun _ => 0)
      simpa using this
    rw [z, Int.add_zero]

/-- The sum of the logarithms of the differences to the first k lost indices. -/
def sumLg (l : List Int) (i : Nat) : Nat → Nat
  | 0 => 0
  | k + 1 => sumLg l i k + lgz (el (i ^^^ (ga l k).toNat))
theorem rising {l : List Int} {N : Nat} (h : okAll l N) : ∀ k, k < l.length → ∀ j, j < k → ga l j < ga l k := by
  intro k
  induction k with
  | zero => intro _ j hj; omega
  | succ k ih =>
    intro hk j hj
    have h1 := (h (k + 1) hk).2.2 (by omega)
    simp only [Nat.add_sub_cancel] at h1
    by_cases e : j = k
    · subst e; exact h1
    · have := ih (by omega) j (by omega); omega
theorem marksTo_zero {l : List Int} {N : Nat} (h : okAll l N) (k : Nat) (hk : k ≤ l.length) (e : Nat) (he : ∀ j, j < k → (ga l j).toNat ≠ e) : gn (marksTo l N k) e = 0 := by
  induction k with
  | zero =>
    by_cases c : e < N
    · simp [marksTo, gn, c]
    · rw [gn_out _ _ (by rw [marksTo_length]; omega)]
  | succ k ih =>
    rw [marksTo, gn_set _ _ _ _ (by rw [marksTo_length]; have := (h k (by omega)).2.1; have := (h k (by omega)).1; omega), if_neg (fun c => he k (by omega) c.symm)]
    exact ih (by omega) fun j hj => he j (by omega)
theorem conv_marks {l : List Int} {r : Nat} (h : okAll l (2 ^ r)) (i : Nat) (hi : i < 2 ^ r) (k : Nat) (hk : k ≤ l.length) :
    conv r (fun j => (gn (marksTo l (2 ^ r) k) j : Int)) (fun j => (gn (logList r) j : Int)) i = (sumLg l i k : Int) := by
  induction k with
  | zero =>
    unfold conv
    have : SX r (fun n => ((gn (marksTo l (2 ^ r) 0) n : Nat) : Int) * ((gn (logList r) (i ^^^ n) : Nat) : Int)) = SX r (fun n => 0 * (1 : Int)) := by
      refine SX_congr fun n hn => ?_
      rw [marksTo_zero h 0 (by omega) n (by omega)]; simp
    rw [this, SX_mul]
    simp [sumLg]
  | succ k ih =>
    have hok := h k (by omega)
    have he : (ga l k).toNat < 2 ^ r := by have := hok.2.1; have := hok.1; omega
    rw [sumLg, Int.natCast_add, ← ih (by omega)]
    unfold conv
    have hx : i ^^^ (ga l k).toNat < 2 ^ r := Nat.xor_lt_two_pow hi he
    rw [← gn_logList r _ hx]
    have hp := SX_point r (ga l k).toNat ((gn (logList r) (i ^^^ (ga l k).toNat) : Nat) : Int) he
    rw [← hp, ← SX_add]
    refine SX_congr fun n hn => ?_
    show ((gn (marksTo l (2 ^ r) (k + 1)) n : Nat) : Int) * _ = _
    rw [marksTo, gn_set _ _ _ _ (by rw [marksTo_length]; exact he)]
    by_cases e : n = (ga l k).toNat
    · subst e
      rw [if_pos rfl, if_pos rfl]
      have hz := marksTo_zero h k (by omega) (ga l k).toNat (fun j hj => by
        have h1 := rising h k (by omega) j hj
        have h2 := (h j (by omega)).1
        omega)
      simp only [hz]; simp
    · rw [if_neg e, if_neg e, Int.add_zero]
theorem convd_small (t : Nat) (a b : List Nat) (j : Nat) : gn (convd t a b) j < 65535 := backed_small _ _ _
/-- The locator at i: the sum of the logarithms. -/
theorem loc_value {l : List Int} {r : Nat} (hr : r ≤ 16) (h : okAll l (2 ^ r)) (i : Nat) (hi : i < 2 ^ r) : gn (convd r (marks l (2 ^ r)) (logList r)) i = sumLg l i l.length % 65535 := by
  have hv := convd_value (t := r) (a := marks l (2 ^ r)) (b := logList r) hr (marksTo_length _ _ _) (logList_length r) (fun j => by have := marksTo_le l (2 ^ r) l.length j; unfold marks; omega)
    (fun j => by
      by_cases h : j < 2 ^ r
      · rw [gn_logList _ _ h]; exact Nat.lt_of_lt_of_le (lgz_lt _) (by omega)
      · rw [gn_out _ _ (by rw [logList_length]; omega)]; omega) i hi
  have hc := conv_marks h i hi l.length (Nat.le_refl _)
  unfold marks at hv
  rw [hc] at hv
  have hs := convd_small r (marks l (2 ^ r)) (logList r) i
  unfold marks at hs ⊢
  omega
/-- The product of the differences to the first k lost indices, by the tables. -/
def wantTo (l : List Int) (i : Nat) : Nat → Nat
  | 0 => 1
  | k + 1 => if ga l k = (i : Int) then wantTo l i k else tmul (wantTo l i k) (el i ^^^ el (ga l k).toNat)
theorem want_value {l : List Int} {r : Nat} (hr : r ≤ 16) (h : okAll l (2 ^ r)) (i : Nat) (hi : i < 2 ^ r) (k : Nat) (hk : k ≤ l.length) : wantTo l i k = ex (sumLg l i k % 65535) := by
  have hN : 2 ^ r ≤ 65536 := Nat.pow_le_pow_right (n := 2) (by omega) hr
  induction k with
  | zero => rfl
  | succ k ih =>
    have hok := h k (by omega)
    have h1 := hok.1
    have h2 := hok.2.1
    rw [wantTo, sumLg, ih (by omega)]
    by_cases e : ga l k = (i : Int)
    · rw [if_pos e, e, Int.toNat_natCast, Nat.xor_self, el_zero]
      simp [lgz]
    · rw [if_neg e]
      have hne : i ^^^ (ga l k).toNat ≠ 0 := fun c => e (by have := xor_eq_zero c; omega)
      have hlt : i ^^^ (ga l k).toNat < 65536 := xor_lt16 (by omega) (by omega)
      have hel := el_ne_zero hlt hne
      rw [← el_xor]
      unfold tmul lgz
      rw [if_neg (by simp only [not_or]; exact ⟨ex_ne_zero _, hel⟩), if_neg hel, lg_ex (Nat.mod_lt _ (by omega))]
      congr 1
      omega
theorem wantTo_lt (l : List Int) (i k : Nat) : wantTo l i k < 65536 := by
  induction k with
  | zero => simp [wantTo]
  | succ k ih =>
    rw [wantTo]
    split
    · exact ih
    · exact tmul_lt _ _
end Go.Proofs.Ytpnmmedjamkmeaa
