/- The plain numbers behind gf16: the powers of the element 2, their logarithms, the Cantor basis, the element of an index. -/
import Derived.Below
namespace Go.Proofs.Ytpnmmedjamkmeaa

/-- Twice x, in the field. -/
def dbl (x : Nat) : Nat := if 2 * x > 65535 then (2 * x) ^^^ 65581 else 2 * x
/-- 2 to the n. -/
def ex : Nat → Nat
  | 0 => 1
  | n + 1 => dbl (ex n)
/-- The table of logarithms behind n rounds of its making. -/
def lgTo : Nat → Nat → Nat
  | 0, _ => 0
  | n + 1, x => if x = ex n then n else lgTo n x
def lg (x : Nat) : Nat := lgTo 65535 x

def basisList : List Nat := [0x0001, 0xacca, 0x3c0e, 0x163e, 0xc582, 0xed2e, 0x914c, 0x4012, 0x6c98, 0x10d8, 0x6a72, 0xb900, 0xfdb8, 0xfb34, 0xff38, 0x991e]
def bas (k : Nat) : Nat := basisList.getD k 0
/-- The sum of those of the first k basis elements whose bits are set in i. -/
def elTo : Nat → Nat → Nat
  | 0, _ => 0
  | k + 1, i => if i / 2 ^ k % 2 = 1 then elTo k i ^^^ bas k else elTo k i
/-- The element of index i. -/
def el (i : Nat) : Nat := elTo 16 i

theorem xor_lt16 {a b : Nat} (ha : a < 65536) (hb : b < 65536) : a ^^^ b < 65536 := Nat.xor_lt_two_pow (n := 16) ha hb
theorem dbl_lt {x : Nat} (h : x < 65536) : dbl x < 65536 := by
  unfold dbl
  split
  · -- bit 16 is set in both
    have h1 : (2 * x) ^^^ 65581 < 2 ^ 17 := Nat.xor_lt_two_pow (by omega) (by omega)
    have h2 : ((2 * x) ^^^ 65581).testBit 16 = false := by
      rw [Nat.testBit_xor]
      have e1 : (2 * x).testBit 16 = true := by
        rw [Nat.testBit_eq_decide_div_mod_eq]
        simp
        omega
      have e2 : (65581 : Nat).testBit 16 = true := by decide
      rw [e1, e2]; rfl
    rw [Nat.testBit_eq_decide_div_mod_eq] at h2
    simp at h2
    omega
  · omega
theorem ex_lt (n : Nat) : ex n < 65536 := by
  induction n with
  | zero => decide
  | succ n ih => exact dbl_lt ih
theorem lgTo_lt (n x : Nat) (h : n ≤ 65535) : lgTo n x < 65535 := by
  induction n with
  | zero => simp [lgTo]
  | succ n ih =>
    unfold lgTo
    split
    · omega
    · exact ih (by omega)
theorem lg_lt (x : Nat) : lg x < 65535 := lgTo_lt _ _ (Nat.le_refl _)
theorem bas_lt (k : Nat) : bas k < 65536 := by
  by_cases h : k < 16
  · have : ∀ k, k < 16 → bas k < 65536 := by decide
    exact this k h
  · have : bas k = 0 := by unfold bas; rw [List.getD_eq_getElem?_getD, List.getElem?_eq_none (by simp [basisList]; omega)]; rfl
    omega
theorem elTo_lt (k i : Nat) : elTo k i < 65536 := by
  induction k with
  | zero => simp [elTo]
  | succ k ih =>
    unfold elTo
    split
    · exact xor_lt16 ih (bas_lt k)
    · exact ih
theorem elTo_low {m i k : Nat} (h : k < 2 ^ i) (hm : i ≤ m) : elTo m k = elTo i k := by
  induction m with
  | zero => rw [Nat.le_zero.1 hm]
  | succ m ih =>
    by_cases e : i = m + 1
    · rw [e]
    · rw [elTo, if_neg, ih (by omega)]
      have : k < 2 ^ m := Nat.lt_of_lt_of_le h (Nat.pow_le_pow_right (by omega) (by omega))
      rw [Nat.div_eq_of_lt this]; omega
theorem div_pow_add {i t k : Nat} (h : t < i) : (2 ^ i + k) / 2 ^ t % 2 = k / 2 ^ t % 2 := by
  have : 2 ^ i = 2 ^ t * (2 * 2 ^ (i - t - 1)) := by
    rw [← Nat.pow_succ', ← Nat.pow_add]; congr 1; omega
  rw [this, Nat.mul_add_div (Nat.two_pow_pos t)]
  omega
theorem elTo_add {i t k : Nat} (h : t ≤ i) : elTo t (2 ^ i + k) = elTo t k := by
  induction t with
  | zero => rfl
  | succ t ih => rw [elTo, elTo, div_pow_add (by omega), ih (by omega)]
/-- The element of an index with one bit more on its top. -/
theorem el_top {i k : Nat} (h : k < 2 ^ i) (hi : i < 16) : el (2 ^ i + k) = el k ^^^ bas i := by
  unfold el
  have h2 : 2 ^ i + k < 2 ^ (i + 1) := by rw [Nat.pow_succ]; omega
  rw [elTo_low h2 (by omega), elTo_low h (by omega), elTo, if_pos, elTo_add (Nat.le_refl _)]
  rw [Nat.add_div_left _ (Nat.two_pow_pos i), Nat.div_eq_of_lt h]
theorem el_zero : el 0 = 0 := by decide
/-- The elements of the indices below n. -/
def els (n : Nat) : List Nat := (List.range n).map el
theorem els_length (n : Nat) : (els n).length = n := by simp [els]
theorem els_one : els 1 = [0] := by decide
theorem els_succ (n : Nat) : els (n + 1) = els n ++ [el n] := by simp [els, List.range_succ]
/-- The logarithm that the tables tell: 0 of 0. -/
def lgz (x : Nat) : Nat := if x = 0 then 0 else lg x
theorem lgz_lt (x : Nat) : lgz x < 65535 := by unfold lgz; split; omega; exact lg_lt x
/-- The list of logarithms, while it is made: the first i are done. -/
def logTo (n i : Nat) : List Nat := (List.range n).map fun j => if 1 ≤ j ∧ j < i then lgz (el j) else 0
theorem logTo_length (n i : Nat) : (logTo n i).length = n := by simp [logTo]
theorem logTo_one (n : Nat) : logTo n 1 = List.replicate n 0 := by
  apply List.ext_getElem (by simp [logTo])
  intro j h1 h2
  simp [logTo]
  omega
def logList (r : Nat) : List Nat := logTo (2 ^ r) (2 ^ r)
theorem logList_length (r : Nat) : (logList r).length = 2 ^ r := logTo_length _ _
theorem el_lt (i : Nat) : el i < 65536 := elTo_lt 16 i
end Go.Proofs.Ytpnmmedjamkmeaa
