/- The Walsh-Hadamard transform as the code has it: stage by stage, over lists of naturals modulo 65535. -/
import Derived.Test.YtpnmmedjamkmeaaLib
import Derived.Test.YtpnmmedjamkmeaaPl
namespace Go.Proofs.Ytpnmmedjamkmeaa
open Go.RowKit

theorem gn_els (n j : Nat) (h : j < n) : gn (els n) j = el j := by simp [gn, els, h]
theorem gn_logTo (n i j : Nat) (h : j < n) : gn (logTo n i) j = if 1 ≤ j ∧ j < i then lgz (el j) else 0 := by simp [gn, logTo, h]
theorem logTo_set (n i : Nat) (h : i < n) (h1 : 1 ≤ i) : (logTo n i).set i (lgz (el i)) = logTo n (i + 1) := by
  refine ext_gn (by simp [logTo_length]) fun j hj => ?_
  simp only [List.length_set, logTo_length] at hj
  rw [gn_set _ _ _ _ (by rw [logTo_length]; exact h), gn_logTo _ _ _ hj, gn_logTo _ _ _ hj]
  by_cases e : j = i
  · subst e; rw [if_pos rfl, if_pos (by omega)]
  · rw [if_neg e]
    by_cases c : 1 ≤ j ∧ j < i
    · rw [if_pos c, if_pos (by omega)]
    · rw [if_neg c, if_neg (by omega)]
theorem gn_logList (r j : Nat) (h : j < 2 ^ r) : gn (logList r) j = lgz (el j) := by
  unfold logList
  rw [gn_logTo _ _ _ h]
  by_cases e : j = 0
  · subst e; rw [if_neg (by omega), el_zero]; rfl
  · rw [if_pos (by omega)]

/-- The first k places mapped. -/
def mapTo (f : Nat → Nat) (k : Nat) (l : List Nat) : List Nat := (l.take k).map f ++ l.drop k
theorem mapTo_zero (f : Nat → Nat) (l : List Nat) : mapTo f 0 l = l := by simp [mapTo]
theorem mapTo_full (f : Nat → Nat) (l : List Nat) : mapTo f l.length l = l.map f := by simp [mapTo]
theorem mapTo_length (f : Nat → Nat) (k : Nat) (l : List Nat) : (mapTo f k l).length = l.length := by simp [mapTo]; omega
theorem gn_mapTo (f : Nat → Nat) (k : Nat) (l : List Nat) (j : Nat) (h : j < l.length) : gn (mapTo f k l) j = if j < k then f (gn l j) else gn l j := by
  unfold gn mapTo
  rw [List.getD_eq_getElem?_getD, List.getD_eq_getElem?_getD]
  by_cases c : j < k
  · rw [if_pos c, List.getElem?_append_left (by simp; omega)]
    simp [c, h]
  · rw [if_neg c, List.getElem?_append_right (by simp; omega)]
    simp only [List.length_map, List.length_take, List.getElem?_drop]
    congr 2; omega
theorem gn_map (f : Nat → Nat) (l : List Nat) (j : Nat) (h : j < l.length) : gn (l.map f) j = f (gn l j) := by simp [gn, h]
theorem mapTo_set (f : Nat → Nat) (k : Nat) (l : List Nat) (h : k < l.length) : (mapTo f k l).set k (f (gn l k)) = mapTo f (k + 1) l := by
  refine ext_gn (by simp [mapTo_length]) fun j hj => ?_
  simp only [List.length_set, mapTo_length] at hj
  rw [gn_set _ _ _ _ (by rw [mapTo_length]; exact h), gn_mapTo _ _ _ _ hj, gn_mapTo _ _ _ _ hj]
  by_cases e : j = k
  · subst e; rw [if_pos rfl, if_pos (by omega)]
  · rw [if_neg e]
    by_cases c : j < k
    · rw [if_pos c, if_pos (by omega)]
    · rw [if_neg c, if_neg (by omega)]

/-- One stage's value at place j. -/
def stg (d : Nat) (f : Nat → Nat) (j : Nat) : Nat :=
  if j / d % 2 = 0 then (f j + f (j + d)) % 65535 else (f (j - d) + 65535 - f j) % 65535
def stage (d : Nat) (l : List Nat) : List Nat := (List.range l.length).map (stg d (gn l))
/-- s stages. -/
def stages : Nat → List Nat → List Nat
  | 0, l => l
  | s + 1, l => stage (2 ^ s) (stages s l)
theorem stage_length (d : Nat) (l : List Nat) : (stage d l).length = l.length := by simp [stage]
theorem stages_length (s : Nat) (l : List Nat) : (stages s l).length = l.length := by
  induction s with
  | zero => rfl
  | succ s ih => rw [stages, stage_length, ih]
theorem gn_stage (d : Nat) (l : List Nat) (j : Nat) (h : j < l.length) : gn (stage d l) j = stg d (gn l) j := by
  simp [gn, stage, h]
theorem stg_lt (d : Nat) (f : Nat → Nat) (j : Nat) : stg d f j < 65535 := by unfold stg; split <;> omega
theorem gn_out (l : List Nat) (j : Nat) (h : l.length ≤ j) : gn l j = 0 := by
  simp [gn, List.getElem?_eq_none h]
theorem stage_small (d : Nat) (l : List Nat) (j : Nat) : gn (stage d l) j < 65535 := by
  by_cases h : j < l.length
  · rw [gn_stage d l j h]; exact stg_lt _ _ _
  · rw [gn_out _ _ (by rw [stage_length]; omega)]; omega
theorem stages_small (s : Nat) (l : List Nat) (h : ∀ j, gn l j < 65536) (j : Nat) : gn (stages s l) j < 65536 := by
  cases s with
  | zero => exact h j
  | succ s => exact Nat.lt_succ_of_lt (stage_small _ _ _)

/-- What the list holds while a stage goes on: up to 'a' all is done, from 'a' on m places of the block and of its other half. -/
def Half (d : Nat) (l l' : List Nat) (a m : Nat) : Prop :=
  l'.length = l.length ∧ ∀ j, j < l.length → gn l' j = if j < a + m ∨ (a + d ≤ j ∧ j < a + d + m) then stg d (gn l) j else gn l j
theorem Half.start (d : Nat) (l : List Nat) : Half d l l 0 0 := ⟨rfl, fun j _ => by rw [if_neg (by omega)]⟩
theorem Half.next {d : Nat} {l l' : List Nat} {q : Nat} (h : Half d l l' (q * (2 * d)) d) : Half d l l' ((q + 1) * (2 * d)) 0 := by
  have e : (q + 1) * (2 * d) = q * (2 * d) + 2 * d := by rw [Nat.add_mul, Nat.one_mul]
  refine ⟨h.1, fun j hj => ?_⟩
  rw [h.2 j hj, e]
  by_cases c : j < q * (2 * d) + d ∨ q * (2 * d) + d ≤ j ∧ j < q * (2 * d) + d + d
  · rw [if_pos c, if_pos (by omega)]
  · rw [if_neg c, if_neg (by omega)]
theorem Half.done {d : Nat} {l l' : List Nat} {a : Nat} (h : Half d l l' a 0) (ha : l.length ≤ a) : l' = stage d l := by
  refine ext_gn (by rw [h.1, stage_length]) fun j hj => ?_
  rw [h.1] at hj
  rw [h.2 j hj, if_pos (by omega), gn_stage d l j hj]
theorem block_low {d q m : Nat} (hm : m < d) : (q * (2 * d) + m) / d % 2 = 0 := by
  have : (q * (2 * d) + m) / d = q * 2 := by
    rw [← Nat.mul_assoc, Nat.mul_comm (q * 2) d, Nat.mul_add_div (by omega), Nat.div_eq_of_lt hm, Nat.add_zero]
  rw [this]; omega
theorem block_high {d q m : Nat} (hm : m < d) : (q * (2 * d) + d + m) / d % 2 = 1 := by
  have : (q * (2 * d) + d + m) / d = q * 2 + 1 := by
    rw [← Nat.mul_assoc, Nat.mul_comm (q * 2) d, show d * (q * 2) + d + m = d * (q * 2 + 1) + m from by rw [Nat.mul_add, Nat.mul_one],
      Nat.mul_add_div (by omega), Nat.div_eq_of_lt hm, Nat.add_zero]
  rw [this]; omega
/-- One butterfly. -/
theorem Half.turn {d : Nat} {l l' : List Nat} {q m : Nat} (h : Half d l l' (q * (2 * d)) m) (hm : m < d) (hi : q * (2 * d) + m + d < l.length) :
    gn l' (q * (2 * d) + m) = gn l (q * (2 * d) + m) ∧ gn l' (q * (2 * d) + m + d) = gn l (q * (2 * d) + m + d) ∧
    Half d l ((l'.set (q * (2 * d) + m) ((gn l (q * (2 * d) + m) + gn l (q * (2 * d) + m + d)) % 65535)).set (q * (2 * d) + m + d) ((gn l (q * (2 * d) + m) + 65535 - gn l (q * (2 * d) + m + d)) % 65535)) (q * (2 * d)) (m + 1) := by
  have hl := block_low (d := d) (q := q) hm
  have hh := block_high (d := d) (q := q) hm
  generalize q * (2 * d) = a at *
  refine ⟨by rw [h.2 _ (by omega), if_neg (by omega)], by rw [h.2 _ (by omega), if_neg (by omega)], by simp [h.1], fun j hj => ?_⟩
  rw [gn_set _ _ _ _ (by simp [h.1]; omega), gn_set _ _ _ _ (by rw [h.1]; omega)]
  by_cases e1 : j = a + m + d
  · subst e1
    rw [if_pos rfl, if_pos (by omega)]
    unfold stg
    rw [show a + m + d = a + d + m from by omega, if_neg (by omega), show a + d + m - d = a + m from by omega]
  · rw [if_neg e1]
    by_cases e2 : j = a + m
    · subst e2
      rw [if_pos rfl, if_pos (by omega)]
      unfold stg
      rw [if_pos hl]
    · rw [if_neg e2, h.2 j hj]
      by_cases c : j < a + m ∨ a + d ≤ j ∧ j < a + d + m
      · rw [if_pos c, if_pos (by omega)]
      · rw [if_neg c, if_neg (by omega)]
/-- The scale of the way back. -/
def sc (t : Nat) : Nat := 2 ^ (16 - t) % 65535
theorem sc_lt (t : Nat) : sc t < 65535 := Nat.mod_lt _ (by omega)
theorem sc_int (t : Nat) : (wrap64 ((2 : Int) ^ (16 - t))).tmod 65535 = ((sc t : Nat) : Int) := by
  have h : 2 ^ (16 - t) ≤ 2 ^ 16 := Nat.pow_le_pow_right (by omega) (by omega)
  have e : ((2 : Int) ^ (16 - t)) = ((2 ^ (16 - t) : Nat) : Int) := by simp
  rw [e]
  unfold sc
  generalize 2 ^ (16 - t) = m at h
  rw [show wrap64 (m : Int) = (m : Int) from by unfold wrap64; omega, Int.tmod_eq_emod_of_nonneg (by omega)]
  omega
/-- The way back: the transform, scaled. -/
def backed (t : Nat) (l : List Nat) : List Nat := (stages t l).map fun x => x * sc t % 65535
theorem backed_length (t : Nat) (l : List Nat) : (backed t l).length = l.length := by simp [backed, stages_length]
theorem backed_small (t : Nat) (l : List Nat) (j : Nat) : gn (backed t l) j < 65535 := by
  by_cases h : j < l.length
  · unfold backed
    rw [gn_map _ _ _ (by rw [stages_length]; exact h)]
    exact Nat.mod_lt _ (by omega)
  · rw [gn_out _ _ (by rw [backed_length]; omega)]; omega
/-- Place by place. -/
def prods (a b : List Nat) : List Nat := (List.range a.length).map fun i => gn a i * gn b i % 65535
/-- The convolution as the code has it. -/
def convd (t : Nat) (a b : List Nat) : List Nat := backed t (prods (stages t a) (stages t b))
theorem prods_length (a b : List Nat) : (prods a b).length = a.length := by simp [prods]
theorem gn_prods (a b : List Nat) (j : Nat) (h : j < a.length) : gn (prods a b) j = gn a j * gn b j % 65535 := by simp [gn, prods, h]
/-- While the products are made, in the first list's place. -/
def prodTo (a b : List Nat) (k : Nat) : List Nat := (List.range a.length).map fun i => if i < k then gn a i * gn b i % 65535 else gn a i
theorem prodTo_length (a b : List Nat) (k : Nat) : (prodTo a b k).length = a.length := by simp [prodTo]
theorem gn_prodTo (a b : List Nat) (k j : Nat) (h : j < a.length) : gn (prodTo a b k) j = if j < k then gn a j * gn b j % 65535 else gn a j := by
  simp [gn, prodTo, h]
theorem prodTo_zero (a b : List Nat) : prodTo a b 0 = a := by
  refine ext_gn (prodTo_length _ _ _) fun j hj => ?_
  rw [prodTo_length] at hj
  rw [gn_prodTo _ _ _ _ hj, if_neg (by omega)]
theorem prodTo_full (a b : List Nat) : prodTo a b a.length = prods a b := by
  refine ext_gn (by rw [prodTo_length, prods_length]) fun j hj => ?_
  rw [prodTo_length] at hj
  rw [gn_prodTo _ _ _ _ hj, gn_prods _ _ _ hj, if_pos hj]
theorem prodTo_set (a b : List Nat) (k : Nat) (h : k < a.length) : (prodTo a b k).set k (gn a k * gn b k % 65535) = prodTo a b (k + 1) := by
  refine ext_gn (by simp [prodTo_length]) fun j hj => ?_
  simp only [List.length_set, prodTo_length] at hj
  rw [gn_set _ _ _ _ (by rw [prodTo_length]; exact h), gn_prodTo _ _ _ _ hj, gn_prodTo _ _ _ _ hj]
  by_cases e : j = k
  · subst e; rw [if_pos rfl, if_pos (by omega)]
  · rw [if_neg e]
    by_cases c : j < k
    · rw [if_pos c, if_pos (by omega)]
    · rw [if_neg c, if_neg (by omega)]
theorem prods_small (a b : List Nat) (j : Nat) : gn (prods a b) j < 65536 := by
  by_cases h : j < a.length
  · rw [gn_prods _ _ _ h]; have := Nat.mod_lt (gn a j * gn b j) (show 0 < 65535 by omega); omega
  · rw [gn_out _ _ (by rw [prods_length]; omega)]; omega
end Go.Proofs.Ytpnmmedjamkmeaa
