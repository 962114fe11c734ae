/- Walks: bits.Len64, ring.Degree, isModulus. -/
import Derived.Test.YtpnmmedjamkmeaaGreatProg
import Derived.Test.YtpnmmedjamkmeaaGreatGivesG1
import Derived.Test.YtpnmmedjamkmeaaGreatGivesG2
set_option linter.unusedVariables false
set_option linter.unusedSimpArgs false
namespace Go.Proofs.YtpnmmedjamkmeaaGreat
open Go.RowKit

def len8 : ByteArray := ⟨#[0, 1, 2, 2, 3, 3, 3, 3, 4, 4, 4, 4, 4, 4, 4, 4, 5, 5, 5, 5, 5, 5, 5, 5, 5, 5, 5, 5, 5, 5, 5, 5, 6, 6, 6, 6, 6, 6, 6, 6, 6, 6, 6, 6, 6, 6, 6, 6, 6, 6, 6, 6, 6, 6, 6, 6, 6, 6, 6, 6, 6, 6, 6, 6, 7, 7, 7, 7, 7, 7, 7, 7, 7, 7, 7, 7, 7, 7, 7, 7, 7, 7, 7, 7, 7, 7, 7, 7, 7, 7, 7, 7, 7, 7, 7, 7, 7, 7, 7, 7, 7, 7, 7, 7, 7, 7, 7, 7, 7, 7, 7, 7, 7, 7, 7, 7, 7, 7, 7, 7, 7, 7, 7, 7, 7, 7, 7, 7, 8, 8, 8, 8, 8, 8, 8, 8, 8, 8, 8, 8, 8, 8, 8, 8, 8, 8, 8, 8, 8, 8, 8, 8, 8, 8, 8, 8, 8, 8, 8, 8, 8, 8, 8, 8, 8, 8, 8, 8, 8, 8, 8, 8, 8, 8, 8, 8, 8, 8, 8, 8, 8, 8, 8, 8, 8, 8, 8, 8, 8, 8, 8, 8, 8, 8, 8, 8, 8, 8, 8, 8, 8, 8, 8, 8, 8, 8, 8, 8, 8, 8, 8, 8, 8, 8, 8, 8, 8, 8, 8, 8, 8, 8, 8, 8, 8, 8, 8, 8, 8, 8, 8, 8, 8, 8, 8, 8, 8, 8, 8, 8, 8, 8, 8, 8, 8, 8, 8, 8, 8, 8, 8, 8, 8, 8, 8, 8]⟩
set_option maxRecDepth 20000 in
theorem len8_size : len8.size = 256 := by rfl
set_option maxRecDepth 20000 in
theorem len8_blen (i : Fin 256) : (len8[i.1]'(by rw [len8_size]; exact i.2)).toNat = blen i.1 := by
  revert i
  decide +kernel
theorem blen8 {x : Nat} (h : x < 256) : blen x ≤ 8 := blen_le (k := 8) h

set_option maxRecDepth 20000 in
theorem Len64_a (x : Nat) (h : x < 256) (w : World) :
    Calls Tryz.prog 141 #[.int .u64 (x : Int)] w fun e w' => e = .returned (.int .i64 (blen x : Int)) ∧ w' = w := by
  have h1 : decide (4294967296 ≤ (x : Int)) = false := by simp; omega
  have h2 : decide (65536 ≤ (x : Int)) = false := by simp; omega
  have h3 : decide (256 ≤ (x : Int)) = false := by simp; omega
  go_enter Tryz.func141, Tryz.ntmps141
  go_wp2_with fail
  go_ret
  refine ⟨ret_int ?_, rfl⟩
  have hb := blen8 h
  have hk : (len8[x]'(by rw [len8_size]; exact h)).toNat = blen x := len8_blen ⟨x, h⟩
  show wrap64 (wrap64 ((len8[x]'(by rw [len8_size]; exact h)).toNat : Int)) = _
  rw [hk]
  unfold wrap64
  omega

set_option maxRecDepth 20000 in
theorem Len64_b (x : Nat) (h : x < 65536) (h' : 256 ≤ x) (w : World) :
    Calls Tryz.prog 141 #[.int .u64 (x : Int)] w fun e w' => e = .returned (.int .i64 (blen x : Int)) ∧ w' = w := by
  have h1 : decide (4294967296 ≤ (x : Int)) = false := by simp; omega
  have h2 : decide (65536 ≤ (x : Int)) = false := by simp; omega
  have h3 : decide (256 ≤ (x : Int)) = true := by simp; omega
  go_enter Tryz.func141, Tryz.ntmps141
  go_wp2_with fail
  go_ret
  refine ⟨ret_int ?_, rfl⟩
  have hq : x / 256 < 256 := by omega
  have hb := blen8 hq
  have hk : (len8[x / 256]'(by rw [len8_size]; exact hq)).toNat = blen (x / 256) := len8_blen ⟨x / 256, hq⟩
  have hd := blen_div x 8 h'
  show wrap64 (8 + wrap64 ((len8[x / 256]'(by rw [len8_size]; exact hq)).toNat : Int)) = _
  rw [hk, hd]
  rw [show (2 : Nat) ^ 8 = 256 from rfl]
  unfold wrap64
  omega

set_option maxRecDepth 20000 in
theorem Len64_c (x : Nat) (h : x < 16777216) (h' : 65536 ≤ x) (w : World) :
    Calls Tryz.prog 141 #[.int .u64 (x : Int)] w fun e w' => e = .returned (.int .i64 (blen x : Int)) ∧ w' = w := by
  have h1 : decide (4294967296 ≤ (x : Int)) = false := by simp; omega
  have h2 : decide (65536 ≤ (x : Int)) = true := by simp; omega
  have h3 : decide (256 ≤ (x : Int) / 65536) = false := by simp; omega
  go_enter Tryz.func141, Tryz.ntmps141
  go_wp2_with fail
  go_ret
  refine ⟨ret_int ?_, rfl⟩
  have hq : x / 65536 < 256 := by omega
  have hb := blen8 hq
  have hk : (len8[x / 65536]'(by rw [len8_size]; exact hq)).toNat = blen (x / 65536) := len8_blen ⟨x / 65536, hq⟩
  have hd := blen_div x 16 h'
  show wrap64 (16 + wrap64 ((len8[x / 65536]'(by rw [len8_size]; exact hq)).toNat : Int)) = _
  rw [hk, hd]
  rw [show (2 : Nat) ^ 16 = 65536 from rfl]
  unfold wrap64
  omega

theorem Len64_calls (x : Nat) (h : x < 16777216) (w : World) :
    Calls Tryz.prog 141 #[.int .u64 (x : Int)] w fun e w' => e = .returned (.int .i64 (blen x : Int)) ∧ w' = w := by
  by_cases h1 : x < 256
  · exact Len64_a x h1 w
  · by_cases h2 : x < 65536
    · exact Len64_b x h2 (by omega) w
    · exact Len64_c x h (by omega) w

theorem Degree_calls (x : Nat) (h : x < 16777216) (w : World) :
    Calls Tryz.prog 176 #[.int .u64 (x : Int)] w fun e w' => e = .returned (.int .i64 ((blen x : Int) - 1)) ∧ w' = w := by
  have hb : blen x ≤ 24 := blen_le (k := 24) h
  have H := hid (Len64_calls x h w)
  go_enter Tryz.func176, Tryz.ntmps176
  go_wp2_with fail
  refine H.out.mono ?_
  rintro e w1 ⟨rfl, rfl⟩
  go_wp2_with fail
  go_ret
  exact ⟨rfl, rfl⟩

theorem blen_poly : blen 65581 = 17 := blen_of (k := 16) (by decide) (by decide)
theorem isModulus_calls (w : World) :
    Calls Tryz.prog 168 #[.int .u64 65581, .int .i64 32] w fun e w' => e = .returned (.bool true) ∧ w' = w := by
  have h := Degree_calls 65581 (by omega) w
  rw [blen_poly] at h
  have H := hid h
  clear h
  go_enter Tryz.func168, Tryz.ntmps168
  go_wp2_with fail
  refine H.out.mono ?_
  rintro e w1 ⟨rfl, rfl⟩
  go_wp2_with fail
  go_ret
  exact ⟨by first | rfl | simp, rfl⟩
end Go.Proofs.YtpnmmedjamkmeaaGreat

/- The Walsh-Hadamard transform as the code has it: stage by stage, over lists of naturals modulo 65535. -/
set_option linter.unusedVariables false
set_option linter.unusedSimpArgs false
namespace Go.Proofs.YtpnmmedjamkmeaaGreat
open Go.RowKit

theorem gn_els (n j : Nat) (h : j < n) : gn (els n) j = el j := by simp [gn, els, h]
theorem gn_logTo (n i j : Nat) (h : j < n) : gn (logTo n i) j = if 1 ≤ j ∧ j < i then lgz (el j) else 0 := by simp [gn, logTo, h]
theorem logTo_set (n i : Nat) (h : i < n) (h1 : 1 ≤ i) : (logTo n i).set i (lgz (el i)) = logTo n (i + 1) := by
  refine ext_gn (by simp [logTo_length]) fun j hj => ?_
  simp only [List.length_set, logTo_length] at hj
  rw [gn_set _ _ _ _ (by rw [logTo_length]; exact h), gn_logTo _ _ _ hj, gn_logTo _ _ _ hj]
  by_cases e : j = i
  · subst e; rw [if_pos rfl, if_pos (by omega)]
  · rw [if_neg e]
    by_cases c : 1 ≤ j ∧ j < i
    · rw [if_pos c, if_pos (by omega)]
    · rw [if_neg c, if_neg (by omega)]
theorem gn_logList (r j : Nat) (h : j < 2 ^ r) : gn (logList r) j = lgz (el j) := by
  unfold logList
  rw [gn_logTo _ _ _ h]
  by_cases e : j = 0
  · subst e; rw [if_neg (by omega), el_zero]; rfl
  · rw [if_pos (by omega)]

/-- The first k places mapped. -/
def mapTo (f : Nat → Nat) (k : Nat) (l : List Nat) : List Nat := (l.take k).map f ++ l.drop k
theorem mapTo_zero (f : Nat → Nat) (l : List Nat) : mapTo f 0 l = l := by simp [mapTo]
theorem mapTo_full (f : Nat → Nat) (l : List Nat) : mapTo f l.length l = l.map f := by simp [mapTo]
theorem mapTo_length (f : Nat → Nat) (k : Nat) (l : List Nat) : (mapTo f k l).length = l.length := by simp [mapTo]; omega
theorem gn_mapTo (f : Nat → Nat) (k : Nat) (l : List Nat) (j : Nat) (h : j < l.length) : gn (mapTo f k l) j = if j < k then f (gn l j) else gn l j := by
  unfold gn mapTo
  rw [List.getD_eq_getElem?_getD, List.getD_eq_getElem?_getD]
  by_cases c : j < k
  · rw [if_pos c, List.getElem?_append_left (by simp; omega)]
    simp [c, h]
  · rw [if_neg c, List.getElem?_append_right (by simp; omega)]
    simp only [List.length_map, List.length_take, List.getElem?_drop]
    congr 2; omega
theorem gn_map (f : Nat → Nat) (l : List Nat) (j : Nat) (h : j < l.length) : gn (l.map f) j = f (gn l j) := by simp [gn, h]
theorem mapTo_set (f : Nat → Nat) (k : Nat) (l : List Nat) (h : k < l.length) : (mapTo f k l).set k (f (gn l k)) = mapTo f (k + 1) l := by
  refine ext_gn (by simp [mapTo_length]) fun j hj => ?_
  simp only [List.length_set, mapTo_length] at hj
  rw [gn_set _ _ _ _ (by rw [mapTo_length]; exact h), gn_mapTo _ _ _ _ hj, gn_mapTo _ _ _ _ hj]
  by_cases e : j = k
  · subst e; rw [if_pos rfl, if_pos (by omega)]
  · rw [if_neg e]
    by_cases c : j < k
    · rw [if_pos c, if_pos (by omega)]
    · rw [if_neg c, if_neg (by omega)]

/-- One stage's value at place j. -/
def stg (d : Nat) (f : Nat → Nat) (j : Nat) : Nat :=
  if j / d % 2 = 0 then (f j + f (j + d)) % 65535 else (f (j - d) + 65535 - f j) % 65535
def stage (d : Nat) (l : List Nat) : List Nat := (List.range l.length).map (stg d (gn l))
/-- s stages. -/
def stages : Nat → List Nat → List Nat
  | 0, l => l
  | s + 1, l => stage (2 ^ s) (stages s l)
theorem stage_length (d : Nat) (l : List Nat) : (stage d l).length = l.length := by simp [stage]
theorem stages_length (s : Nat) (l : List Nat) : (stages s l).length = l.length := by
  induction s with
  | zero => rfl
  | succ s ih => rw [stages, stage_length, ih]
theorem gn_stage (d : Nat) (l : List Nat) (j : Nat) (h : j < l.length) : gn (stage d l) j = stg d (gn l) j := by
  simp [gn, stage, h]
theorem stg_lt (d : Nat) (f : Nat → Nat) (j : Nat) : stg d f j < 65535 := by unfold stg; split <;> omega
theorem gn_out (l : List Nat) (j : Nat) (h : l.length ≤ j) : gn l j = 0 := by
  simp [gn, List.getElem?_eq_none h]
theorem stage_small (d : Nat) (l : List Nat) (j : Nat) : gn (stage d l) j < 65535 := by
  by_cases h : j < l.length
  · rw [gn_stage d l j h]; exact stg_lt _ _ _
  · rw [gn_out _ _ (by rw [stage_length]; omega)]; omega
theorem stages_small (s : Nat) (l : List Nat) (h : ∀ j, gn l j < 65536) (j : Nat) : gn (stages s l) j < 65536 := by
  cases s with
  | zero => exact h j
  | succ s => exact Nat.lt_succ_of_lt (stage_small _ _ _)

/-- What the list holds while a stage goes on: up to 'a' all is done, from 'a' on m places of the block and of its other half. -/
def Half (d : Nat) (l l' : List Nat) (a m : Nat) : Prop :=
  l'.length = l.length ∧ ∀ j, j < l.length → gn l' j = if j < a + m ∨ (a + d ≤ j ∧ j < a + d + m) then stg d (gn l) j else gn l j
theorem Half.start (d : Nat) (l : List Nat) : Half d l l 0 0 := ⟨rfl, fun j _ => by rw [if_neg (by omega)]⟩
theorem Half.next {d : Nat} {l l' : List Nat} {q : Nat} (h : Half d l l' (q * (2 * d)) d) : Half d l l' ((q + 1) * (2 * d)) 0 := by
  have e : (q + 1) * (2 * d) = q * (2 * d) + 2 * d := by rw [Nat.add_mul, Nat.one_mul]
  refine ⟨h.1, fun j hj => ?_⟩
  rw [h.2 j hj, e]
  by_cases c : j < q * (2 * d) + d ∨ q * (2 * d) + d ≤ j ∧ j < q * (2 * d) + d + d
  · rw [if_pos c, if_pos (by omega)]
  · rw [if_neg c, if_neg (by omega)]
theorem Half.done {d : Nat} {l l' : List Nat} {a : Nat} (h : Half d l l' a 0) (ha : l.length ≤ a) : l' = stage d l := by
  refine ext_gn (by rw [h.1, stage_length]) fun j hj => ?_
  rw [h.1] at hj
  rw [h.2 j hj, if_pos (by omega), gn_stage d l j hj]
theorem block_low {d q m : Nat} (hm : m < d) : (q * (2 * d) + m) / d % 2 = 0 := by
  have : (q * (2 * d) + m) / d = q * 2 := by
    rw [← Nat.mul_assoc, Nat.mul_comm (q * 2) d, Nat.mul_add_div (by omega), Nat.div_eq_of_lt hm, Nat.add_zero]
  rw [this]; omega
theorem block_high {d q m : Nat} (hm : m < d) : (q * (2 * d) + d + m) / d % 2 = 1 := by
  have : (q * (2 * d) + d + m) / d = q * 2 + 1 := by
    rw [← Nat.mul_assoc, Nat.mul_comm (q * 2) d, show d * (q * 2) + d + m = d * (q * 2 + 1) + m from by rw [Nat.mul_add, Nat.mul_one],
      Nat.mul_add_div (by omega), Nat.div_eq_of_lt hm, Nat.add_zero]
  rw [this]; omega
/-- One butterfly. -/
theorem Half.turn {d : Nat} {l l' : List Nat} {q m : Nat} (h : Half d l l' (q * (2 * d)) m) (hm : m < d) (hi : q * (2 * d) + m + d < l.length) :
    gn l' (q * (2 * d) + m) = gn l (q * (2 * d) + m) ∧ gn l' (q * (2 * d) + m + d) = gn l (q * (2 * d) + m + d) ∧
    Half d l ((l'.set (q * (2 * d) + m) ((gn l (q * (2 * d) + m) + gn l (q * (2 * d) + m + d)) % 65535)).set (q * (2 * d) + m + d) ((gn l (q * (2 * d) + m) + 65535 - gn l (q * (2 * d) + m + d)) % 65535)) (q * (2 * d)) (m + 1) := by
  have hl := block_low (d := d) (q := q) hm
  have hh := block_high (d := d) (q := q) hm
  generalize q * (2 * d) = a at *
  refine ⟨by rw [h.2 _ (by omega), if_neg (by omega)], by rw [h.2 _ (by omega), if_neg (by omega)], by simp [h.1], fun j hj => ?_⟩
  rw [gn_set _ _ _ _ (by simp [h.1]; omega), gn_set _ _ _ _ (by rw [h.1]; omega)]
  by_cases e1 : j = a + m + d
  · subst e1
    rw [if_pos rfl, if_pos (by omega)]
    unfold stg
    rw [show a + m + d = a + d + m from by omega, if_neg (by omega), show a + d + m - d = a + m from by omega]
  · rw [if_neg e1]
    by_cases e2 : j = a + m
    · subst e2
      rw [if_pos rfl, if_pos (by omega)]
      unfold stg
      rw [if_pos hl]
    · rw [if_neg e2, h.2 j hj]
      by_cases c : j < a + m ∨ a + d ≤ j ∧ j < a + d + m
      · rw [if_pos c, if_pos (by omega)]
      · rw [if_neg c, if_neg (by omega)]
/-- The scale of the way back. -/
def sc (t : Nat) : Nat := 2 ^ (16 - t) % 65535
theorem sc_lt (t : Nat) : sc t < 65535 := Nat.mod_lt _ (by omega)
theorem sc_int (t : Nat) : (wrap64 ((2 : Int) ^ (16 - t))).tmod 65535 = ((sc t : Nat) : Int) := by
  have h : 2 ^ (16 - t) ≤ 2 ^ 16 := Nat.pow_le_pow_right (by omega) (by omega)
  have e : ((2 : Int) ^ (16 - t)) = ((2 ^ (16 - t) : Nat) : Int) := by simp
  rw [e]
  unfold sc
  generalize 2 ^ (16 - t) = m at h
  rw [show wrap64 (m : Int) = (m : Int) from by unfold wrap64; omega, Int.tmod_eq_emod_of_nonneg (by omega)]
  omega
/-- The way back: the transform, scaled. -/
def backed (t : Nat) (l : List Nat) : List Nat := (stages t l).map fun x => x * sc t % 65535
theorem backed_length (t : Nat) (l : List Nat) : (backed t l).length = l.length := by simp [backed, stages_length]
theorem backed_small (t : Nat) (l : List Nat) (j : Nat) : gn (backed t l) j < 65535 := by
  by_cases h : j < l.length
  · unfold backed
    rw [gn_map _ _ _ (by rw [stages_length]; exact h)]
    exact Nat.mod_lt _ (by omega)
  · rw [gn_out _ _ (by rw [backed_length]; omega)]; omega
/-- Place by place. -/
def prods (a b : List Nat) : List Nat := (List.range a.length).map fun i => gn a i * gn b i % 65535
/-- The convolution as the code has it. -/
def convd (t : Nat) (a b : List Nat) : List Nat := backed t (prods (stages t a) (stages t b))
theorem prods_length (a b : List Nat) : (prods a b).length = a.length := by simp [prods]
theorem gn_prods (a b : List Nat) (j : Nat) (h : j < a.length) : gn (prods a b) j = gn a j * gn b j % 65535 := by simp [gn, prods, h]
/-- While the products are made, in the first list's place. -/
def prodTo (a b : List Nat) (k : Nat) : List Nat := (List.range a.length).map fun i => if i < k then gn a i * gn b i % 65535 else gn a i
theorem prodTo_length (a b : List Nat) (k : Nat) : (prodTo a b k).length = a.length := by simp [prodTo]
theorem gn_prodTo (a b : List Nat) (k j : Nat) (h : j < a.length) : gn (prodTo a b k) j = if j < k then gn a j * gn b j % 65535 else gn a j := by
  simp [gn, prodTo, h]
theorem prodTo_zero (a b : List Nat) : prodTo a b 0 = a := by
  refine ext_gn (prodTo_length _ _ _) fun j hj => ?_
  rw [prodTo_length] at hj
  rw [gn_prodTo _ _ _ _ hj, if_neg (by omega)]
theorem prodTo_full (a b : List Nat) : prodTo a b a.length = prods a b := by
  refine ext_gn (by rw [prodTo_length, prods_length]) fun j hj => ?_
  rw [prodTo_length] at hj
  rw [gn_prodTo _ _ _ _ hj, gn_prods _ _ _ hj, if_pos hj]
theorem prodTo_set (a b : List Nat) (k : Nat) (h : k < a.length) : (prodTo a b k).set k (gn a k * gn b k % 65535) = prodTo a b (k + 1) := by
  refine ext_gn (by simp [prodTo_length]) fun j hj => ?_
  simp only [List.length_set, prodTo_length] at hj
  rw [gn_set _ _ _ _ (by rw [prodTo_length]; exact h), gn_prodTo _ _ _ _ hj, gn_prodTo _ _ _ _ hj]
  by_cases e : j = k
  · subst e; rw [if_pos rfl, if_pos (by omega)]
  · rw [if_neg e]
    by_cases c : j < k
    · rw [if_pos c, if_pos (by omega)]
    · rw [if_neg c, if_neg (by omega)]
theorem prods_small (a b : List Nat) (j : Nat) : gn (prods a b) j < 65536 := by
  by_cases h : j < a.length
  · rw [gn_prods _ _ _ h]; have := Nat.mod_lt (gn a j * gn b j) (show 0 < 65535 by omega); omega
  · rw [gn_out _ _ (by rw [prods_length]; omega)]; omega
end Go.Proofs.YtpnmmedjamkmeaaGreat

/- The convolution theorem of the Walsh-Hadamard transform, and what it says of the code's lists modulo 65535. -/
set_option linter.unusedVariables false
set_option linter.unusedSimpArgs false
namespace Go.Proofs.YtpnmmedjamkmeaaGreat

/-- The sum over all numbers below 2^t. -/
def SX : Nat → (Nat → Int) → Int
  | 0, F => F 0
  | t + 1, F => SX t F + SX t (fun j => F (2 ^ t ^^^ j))
theorem SX_congr {t : Nat} {F G : Nat → Int} (h : ∀ j, j < 2 ^ t → F j = G j) : SX t F = SX t G := by
  induction t generalizing F G with
  | zero => exact h 0 (by simp)
  | succ t ih =>
    have hp : 2 ^ t < 2 ^ (t + 1) := by rw [Nat.pow_succ]; have := Nat.two_pow_pos t; omega
    rw [SX, SX, ih (fun j hj => h j (by omega)), ih (F := fun j => F (2 ^ t ^^^ j)) (fun j hj => h _ (Nat.xor_lt_two_pow hp (by omega)))]
theorem SX_add (t : Nat) (F G : Nat → Int) : SX t (fun j => F j + G j) = SX t F + SX t G := by
  induction t generalizing F G with
  | zero => rfl
  | succ t ih => rw [SX, SX, SX, ih, ih]; omega
theorem SX_mul (t : Nat) (c : Int) (F : Nat → Int) : SX t (fun j => c * F j) = c * SX t F := by
  induction t generalizing F with
  | zero => rfl
  | succ t ih => rw [SX, SX, ih, ih, Int.mul_add]
theorem SX_neg (t : Nat) (F : Nat → Int) : SX t (fun j => -F j) = -SX t F := by
  induction t generalizing F with
  | zero => rfl
  | succ t ih => rw [SX, SX, ih, ih]; omega
theorem SX_swap (t s : Nat) (F : Nat → Nat → Int) : SX t (fun i => SX s (fun j => F i j)) = SX s (fun j => SX t (fun i => F i j)) := by
  induction t generalizing F with
  | zero => rfl
  | succ t ih =>
    rw [SX, ih, ih, ← SX_add]
    rfl
theorem lt_or_top {t k : Nat} (h : k < 2 ^ (t + 1)) : k < 2 ^ t ∨ ∃ y, y < 2 ^ t ∧ k = 2 ^ t ^^^ y := by
  rcases Nat.lt_or_ge k (2 ^ t) with c | c
  · exact .inl c
  · refine .inr ⟨k - 2 ^ t, by rw [Nat.pow_succ] at h; omega, ?_⟩
    apply Nat.eq_of_testBit_eq
    intro i
    have hy : k - 2 ^ t < 2 ^ t := by rw [Nat.pow_succ] at h; omega
    have e : k = 2 ^ t * 1 + (k - 2 ^ t) := by omega
    conv => lhs; rw [e]
    rw [Nat.testBit_two_pow_mul_add 1 hy, Nat.testBit_xor, Nat.testBit_two_pow]
    by_cases hi : i < t
    · rw [if_pos hi]; simp [show t ≠ i by omega]
    · rw [if_neg hi]
      have h2 : (k - 2 ^ t).testBit i = false := Nat.testBit_lt_two_pow (Nat.lt_of_lt_of_le hy (Nat.pow_le_pow_right (by omega) (by omega)))
      rw [h2]
      by_cases e : t = i
      · subst e; simp
      · have : i - t = (i - t - 1) + 1 := by omega
        rw [this, Nat.testBit_succ]; simp [e]
theorem xor_top_ne {t j : Nat} : (2 ^ t ^^^ j).testBit t = !j.testBit t := by rw [Nat.testBit_xor, Nat.testBit_two_pow]; simp
theorem SX_shift (t : Nat) (F : Nat → Int) (k : Nat) (hk : k < 2 ^ t) : SX t (fun j => F (j ^^^ k)) = SX t F := by
  induction t generalizing F k with
  | zero => obtain rfl : k = 0 := by simpa using hk
            simp [SX]
  | succ t ih =>
    rw [SX, SX]
    rcases lt_or_top hk with c | ⟨y, hy, rfl⟩
    · rw [ih F k c]
      have := ih (fun j => F (2 ^ t ^^^ j)) k c
      simp only [← Nat.xor_assoc] at this
      rw [this]
    · have h1 := ih (fun j => F (2 ^ t ^^^ j)) y hy
      have h2 := ih F y hy
      have e1 : ∀ j, j ^^^ (2 ^ t ^^^ y) = 2 ^ t ^^^ (j ^^^ y) := fun j => by rw [← Nat.xor_assoc, Nat.xor_comm j, Nat.xor_assoc]
      have e2 : ∀ j, (2 ^ t ^^^ j) ^^^ (2 ^ t ^^^ y) = j ^^^ y := fun j => by rw [e1, ← Nat.xor_assoc, ← Nat.xor_assoc, Nat.xor_self, Nat.zero_xor]
      have a1 : (fun j => F (j ^^^ (2 ^ t ^^^ y))) = fun j => F (2 ^ t ^^^ (j ^^^ y)) := funext fun j => by rw [e1]
      have a2 : (fun j => F ((2 ^ t ^^^ j) ^^^ (2 ^ t ^^^ y))) = fun j => F (j ^^^ y) := funext fun j => by rw [e2]
      rw [a1, a2, h1, h2, Int.add_comm]

/-- One stage over whole numbers. -/
def Sg (s : Nat) (f : Nat → Int) (j : Nat) : Int := if j.testBit s then f (j ^^^ 2 ^ s) - f j else f j + f (j ^^^ 2 ^ s)
def Wt : Nat → (Nat → Int) → Nat → Int
  | 0, f => f
  | s + 1, f => Sg s (Wt s f)
theorem flip_same (j s : Nat) : (j ^^^ 2 ^ s).testBit s = !j.testBit s := by rw [Nat.testBit_xor, Nat.testBit_two_pow]; simp
theorem flip_other (j s r : Nat) (h : s ≠ r) : (j ^^^ 2 ^ s).testBit r = j.testBit r := by rw [Nat.testBit_xor, Nat.testBit_two_pow]; simp [h]
theorem flip_flip (j s : Nat) : j ^^^ 2 ^ s ^^^ 2 ^ s = j := by rw [Nat.xor_assoc, Nat.xor_self, Nat.xor_zero]
theorem flip_comm (j s r : Nat) : j ^^^ 2 ^ s ^^^ 2 ^ r = j ^^^ 2 ^ r ^^^ 2 ^ s := by rw [Nat.xor_assoc, Nat.xor_assoc, Nat.xor_comm (2 ^ s)]
theorem Sg_Sg (s : Nat) (f : Nat → Int) (j : Nat) : Sg s (Sg s f) j = 2 * f j := by
  unfold Sg
  rw [flip_same, flip_flip]
  cases j.testBit s <;> simp <;> omega
theorem Sg_comm (s r : Nat) (h : s ≠ r) (f : Nat → Int) : Sg s (Sg r f) = Sg r (Sg s f) := by
  funext j
  unfold Sg
  rw [flip_other j s r h, flip_other j r s (Ne.symm h), flip_comm j r s]
  cases j.testBit s <;> cases j.testBit r <;> simp <;> omega
theorem Wt_Sg (t s : Nat) (h : t ≤ s) (f : Nat → Int) : Wt t (Sg s f) = Sg s (Wt t f) := by
  induction t with
  | zero => rfl
  | succ t ih => rw [Wt, ih (by omega), Sg_comm t s (by omega), Wt]
theorem Wt_Wt (t : Nat) (f : Nat → Int) (j : Nat) : Wt t (Wt t f) j = 2 ^ t * f j := by
  induction t generalizing f j with
  | zero => simp [Wt]
  | succ t ih =>
    have : Wt (t + 1) (Wt (t + 1) f) = Sg t (Sg t (Wt t (Wt t f))) := by
      show Sg t (Wt t (Sg t (Wt t f))) = _
      rw [Wt_Sg t t (Nat.le_refl _)]
    rw [this, Sg_Sg, ih, Int.pow_succ]
    rw [Int.mul_comm (2 ^ t) 2, Int.mul_assoc]

/-- The sign of two indices. -/
def chi : Nat → Nat → Nat → Int
  | 0, _, _ => 1
  | t + 1, i, j => if i.testBit t && j.testBit t then -chi t i j else chi t i j
theorem chi_xor (t i j k : Nat) : chi t i (j ^^^ k) = chi t i j * chi t i k := by
  induction t with
  | zero => rfl
  | succ t ih =>
    rw [chi, chi, chi, ih, Nat.testBit_xor]
    cases i.testBit t <;> cases j.testBit t <;> cases k.testBit t <;> simp [Int.neg_mul, Int.mul_neg]
theorem chi_top (t s i j : Nat) (h : t ≤ s) : chi t i (2 ^ s ^^^ j) = chi t i j := by
  induction t with
  | zero => rfl
  | succ t ih =>
    rw [chi, chi, ih (by omega), Nat.xor_comm, flip_other j s t (by omega)]
theorem chi_top' (t s i j : Nat) (h : t ≤ s) : chi t (2 ^ s ^^^ i) j = chi t i j := by
  induction t with
  | zero => rfl
  | succ t ih =>
    rw [chi, chi, ih (by omega), Nat.xor_comm, flip_other i s t (by omega)]
theorem bit_below {t i : Nat} (h : i < 2 ^ t) : i.testBit t = false := Nat.testBit_lt_two_pow h
theorem Wt_sum (t : Nat) (f : Nat → Int) (hi lo : Nat) (hl : lo < 2 ^ t) (hh : ∀ s, s < t → hi.testBit s = false) :
    Wt t f (hi ^^^ lo) = SX t (fun j => chi t lo j * f (hi ^^^ j)) := by
  induction t generalizing hi lo with
  | zero => obtain rfl : lo = 0 := by simpa using hl
            simp [Wt, SX, chi]
  | succ t ih =>
    have hb : hi.testBit t = false := hh t (by omega)
    have hh1 : ∀ s, s < t → (hi ^^^ 2 ^ t).testBit s = false := fun s hs => by rw [flip_other _ _ _ (by omega)]; exact hh s (by omega)
    have hh0 : ∀ s, s < t → hi.testBit s = false := fun s hs => hh s (by omega)
    have hp : 2 ^ t < 2 ^ (t + 1) := by rw [Nat.pow_succ]; have := Nat.two_pow_pos t; omega
    rw [Wt, SX]
    rcases lt_or_top hl with c | ⟨y, hy, rfl⟩
    · unfold Sg
      have hbit : (hi ^^^ lo).testBit t = false := by rw [Nat.testBit_xor, hb, bit_below c]; rfl
      rw [hbit, if_neg (by simp), show hi ^^^ lo ^^^ 2 ^ t = (hi ^^^ 2 ^ t) ^^^ lo from by rw [Nat.xor_assoc, Nat.xor_comm lo, ← Nat.xor_assoc], ih hi lo c hh0, ih _ lo c hh1]
      congr 1
      · refine SX_congr fun j hj => ?_
        rw [chi, bit_below c]; simp
      · refine SX_congr fun j hj => ?_
        rw [chi, bit_below c, chi_top t t lo j (Nat.le_refl _), ← Nat.xor_assoc]; simp
    · unfold Sg
      have hbit : (hi ^^^ (2 ^ t ^^^ y)).testBit t = true := by rw [Nat.testBit_xor, hb, xor_top_ne, bit_below hy]; rfl
      have e0 : hi ^^^ (2 ^ t ^^^ y) ^^^ 2 ^ t = hi ^^^ y := by
        rw [Nat.xor_assoc, Nat.xor_comm (2 ^ t ^^^ y), ← Nat.xor_assoc (2 ^ t), Nat.xor_self, Nat.zero_xor]
      have e1 : hi ^^^ (2 ^ t ^^^ y) = (hi ^^^ 2 ^ t) ^^^ y := by rw [Nat.xor_assoc]
      rw [hbit, if_pos rfl, e0, e1, ih hi y hy hh0, ih _ y hy hh1, Int.sub_eq_add_neg, ← SX_neg]
      congr 1
      · refine SX_congr fun j hj => ?_
        rw [chi, bit_below hj, chi_top' t t y j (Nat.le_refl _)]; simp
      · refine SX_congr fun j hj => ?_
        rw [chi, xor_top_ne, xor_top_ne, bit_below hj, bit_below hy, chi_top t t _ j (Nat.le_refl _), chi_top' t t y j (Nat.le_refl _), ← Nat.xor_assoc]
        simp [Int.neg_mul]
theorem Wt_low (t : Nat) (f : Nat → Int) (i : Nat) (h : i < 2 ^ t) : Wt t f i = SX t (fun j => chi t i j * f j) := by
  have := Wt_sum t f 0 i h (fun s _ => by simp)
  simpa using this
def conv (t : Nat) (f g : Nat → Int) (x : Nat) : Int := SX t (fun n => f n * g (x ^^^ n))
theorem Wt_conv (t : Nat) (f g : Nat → Int) (i : Nat) (h : i < 2 ^ t) : Wt t (conv t f g) i = Wt t f i * Wt t g i := by
  rw [Wt_low t _ i h, Wt_low t f i h, Wt_low t g i h]
  have h1 : SX t (fun j => chi t i j * conv t f g j) = SX t (fun n => (chi t i n * f n) * SX t (fun x => chi t i x * g x)) := by
    have e1 : SX t (fun j => chi t i j * conv t f g j) = SX t (fun j => SX t (fun n => chi t i j * (f n * g (j ^^^ n)))) := by
      refine SX_congr fun j _ => ?_
      unfold conv
      rw [SX_mul]
    rw [e1, SX_swap]
    refine SX_congr fun n hn => ?_
    have e2 := SX_shift t (fun x => chi t i (x ^^^ n) * (f n * g x)) n hn
    simp only [Nat.xor_assoc, Nat.xor_self, Nat.xor_zero] at e2
    rw [e2, ← SX_mul]
    refine SX_congr fun x _ => ?_
    rw [chi_xor]
    simp only [Int.mul_assoc, Int.mul_comm, Int.mul_left_comm]
  rw [h1]
  have e3 : ∀ c : Int, SX t (fun n => (chi t i n * f n) * c) = SX t (fun n => chi t i n * f n) * c := by
    intro c
    rw [Int.mul_comm, ← SX_mul]
    exact SX_congr fun n _ => Int.mul_comm _ _
  rw [e3]

/-! The lists of the code, modulo 65535. -/
def Rp (l : List Nat) (f : Nat → Int) : Prop := ∀ j, j < l.length → ((gn l j : Int) - f j) % 65535 = 0
theorem Rp.self (l : List Nat) : Rp l (fun j => (gn l j : Int)) := fun j _ => by simp
theorem flip_low {j s : Nat} (h : j / 2 ^ s % 2 = 0) : j ^^^ 2 ^ s = j + 2 ^ s ∧ j.testBit s = false := by
  have hb : j.testBit s = false := by rw [Nat.testBit_eq_decide_div_mod_eq]; simp; omega
  refine ⟨?_, hb⟩
  have hp := Nat.two_pow_pos s
  have hr := Nat.mod_lt j hp
  have e : j = 2 ^ s * (j / 2 ^ s) + j % 2 ^ s := (Nat.div_add_mod j (2 ^ s)).symm
  generalize j / 2 ^ s = q at *
  generalize j % 2 ^ s = r at *
  subst e
  rw [show 2 ^ s * q + r + 2 ^ s = 2 ^ s * (q + 1) + r from by rw [Nat.mul_add]; omega]
  apply Nat.eq_of_testBit_eq
  intro i
  rw [Nat.testBit_xor, Nat.testBit_two_pow_mul_add _ hr, Nat.testBit_two_pow_mul_add _ hr, Nat.testBit_two_pow]
  by_cases hi : i < s
  · rw [if_pos hi, if_pos hi]; simp [show s ≠ i by omega]
  · rw [if_neg hi, if_neg hi]
    by_cases e : s = i
    · subst e
      simp only [Nat.sub_self, Nat.testBit_zero]
      have : (q + 1) % 2 = 1 := by omega
      simp [h, this]
    · obtain ⟨m, hm⟩ : ∃ m, i - s = m + 1 := ⟨i - s - 1, by omega⟩
      rw [hm, Nat.testBit_succ, Nat.testBit_succ, show (q + 1) / 2 = q / 2 from by omega]
      simp [e]
theorem flip_high {j s : Nat} (h : j / 2 ^ s % 2 = 1) : j ^^^ 2 ^ s = j - 2 ^ s ∧ j.testBit s = true ∧ 2 ^ s ≤ j := by
  have hb : j.testBit s = true := by rw [Nat.testBit_eq_decide_div_mod_eq]; simp; omega
  have hp := Nat.two_pow_pos s
  have hle : 2 ^ s ≤ j := by
    rcases Nat.lt_or_ge j (2 ^ s) with c | c
    · rw [Nat.div_eq_of_lt c] at h; omega
    · exact c
  refine ⟨?_, hb, hle⟩
  have h2 : (j - 2 ^ s) / 2 ^ s = j / 2 ^ s - 1 := by
    have := Nat.sub_mul_div j (2 ^ s) 1
    rwa [Nat.mul_one] at this
  have := (flip_low (j := j - 2 ^ s) (s := s) (by rw [h2]; omega)).1
  rw [show j - 2 ^ s + 2 ^ s = j from by omega] at this
  have h3 := flip_flip (j - 2 ^ s) s
  rw [this] at h3
  exact h3
theorem Rp.stage {l : List Nat} {f : Nat → Int} {s t : Nat} (h : Rp l f) (hl : l.length = 2 ^ t) (hs : s < t) (hb : ∀ j, gn l j < 65536) : Rp (stage (2 ^ s) l) (Sg s f) := by
  intro j hj
  rw [stage_length] at hj
  rw [gn_stage _ _ _ hj]
  unfold stg Sg
  have hp2 : (2 : Nat) ^ s < 2 ^ t := Nat.pow_lt_pow_right (by omega) hs
  have hbj := hb j
  by_cases c : j / 2 ^ s % 2 = 0
  · obtain ⟨e1, e2⟩ := flip_low c
    have hlt : j + 2 ^ s < l.length := by rw [← e1, hl]; exact Nat.xor_lt_two_pow (by rw [← hl]; exact hj) hp2
    rw [if_pos c, e2, if_neg (by simp), e1]
    have h1 := h j hj
    have h2 := h _ hlt
    omega
  · obtain ⟨e1, e2, e3⟩ := flip_high (j := j) (s := s) (by omega)
    have hlt : j - 2 ^ s < l.length := by have := Nat.two_pow_pos s; omega
    rw [if_neg c, e2, if_pos rfl, e1]
    have h1 := h j hj
    have h2 := h _ hlt
    have hb2 := hb (j - 2 ^ s)
    omega
theorem Rp.stages {l : List Nat} {f : Nat → Int} {t : Nat} (h : Rp l f) (hl : l.length = 2 ^ t) (hb : ∀ j, gn l j < 65536) : ∀ s, s ≤ t → Rp (stages s l) (Wt s f) := by
  intro s
  induction s with
  | zero => exact fun _ => h
  | succ s ih => exact fun hs => (ih (by omega)).stage (t := t) (by rw [stages_length, hl]) (by omega) (stages_small s l hb)
theorem mul_cong {a b x y : Int} (h : (a - x) % 65535 = 0) (k : (b - y) % 65535 = 0) : (a * b - x * y) % 65535 = 0 := by
  have e : a * b - x * y = a * (b - y) + (a - x) * y := by
    rw [Int.mul_sub, Int.sub_mul]; omega
  have h1 : (65535 : Int) ∣ a * (b - y) := Int.dvd_mul_of_dvd_right (Int.dvd_of_emod_eq_zero k)
  have h2 : (65535 : Int) ∣ (a - x) * y := Int.dvd_mul_of_dvd_left (Int.dvd_of_emod_eq_zero h)
  rw [e]
  exact Int.emod_eq_zero_of_dvd (Int.dvd_add h1 h2)
theorem mod_cong {a x : Int} (m : Nat) (hm : (m : Int) = a) (h : (a - x) % 65535 = 0) : (((m % 65535 : Nat) : Int) - x) % 65535 = 0 := by subst hm; omega
theorem Rp.prods {a b : List Nat} {f g : Nat → Int} (ha : Rp a f) (hb : Rp b g) (hl : a.length = b.length) : Rp (prods a b) (fun j => f j * g j) := by
  intro j hj
  rw [prods_length] at hj
  rw [gn_prods _ _ _ hj]
  refine mod_cong (a := (gn a j : Int) * (gn b j : Int)) _ (by simp) ?_
  exact mul_cong (ha j hj) (hb j (by omega))
theorem two16 (t : Nat) (ht : t ≤ 16) : (2 : Int) ^ (16 - t) * 2 ^ t = 65536 := by
  rw [← Int.pow_add, show 16 - t + t = 16 from by omega]; rfl
theorem Rp.backed {l : List Nat} {f : Nat → Int} {t : Nat} (h : Rp l f) (hl : l.length = 2 ^ t) (hb : ∀ j, gn l j < 65536) : Rp (backed t l) (fun j => Wt t f j * 2 ^ (16 - t)) := by
  intro j hj
  rw [backed_length] at hj
  unfold Go.Proofs.YtpnmmedjamkmeaaGreat.backed
  rw [gn_map _ _ _ (by rw [stages_length]; exact hj)]
  refine mod_cong (a := (gn (Go.Proofs.YtpnmmedjamkmeaaGreat.stages t l) j : Int) * (sc t : Int)) _ (by simp) ?_
  refine mul_cong (h.stages hl hb t (Nat.le_refl _) j (by rw [stages_length]; exact hj)) ?_
  unfold sc
  have : (((2 ^ (16 - t) : Nat) : Int)) = (2 : Int) ^ (16 - t) := by simp
  rw [← this]
  omega
theorem convd_value {t : Nat} {a b : List Nat} (ht : t ≤ 16) (ha : a.length = 2 ^ t) (hb : b.length = 2 ^ t) (sa : ∀ j, gn a j < 65536) (sb : ∀ j, gn b j < 65536) (i : Nat) (hi : i < 2 ^ t) :
    ((gn (convd t a b) i : Int) - conv t (fun j => (gn a j : Int)) (fun j => (gn b j : Int)) i) % 65535 = 0 := by
  have r1 := (Rp.self a).stages ha sa t (Nat.le_refl _)
  have r2 := (Rp.self b).stages hb sb t (Nat.le_refl _)
  have r3 := r1.prods r2 (by rw [stages_length, stages_length, ha, hb])
  -- place by place the products are the transform of the convolution
  have r4 : Rp (prods (stages t a) (stages t b)) (Wt t (conv t (fun j => (gn a j : Int)) (fun j => (gn b j : Int)))) := by
    intro j hj
    have := r3 j hj
    rw [prods_length, stages_length, ha] at hj
    rw [Wt_conv t _ _ j hj]
    exact this
  have r5 := r4.backed (t := t) (by rw [prods_length, stages_length, ha]) (prods_small _ _) i (by rw [backed_length, prods_length, stages_length, ha]; exact hi)
  simp only [Wt_Wt] at r5
  generalize conv t (fun j => (gn a j : Int)) (fun j => (gn b j : Int)) i = c at *
  have e : (2 : Int) ^ t * c * 2 ^ (16 - t) = 65536 * c := by
    rw [Int.mul_comm, ← Int.mul_assoc, two16 t ht]
  rw [e] at r5
  unfold convd
  omega
end Go.Proofs.YtpnmmedjamkmeaaGreat

/- Walks: ring.divMod. -/
set_option linter.unusedVariables false
set_option linter.unusedSimpArgs false
namespace Go.Proofs.YtpnmmedjamkmeaaGreat
open Go.RowKit

theorem mod64 (n : Nat) (h : n < 18446744073709551616) : (n : Int) % 18446744073709551616 = (n : Int) := by omega
theorem u64_or_nat' (a b : Nat) (ha : a < 18446744073709551616) (hb : b < 18446744073709551616) : bits .or .u64 (a : Int) (b : Int) = ((a ||| b : Nat) : Int) := by
  have hx : a ||| b < 2 ^ 64 := Nat.or_lt_two_pow (by omega) (by omega)
  show IntKind.u64.wrap ((BitVec.ofInt 64 (a : Int) ||| BitVec.ofInt 64 (b : Int)).toNat : Int) = _
  rw [BitVec.toNat_or, BitVec.ofInt_natCast, BitVec.ofInt_natCast, BitVec.toNat_ofNat, BitVec.toNat_ofNat, Nat.mod_eq_of_lt (by omega), Nat.mod_eq_of_lt (by omega), IntKind.wrap_u64]
  omega
/-- What divMod of a by b comes to. -/
def DivPost (a b : Nat) (w : World) (e : Ending) (w' : World) : Prop :=
  ∃ q r : Nat, e = .returned (.tuple #[.int .u64 (q : Int), .int .u64 (r : Int)]) ∧ q < 131072 ∧ r < 131072 ∧ a = cm q b ^^^ r ∧ blen r < blen b ∧ w' = w

set_option maxRecDepth 20000 in
set_option maxHeartbeats 1600000 in
theorem divMod_calls (a b : Nat) (ha : a < 131072) (hb : b < 131072) (hb0 : b ≠ 0) (w : World) :
    Calls Tryz.prog 169 #[.int .u64 (a : Int), .int .u64 (b : Int)] w (DivPost a b w) := by
  have hbl : blen b ≤ 17 := blen_le (k := 17) hb
  have hbp := (blen_pos hb0).2
  have H := hid (fun x (h : x < 16777216) w => Degree_calls x h w)
  go_enter Tryz.func169, Tryz.ntmps169
  go_wp2_with fail
  refine (H.out b (by omega) w).mono ?_
  rintro e w1 ⟨rfl, rfl⟩
  go_wp2_with fail
  go_loopw [0, 4] (fun x q wr => ∃ A Q : Nat, x = .int .u64 (A : Int) ∧ q = .int .u64 (Q : Int) ∧ A < 131072 ∧ Q < 131072 ∧ a = cm Q b ^^^ A ∧ (∀ i, i + blen b ≤ blen A → Q.testBit i = false) ∧ wr = w1) (fun x _ _ => (intOf x).toNat)
  case atStart => exact ⟨a, 0, rfl, rfl, ha, by omega, by rw [cm_zero, Nat.zero_xor], fun i _ => by simp, rfl⟩
  case round =>
    obtain ⟨A, Q, rfl, rfl, hA, hQ, he, hbits, rfl⟩ := hrel
    have HE := hid he
    have HB := hid hbits
    have hAl : blen A ≤ 17 := blen_le (k := 17) hA
    have hA0 : 0 ≤ blen A := Nat.zero_le _
    clear he hbits
    by_cases hs : blen A < blen b
    · have ht : decide ((blen A : Int) - 1 - ((blen b : Int) - 1) < 0) = true := by simp; omega
      go_wp2_with fail
      refine (H.out A (by omega) _).mono ?_
      rintro e w2 ⟨rfl, rfl⟩
      go_wp2_with fail
      go_ret2
      exact ⟨Q, A, rfl, hQ, hA, HE.out, hs, rfl⟩
    · have ht : decide ((blen A : Int) - 1 - ((blen b : Int) - 1) < 0) = false := by simp; omega
      go_wp2_with fail
      refine (H.out A (by omega) _).mono ?_
      rintro e w2 ⟨rfl, rfl⟩
      go_wp2_with fail
      obtain ⟨s, hse⟩ : ∃ s, blen A - 1 - (blen b - 1) = s := ⟨_, rfl⟩
      have hs1 : blen A - blen b = s := by omega
      have hst := div_step (a := A) hb0 (by omega)
      rw [hs1] at hst
      have hpw : 2 ^ (blen A - 1) ≤ A := (blen_pos (x := A) (by intro e; subst e; have : blen 0 = 0 := rfl; omega)).1
      have hlt : A ^^^ b * 2 ^ s < A := Nat.lt_of_lt_of_le hst hpw
      have hsh : b * 2 ^ s < 131072 := by
        have := blen_lt (x := b * 2 ^ s)
        rw [blen_shift hb0] at this
        exact Nat.lt_of_lt_of_le this (show 2 ^ (blen b + s) ≤ 2 ^ 17 from Nat.pow_le_pow_right (by omega) (by omega))
      have hs17 : s < 17 := by omega
      have h2s : 2 ^ s < 131072 := Nat.pow_lt_pow_right (a := 2) (n := 17) (by omega) hs17
      have hqb : Q.testBit s = false := HB.out s (by omega)
      have e1 : bits BinOp.xor IntKind.u64 (A : Int) (IntKind.u64.wrap ((b : Int) * 2 ^ s)) = ((A ^^^ b * 2 ^ s : Nat) : Int) := by
        have : ((b : Int) * 2 ^ s) = ((b * 2 ^ s : Nat) : Int) := by simp
        rw [this, IntKind.wrap_u64, mod64 _ (by omega)]
        exact Go.bits_xor_u64_nat _ _ (by omega) (by omega)
      have e2 : bits BinOp.or IntKind.u64 (Q : Int) (IntKind.u64.wrap (2 ^ s)) = ((Q ^^^ 2 ^ s : Nat) : Int) := by
        have : ((2 : Int) ^ s) = ((2 ^ s : Nat) : Int) := by simp
        rw [this, IntKind.wrap_u64, mod64 _ (by omega)]
        rw [← or_xor hqb]
        exact u64_or_nat' _ _ (by omega) (by omega)
      rw [hse, e1, e2]
      go_roundw
      case rel => exact ⟨A ^^^ b * 2 ^ s, Q ^^^ 2 ^ s, rfl, rfl, by omega, Nat.xor_lt_two_pow (n := 17) hQ h2s, by
        rw [HE.out, cm, cm, cmTo_xor, cmTo_pow, if_pos hs17, Nat.xor_assoc, ← Nat.xor_assoc (b * 2 ^ s), Nat.xor_comm (b * 2 ^ s) A, Nat.xor_assoc A, Nat.xor_self, Nat.xor_zero], fun i hi => by
        have hbl2 : blen (A ^^^ b * 2 ^ s) ≤ blen A - 1 := blen_le hst
        rw [flip_other Q s i (by omega)]
        exact HB.out i (by omega), by first | rfl | trivial⟩
      case measure => simp only [intOf, Int.toNat_natCast]; exact hlt
end Go.Proofs.YtpnmmedjamkmeaaGreat

/- From carryless numbers into the field: the value at the element 2; Horner's way of the product. -/
set_option linter.unusedVariables false
set_option linter.unusedSimpArgs false
namespace Go.Proofs.YtpnmmedjamkmeaaGreat

def feTo : Nat → Nat → Nat
  | 0, _ => 0
  | k + 1, n => feTo k n ^^^ (if n.testBit k then ex k else 0)
/-- The element that the bits of n tell: the sum of the powers of 2. -/
def fe (n : Nat) : Nat := feTo 40 n
theorem feTo_xor (k a b : Nat) : feTo k (a ^^^ b) = feTo k a ^^^ feTo k b := by
  induction k with
  | zero => simp [feTo]
  | succ k ih =>
    rw [feTo, feTo, feTo, ih, xor4, Nat.testBit_xor]
    congr 1
    cases a.testBit k <;> cases b.testBit k <;> simp
theorem fe_xor (a b : Nat) : fe (a ^^^ b) = fe a ^^^ fe b := feTo_xor 40 a b
theorem feTo_pow (k s : Nat) : feTo k (2 ^ s) = if s < k then ex s else 0 := by
  induction k with
  | zero => rfl
  | succ k ih =>
    rw [feTo, ih, Nat.testBit_two_pow]
    by_cases e : s = k
    · subst e
      rw [if_neg (Nat.lt_irrefl s), Nat.zero_xor, if_pos (show decide (s = s) = true by simp), if_pos (Nat.lt_succ_self s)]
    · rw [if_neg (show ¬ (decide (s = k)) = true by simpa using e), Nat.xor_zero]
      by_cases h : s < k
      · rw [if_pos h, if_pos (by omega)]
      · rw [if_neg h, if_neg (by omega)]
theorem fe_pow {s : Nat} (h : s < 40) : fe (2 ^ s) = ex s := by unfold fe; rw [feTo_pow, if_pos h]
theorem fe_zero : fe 0 = 0 := by
  have : ∀ k, feTo k 0 = 0 := by
    intro k
    induction k with
    | zero => rfl
    | succ k ih => rw [feTo, ih]; simp
  exact this 40
theorem fe_lt (n : Nat) : fe n < 65536 := by
  have : ∀ k, feTo k n < 65536 := by
    intro k
    induction k with
    | zero => simp [feTo]
    | succ k ih =>
      refine xor_lt16 ih ?_
      split
      · exact ex_lt k
      · omega
  exact this 40
theorem add_fe : Add fe := ⟨fe_zero, fun a b _ _ => fe_xor a b⟩
theorem fe_self {n : Nat} (h : n < 65536) : fe n = n := by
  refine Add.eq (f := fe) (g := fun n => n) add_fe add_id (fun i hi => ?_) n h
  show fe (2 ^ i) = 2 ^ i
  rw [fe_pow (by omega), pow_dblN i hi, ex_dblN]
theorem fe_poly : fe 65581 = 0 := by decide +kernel
theorem shl_xor (a b i : Nat) : (a ^^^ b) * 2 ^ i = a * 2 ^ i ^^^ b * 2 ^ i := by
  induction i with
  | zero => simp
  | succ i ih =>
    have e : ∀ x : Nat, x * 2 ^ (i + 1) = 2 * (x * 2 ^ i) := fun x => by rw [Nat.pow_succ]; simp only [Nat.mul_comm, Nat.mul_left_comm]
    rw [e, e, e, ih, two_mul_xor]
theorem fe_shift {b : Nat} (i : Nat) (hi : i < 20) : ∀ k, k ≤ 20 → b < 2 ^ k → fe (b * 2 ^ i) = dblN i (fe b) := by
  intro k
  induction k generalizing b with
  | zero => intro _ hb; obtain rfl : b = 0 := by simpa using hb
            rw [Nat.zero_mul, fe_zero, dblN_zero]
  | succ k ih =>
    intro hk hb
    rcases lt_or_top hb with c | ⟨y, hy, rfl⟩
    · exact ih (by omega) c
    · rw [shl_xor, fe_xor, fe_xor, ih (by omega) hy, dblN_xor (fe_lt _) (fe_lt _), ← Nat.pow_add, fe_pow (by omega), fe_pow (by omega), ex_dblN, ex_dblN, Nat.add_comm, dblN_add]
theorem fe_cm {b : Nat} (hb : b < 131072) : ∀ k, k ≤ 17 → ∀ q, q < 2 ^ k → fe (cm q b) = gmul (fe b) (fe q) := by
  intro k
  induction k with
  | zero => intro _ q hq; obtain rfl : q = 0 := by simpa using hq
            rw [cm_zero, fe_zero, gmul_zero]
  | succ k ih =>
    intro hk q hq
    rcases lt_or_top hq with c | ⟨y, hy, rfl⟩
    · exact ih (by omega) q c
    · have e1 : cm (2 ^ k ^^^ y) b = b * 2 ^ k ^^^ cm y b := by
        unfold cm; rw [cmTo_xor, cmTo_pow, if_pos (by omega)]
      rw [e1, fe_xor, fe_xor, ih (by omega) y hy, (add_right (fe b)).add _ _ (fe_lt _) (fe_lt _), fe_shift k (by omega) 17 (by omega) hb, fe_pow (by omega), ex_dblN,
        gmul_dblN (fe_lt b) (by omega), gmul_one]
/-- The remainder modulo Poly16 is the element. -/
theorem rem_poly {a q r : Nat} (hq : q < 131072) (h : a = cm q 65581 ^^^ r) (hr : blen r < 17) : r = fe a := by
  have hr' : r < 65536 := by
    have := blen_lt (x := r)
    exact Nat.lt_of_lt_of_le this (show 2 ^ blen r ≤ 2 ^ 16 from Nat.pow_le_pow_right (by omega) (by omega))
  rw [h, fe_xor, fe_cm (by omega) 17 (by omega) q hq, fe_poly, zero_gmul, Nat.zero_xor, fe_self hr']
/-- A product bit by bit from the lowest on. -/
theorem mulTo_low {a : Nat} (ha : a < 65536) (n c : Nat) : mulTo (n + 1) a c = dbl (mulTo n a (c / 2)) ^^^ (if c.testBit 0 then a else 0) := by
  induction n with
  | zero => simp [mulTo, dblN, dbl_zero]
  | succ n ih =>
    rw [mulTo, ih, mulTo, dbl_xor (mulTo_lt ha _ _) (by split; exact dblN_lt ha _; omega), Nat.xor_assoc, Nat.xor_assoc, Nat.xor_comm (if c.testBit 0 = true then a else 0)]
    congr 2
    rw [Nat.testBit_succ]
    split
    · rfl
    · exact dbl_zero.symm
/-- Horner's way, n bits done from the top. -/
def hor (a b : Nat) : Nat → Nat
  | 0 => 0
  | n + 1 => dbl (hor a b n) ^^^ (if b.testBit (15 - n) then a else 0)
theorem hor_mulTo {a b : Nat} (ha : a < 65536) : ∀ n, n ≤ 16 → hor a b n = mulTo n a (b / 2 ^ (16 - n)) := by
  intro n
  induction n with
  | zero => intro _; rfl
  | succ n ih =>
    intro hn
    rw [hor, ih (by omega), show 16 - (n + 1) = 15 - n from by omega, mulTo_low ha, Nat.div_div_eq_div_mul, ← Nat.pow_succ, show (15 - n).succ = 16 - n from by omega]
    congr 2
    rw [Nat.testBit_div_two_pow, Nat.zero_add]
theorem hor_gmul {a b : Nat} (ha : a < 65536) : hor a b 16 = gmul a b := by
  rw [hor_mulTo ha 16 (by omega)]; simp [gmul]
theorem hor_lt {a : Nat} (ha : a < 65536) (b n : Nat) : hor a b n < 65536 := by
  cases n with
  | zero => simp [hor]
  | succ n =>
    have : ∀ n, hor a b n < 65536 := by
      intro n
      induction n with
      | zero => simp [hor]
      | succ n ih =>
        refine xor_lt16 (dbl_lt ih) ?_
        split
        · exact ha
        · omega
    exact this _
end Go.Proofs.YtpnmmedjamkmeaaGreat

/- Walks: ring.mulMod, MulMod, gf16.Mul. -/
set_option linter.unusedVariables false
set_option linter.unusedSimpArgs false
namespace Go.Proofs.YtpnmmedjamkmeaaGreat
open Go.RowKit

theorem bit_test64 (b k : Nat) (h : b < 18446744073709551616) : (bits BinOp.and IntKind.u64 ((b : Int) / 2 ^ k) 1 == 1) = b.testBit k := by
  have e : ((b : Int) / 2 ^ k) = ((b / 2 ^ k : Nat) : Int) := by simp
  have hle : b / 2 ^ k ≤ b := Nat.div_le_self _ _
  rw [e, show (1 : Int) = ((1 : Nat) : Int) from rfl, Go.u64_and_nat _ 1 (by omega) (by omega), Nat.and_one_is_mod, Nat.testBit_eq_decide_div_mod_eq]
  generalize b / 2 ^ k = m
  have : m % 2 = 0 ∨ m % 2 = 1 := by omega
  rcases this with h | h <;> rw [h] <;> rfl

set_option maxRecDepth 20000 in
set_option maxHeartbeats 3200000 in
theorem mulMod_calls (a b : Nat) (ha : a < 131072) (hb : b < 131072) (w : World) :
    Calls Tryz.prog 170 #[.int .u64 (a : Int), .int .u64 (b : Int), .int .u64 65581] w fun e w' => e = .returned (.int .u64 (gmul (fe a) (fe b) : Int)) ∧ w' = w := by
  obtain ⟨G, hG⟩ : ∃ G, G = gmul (fe a) (fe b) := ⟨_, rfl⟩
  rw [← hG]
  have HA := hid (divMod_calls a 65581 ha (by omega) (by omega) w)
  have HB := hid (divMod_calls b 65581 hb (by omega) (by omega) w)
  have hd := Degree_calls 65581 (by omega) w
  rw [blen_poly] at hd
  have HD := hid hd
  have HGG := hid hG
  clear hG
  have hpb := blen_poly
  have HPB := hid hpb
  clear hd hpb
  go_enter Tryz.func170, Tryz.ntmps170
  go_wp2_with fail
  refine HA.out.mono ?_
  rintro e w1 ⟨q1, r1, rfl, hq1, hr1, he1, hl1, rfl⟩
  rw [HPB.out] at hl1
  have e1 := rem_poly hq1 he1 hl1
  subst e1
  clear he1 hl1
  go_wp2_with fail
  refine HB.out.mono ?_
  rintro e w2 ⟨q2, r2, rfl, hq2, hr2, he2, hl2, rfl⟩
  rw [HPB.out] at hl2
  have e2 := rem_poly hq2 he2 hl2
  subst e2
  clear he2 hl2
  go_wp2_with fail
  refine HD.out.mono ?_
  rintro e w3 ⟨rfl, rfl⟩
  have hfa := fe_lt a
  have hfb := fe_lt b
  have HG : Hid (hor (fe a) (fe b) 16 = G) := hid (by rw [hor_gmul hfa, HGG.out])
  clear HGG
  have HN := hid (fun n => (show hor (fe a) (fe b) (n + 1) = dbl (hor (fe a) (fe b) n) ^^^ (if (fe b).testBit (15 - n) then fe a else 0) from rfl))
  have HLT := hid (hor_lt hfa (fe b))
  clear HA HB HD hr1 hr2 hq1 hq2
  generalize fe a = A at *
  generalize fe b = B at *
  go_wp2_with fail
  go_loopw [8, 9] (fun r i wr => ∃ n : Nat, n ≤ 16 ∧ i = .int .i64 (15 - (n : Int)) ∧ r = .int .u64 (hor A B n : Int) ∧ wr = w3) (fun _ i _ => (intOf i + 1).toNat)
  case atStart => exact ⟨0, by omega, rfl, rfl, rfl⟩
  case round =>
    obtain ⟨n, hn, rfl, rfl, rfl⟩ := hrel
    by_cases hlt : n < 16
    · have ht : decide (0 ≤ 15 - (n : Int)) = true := by simp; omega
      have hx := HLT.out n
      have hnx := HN.out n
      have hx2 := HLT.out (n + 1)
      have HNX := hid hnx
      clear hnx
      generalize hor A B n = x at *
      obtain ⟨y, hy⟩ : ∃ y, hor A B (n + 1) = y := ⟨_, rfl⟩
      rw [hy] at HNX hx2
      have HY := hid hy
      clear hy
      have X1 : Hid (bits BinOp.xor IntKind.u64 ((x : Int) * 2) 65581 = ((2 * x ^^^ 65581 : Nat) : Int)) := hid (by
        rw [show ((x : Int) * 2) = ((2 * x : Nat) : Int) from by omega]; exact Go.u64_xor_nat (2 * x) 65581 (by omega) (by omega))
      have X2 : Hid (((x : Int) * 2) = ((2 * x : Nat) : Int)) := hid (by omega)
      have X3 : Hid (2 * x ^^^ 65581 < 131072) := hid (Nat.xor_lt_two_pow (n := 17) (by omega) (by omega))
      have t1 : (bits BinOp.and IntKind.u64 ((x : Int) * 2 / 65536) 1 == 1) = decide (65535 < 2 * x) := by
        have := bit_test64 (2 * x) 16 (by omega)
        rw [show ((2 * x : Nat) : Int) / 2 ^ 16 = (x : Int) * 2 / 65536 from by rw [show (2 : Int) ^ 16 = 65536 from rfl]; omega] at this
        rw [this, Nat.testBit_eq_decide_div_mod_eq]
        by_cases h : 65535 < 2 * x <;> simp [h] <;> omega
      have t2 := bit_test64 B (15 - n) (by omega)
      by_cases hbig : 65535 < 2 * x
      · rw [decide_eq_true hbig] at t1
        have HD : Hid (dbl x = 2 * x ^^^ 65581) := hid (by unfold dbl; rw [if_pos (by omega)])
        clear hbig
        by_cases hbit : B.testBit (15 - n) = true
        · rw [hbit] at t2
          have HV : Hid (bits BinOp.xor IntKind.u64 (bits BinOp.xor IntKind.u64 ((x : Int) * 2) 65581) (A : Int) = (y : Int)) := hid (by
          rw [HNX.out, if_pos hbit]
          rw [HD.out]
          rw [X1.out]; exact Go.u64_xor_nat _ _ (by have := X3.out; omega) (by omega)
          )
          clear hbit
          go_wp2_with fail
          rw [HV.out]
          go_roundw
          case rel => exact ⟨n + 1, by omega, by congr 1; omega, by rw [HY.out], by first | rfl | trivial⟩
          case measure => simp only [intOf]; omega
        · rw [Bool.not_eq_true] at hbit
          rw [hbit] at t2
          have hbit : ¬ B.testBit (15 - n) = true := by rw [hbit]; simp
          have HV : Hid (bits BinOp.xor IntKind.u64 ((x : Int) * 2) 65581 = (y : Int)) := hid (by
          rw [HNX.out, if_neg hbit, Nat.xor_zero]
          rw [HD.out]
          exact X1.out
          )
          clear hbit
          go_wp2_with fail
          rw [HV.out]
          go_roundw
          case rel => exact ⟨n + 1, by omega, by congr 1; omega, by rw [HY.out], by first | rfl | trivial⟩
          case measure => simp only [intOf]; omega
      · rw [decide_eq_false hbig] at t1
        have HD : Hid (dbl x = 2 * x) := hid (by unfold dbl; rw [if_neg (by omega)])
        clear hbig
        by_cases hbit : B.testBit (15 - n) = true
        · rw [hbit] at t2
          have HV : Hid (bits BinOp.xor IntKind.u64 ((x : Int) * 2) (A : Int) = (y : Int)) := hid (by
          rw [HNX.out, if_pos hbit]
          rw [HD.out]
          rw [X2.out]; exact Go.u64_xor_nat _ _ (by omega) (by omega)
          )
          clear hbit
          go_wp2_with fail
          rw [HV.out]
          go_roundw
          case rel => exact ⟨n + 1, by omega, by congr 1; omega, by rw [HY.out], by first | rfl | trivial⟩
          case measure => simp only [intOf]; omega
        · rw [Bool.not_eq_true] at hbit
          rw [hbit] at t2
          have hbit : ¬ B.testBit (15 - n) = true := by rw [hbit]; simp
          have HV : Hid (((x : Int) * 2) = (y : Int)) := hid (by
          rw [HNX.out, if_neg hbit, Nat.xor_zero]
          rw [HD.out]
          exact X2.out
          )
          clear hbit
          go_wp2_with fail
          rw [HV.out]
          go_roundw
          case rel => exact ⟨n + 1, by omega, by congr 1; omega, by rw [HY.out], by first | rfl | trivial⟩
          case measure => simp only [intOf]; omega
    · obtain rfl : n = 16 := by omega
      rw [HG.out]
      go_wp2_with fail
      go_ret
      exact ⟨rfl, rfl⟩

theorem MulMod_calls (a b : Nat) (ha : a < 131072) (hb : b < 131072) (w : World) :
    Calls Tryz.prog 155 #[.int .u64 (a : Int), .int .u64 (b : Int), .int .u64 65581] w fun e w' => e = .returned (.tuple #[.int .u64 (gmul (fe a) (fe b) : Int), .int .i64 0]) ∧ w' = w := by
  have H1 := hid (isModulus_calls w)
  have H2 := hid (mulMod_calls a b ha hb w)
  go_enter Tryz.func155, Tryz.ntmps155
  go_wp2_with fail
  refine H1.out.mono ?_
  rintro e w1 ⟨rfl, rfl⟩
  go_wp2_with fail
  refine H2.out.mono ?_
  rintro e w2 ⟨rfl, rfl⟩
  go_wp2_with fail
  go_ret2
  exact ⟨rfl, rfl⟩

theorem gMul_calls (a b : Nat) (ha : a < 65536) (hb : b < 65536) (w : World) :
    Calls Tryz.prog 143 #[.int .u16 (a : Int), .int .u16 (b : Int)] w fun e w' => e = .returned (.int .u16 (gmul a b : Int)) ∧ w' = w := by
  have h2 := MulMod_calls a b (by omega) (by omega) w
  rw [fe_self ha, fe_self hb] at h2
  have H2 := hid h2
  have hg := gmul_lt ha b
  clear h2
  go_enter Tryz.func143, Tryz.ntmps143
  go_wp2_with fail
  refine H2.out.mono ?_
  rintro e w2 ⟨rfl, rfl⟩
  go_wp2_with fail
  go_ret
  exact ⟨rfl, rfl⟩
end Go.Proofs.YtpnmmedjamkmeaaGreat

/- Every element but 0 is a power of 2; no divisors of 0; divisors of Poly16 among the carryless numbers. -/
set_option linter.unusedVariables false
set_option linter.unusedSimpArgs false
namespace Go.Proofs.YtpnmmedjamkmeaaGreat

theorem pigeon : ∀ (n : Nat) (f : Nat → Nat), (∀ i, i < n → f i < n) → (∀ i j, i < n → j < n → f i = f j → i = j) → ∀ y, y < n → ∃ i, i < n ∧ f i = y := by
  intro n
  induction n with
  | zero => intro f _ _ y hy; omega
  | succ n ih =>
    intro f hf hi y hy
    have hv := hf n (by omega)
    by_cases ey : y = f n
    · exact ⟨n, by omega, ey.symm⟩
    have key := ih (fun i => if f i = n then f n else f i) (fun i h => by
        show (if f i = n then f n else f i) < n
        have h1 := hf i (by omega)
        by_cases c : f i = n
        · rw [if_pos c]
          rcases Nat.lt_or_ge (f n) n with h2 | h2
          · exact h2
          · have : f n = n := by omega
            have := hi i n (by omega) (by omega) (by rw [c, this])
            omega
        · rw [if_neg c]; omega) (fun i j h1 h2 he => by
        have he : (if f i = n then f n else f i) = (if f j = n then f n else f j) := he
        by_cases c : f i = n <;> by_cases c2 : f j = n
        · exact hi i j (by omega) (by omega) (by rw [c, c2])
        · rw [if_pos c, if_neg c2] at he
          have := hi n j (by omega) (by omega) he; omega
        · rw [if_neg c, if_pos c2] at he
          have := hi i n (by omega) (by omega) he; omega
        · rw [if_neg c, if_neg c2] at he
          exact hi i j (by omega) (by omega) he)
    by_cases yn : y = n
    · subst yn
      obtain ⟨i, h1, h2⟩ := key (f y) (by omega)
      have h2 : (if f i = y then f y else f i) = f y := h2
      by_cases c : f i = y
      · exact ⟨i, by omega, c⟩
      · rw [if_neg c] at h2
        have := hi i y (by omega) (by omega) h2; omega
    · obtain ⟨i, h1, h2⟩ := key y (by omega)
      have h2 : (if f i = n then f n else f i) = y := h2
      by_cases c : f i = n
      · rw [if_pos c] at h2; omega
      · rw [if_neg c] at h2; exact ⟨i, by omega, h2⟩
theorem ex_surj {x : Nat} (h : x < 65536) (h0 : x ≠ 0) : ∃ n, n < 65535 ∧ ex n = x := by
  obtain ⟨i, h1, h2⟩ := pigeon 65535 (fun n => ex n - 1) (fun i _ => by have := ex_lt i; have := ex_ne_zero i; show ex i - 1 < 65535; omega)
    (fun i j hi hj he => by
      have he : ex i - 1 = ex j - 1 := he
      have := ex_ne_zero i; have := ex_ne_zero j
      exact ex_inj hi hj (by omega)) (x - 1) (by omega)
  have h2 : ex i - 1 = x - 1 := h2
  have := ex_ne_zero i
  exact ⟨i, h1, by omega⟩
theorem ex_lg {x : Nat} (h : x < 65536) (h0 : x ≠ 0) : ex (lg x) = x := by
  obtain ⟨n, hn, rfl⟩ := ex_surj h h0
  rw [lg_ex hn]
theorem gmul_ne_zero {a b : Nat} (ha : a < 65536) (hb : b < 65536) (ha0 : a ≠ 0) (hb0 : b ≠ 0) : gmul a b ≠ 0 := by
  obtain ⟨n, _, rfl⟩ := ex_surj ha ha0
  obtain ⟨m, _, rfl⟩ := ex_surj hb hb0
  rw [← ex_add]; exact ex_ne_zero _
theorem gmul_eq_zero {a b : Nat} (ha : a < 65536) (hb : b < 65536) (h : gmul a b = 0) : a = 0 ∨ b = 0 := by
  by_cases h1 : a = 0
  · exact .inl h1
  · by_cases h2 : b = 0
    · exact .inr h2
    · exact absurd h (gmul_ne_zero ha hb h1 h2)
/-- The product by logarithms. -/
def tmul' (a b : Nat) : Nat := if a = 0 ∨ b = 0 then 0 else ex ((lg a + lg b) % 65535)
theorem tmul_gmul {a b : Nat} (ha : a < 65536) (hb : b < 65536) : tmul' a b = gmul a b := by
  unfold tmul'
  by_cases h : a = 0 ∨ b = 0
  · rw [if_pos h]
    rcases h with rfl | rfl
    · rw [zero_gmul]
    · rw [gmul_zero]
  · rw [if_neg h, ex_mod65535, ex_add, ex_lg ha (fun e => h (.inl e)), ex_lg hb (fun e => h (.inr e))]
/-- The inverse. -/
def ginv (a : Nat) : Nat := ex ((65535 - lg a) % 65535)
theorem ginv_lt (a : Nat) : ginv a < 65536 := ex_lt _
theorem gmul_inv {a : Nat} (ha : a < 65536) (h0 : a ≠ 0) : gmul a (ginv a) = 1 := by
  unfold ginv
  conv => lhs; rw [← ex_lg ha h0]
  rw [ex_mod65535, ← ex_add, lg_ex (lg_lt _), show lg a + (65535 - lg a) = 65535 from by have := lg_lt a; omega, ex_65535]
theorem inv_unique {a b : Nat} (ha : a < 65536) (hb : b < 65536) (h : gmul b a = 1) : b = ginv a := by
  have h0 : a ≠ 0 := by intro e; subst e; rw [gmul_zero] at h; omega
  have := congrArg (fun z => gmul z (ginv a)) h
  simp only [one_gmul (ginv_lt a)] at this
  rwa [gmul_assoc hb ha (ginv_lt a), gmul_inv ha h0, gmul_one] at this

/-! Carryless divisors. -/
theorem cmTo_stable {z d j : Nat} (hz : z < 2 ^ j) : ∀ k, j ≤ k → cmTo k z d = cmTo j z d := by
  intro k
  induction k with
  | zero => intro h; rw [Nat.le_zero.1 h]
  | succ k ih =>
    intro h
    by_cases e : j = k + 1
    · rw [e]
    · rw [cmTo, ih (by omega), Nat.testBit_lt_two_pow (Nat.lt_of_lt_of_le hz (Nat.pow_le_pow_right (by omega) (by omega)))]
      simp
def cmI (z d : Nat) : Nat := cmTo (blen z) z d
theorem cmI_eq {z d k : Nat} (h : z < 2 ^ k) : cmTo k z d = cmI z d := cmTo_stable blen_lt k (blen_le h)
def Dv (d x : Nat) : Prop := ∃ z, x = cmI z d
theorem Dv.self (d : Nat) : Dv d d := ⟨1, by rw [← cmI_eq (k := 1) (by omega)]; simp [cmTo]⟩
theorem Dv.zero (d : Nat) : Dv d 0 := ⟨0, by rw [← cmI_eq (k := 0) (by omega)]; rfl⟩
theorem Dv.xor {d x y : Nat} (h : Dv d x) (k : Dv d y) : Dv d (x ^^^ y) := by
  obtain ⟨z, rfl⟩ := h
  obtain ⟨u, rfl⟩ := k
  have h1 : z < 2 ^ (blen z + blen u) := Nat.lt_of_lt_of_le blen_lt (Nat.pow_le_pow_right (by omega) (by omega))
  have h2 : u < 2 ^ (blen z + blen u) := Nat.lt_of_lt_of_le blen_lt (Nat.pow_le_pow_right (by omega) (by omega))
  refine ⟨z ^^^ u, ?_⟩
  rw [← cmI_eq h1, ← cmI_eq h2, ← cmI_eq (Nat.xor_lt_two_pow h1 h2), cmTo_xor]
theorem Dv.shift {d x : Nat} (h : Dv d x) (i : Nat) : Dv d (x * 2 ^ i) := by
  obtain ⟨z, rfl⟩ := h
  refine ⟨z * 2 ^ i, ?_⟩
  have key : ∀ k, cmTo (k + i) (z * 2 ^ i) d = cmTo k z d * 2 ^ i := by
    intro k
    induction k with
    | zero =>
      have : ∀ m, m ≤ i → cmTo m (z * 2 ^ i) d = 0 := by
        intro m
        induction m with
        | zero => intro _; rfl
        | succ m ih =>
          intro hm
          rw [cmTo, ih (by omega), Nat.testBit_mul_two_pow]
          simp [show ¬ i ≤ m by omega]
      rw [Nat.zero_add, this i (Nat.le_refl _), cmTo, Nat.zero_mul]
    | succ k ih =>
      rw [Nat.succ_add, cmTo, ih, cmTo, shl_xor, Nat.testBit_mul_two_pow]
      congr 1
      have e : (decide (i ≤ k + i) && z.testBit (k + i - i)) = z.testBit k := by simp
      rw [e]
      split
      · rw [Nat.pow_add, Nat.mul_assoc]
      · rw [Nat.zero_mul]
  have hz : z < 2 ^ blen z := blen_lt
  rw [← cmI_eq (z := z * 2 ^ i) (k := blen z + i) (by rw [Nat.pow_add]; exact Nat.mul_lt_mul_of_pos_right hz (Nat.two_pow_pos i)), key]; rfl
theorem Dv.cm {d y : Nat} (h : Dv d y) (q : Nat) : Dv d (cm q y) := by
  have : ∀ k, Dv d (cmTo k q y) := by
    intro k
    induction k with
    | zero => exact Dv.zero d
    | succ k ih =>
      refine ih.xor ?_
      split
      · exact h.shift k
      · exact Dv.zero d
  exact this 17
theorem cmTo_lt {m d : Nat} (hd : d < 2 ^ m) : ∀ k y, cmTo k y d < 2 ^ (m + k) := by
  intro k
  induction k with
  | zero => intro y; exact Nat.two_pow_pos _
  | succ k ih =>
    intro y
    refine Nat.xor_lt_two_pow (Nat.lt_of_lt_of_le (ih y) (Nat.pow_le_pow_right (by omega) (by omega))) ?_
    split
    · rw [show m + (k + 1) = m + k + 1 from rfl, Nat.pow_succ, Nat.pow_add]
      have := Nat.mul_lt_mul_of_pos_right hd (Nat.two_pow_pos k)
      omega
    · exact Nat.two_pow_pos _
theorem cmTo_lt' {m d : Nat} (hd : d < 2 ^ (m + 1)) (k y : Nat) : cmTo k y d < 2 ^ (m + k) := by
  cases k with
  | zero => exact Nat.two_pow_pos _
  | succ k => have := cmTo_lt hd (k + 1) y; rw [show m + 1 + (k + 1) = m + (k + 1) + 1 from by omega] at this
              clear this
              refine Nat.xor_lt_two_pow (Nat.lt_of_lt_of_le (cmTo_lt hd k y) (Nat.pow_le_pow_right (by omega) (by omega))) ?_
              split
              · rw [show m + (k + 1) = m + 1 + k from by omega, Nat.pow_add]
                exact Nat.mul_lt_mul_of_pos_right hd (Nat.two_pow_pos k)
              · exact Nat.two_pow_pos _
theorem two_pow_xor_of_lt {v n : Nat} (h : v < 2 ^ n) : 2 ^ n ^^^ v = 2 ^ n + v := by
  have h1 := Nat.two_pow_add_eq_or_of_lt h 1
  rw [Nat.mul_one] at h1
  rw [h1]
  apply Nat.eq_of_testBit_eq
  intro i
  rw [Nat.testBit_or, Nat.testBit_xor, Nat.testBit_two_pow]
  by_cases e : n = i
  · subst e; rw [Nat.testBit_lt_two_pow h]; simp
  · simp [e]
theorem cmI_ge {z d a b : Nat} (hz : 2 ^ a ≤ z) (hz' : z < 2 ^ (a + 1)) (hd : 2 ^ b ≤ d) (hd' : d < 2 ^ (b + 1)) : 2 ^ (a + b) ≤ cmI z d := by
  obtain ⟨y, hy, rfl⟩ := top_of hz hz'
  rw [← cmI_eq hz', cmTo_xor, cmTo_pow, if_pos (by omega)]
  have h1 : cmTo (a + 1) y d = cmTo a y d := cmTo_stable hy (a + 1) (by omega)
  rw [h1]
  have h2 : cmTo a y d < 2 ^ (a + b) := by rw [Nat.add_comm a b]; exact cmTo_lt' hd' a y
  have h3 : 2 ^ (a + b) ≤ d * 2 ^ a := by rw [Nat.pow_add, Nat.mul_comm]; exact Nat.mul_le_mul_right _ hd
  have h4 : d * 2 ^ a < 2 ^ (a + b + 1) := by
    rw [show a + b + 1 = b + 1 + a from by omega, Nat.pow_add]; exact Nat.mul_lt_mul_of_pos_right hd' (Nat.two_pow_pos a)
  obtain ⟨u, hu, hue⟩ := top_of h3 h4
  rw [hue, Nat.xor_assoc]
  have h5 := Nat.xor_lt_two_pow hu h2
  generalize u ^^^ cmTo a y d = v at *
  have := two_pow_xor_of_lt h5
  omega
/-- A divisor of Poly16 below 65536 is 1. -/
theorem dv_one {x : Nat} (hx : x < 65536) (hx0 : x ≠ 0) (h : Dv x 65581) : x = 1 := by
  obtain ⟨z, hz⟩ := h
  have hz0 : z ≠ 0 := by
    intro e; subst e
    rw [← cmI_eq (k := 0) (by omega)] at hz
    simp [cmTo] at hz
  obtain ⟨hz1, hzp⟩ := blen_pos hz0
  obtain ⟨hx1, hxp⟩ := blen_pos hx0
  have hz2 := blen_lt (x := z)
  have hx2 := blen_lt (x := x)
  have hge := cmI_ge (z := z) (d := x) (a := blen z - 1) (b := blen x - 1) hz1 (by rw [show blen z - 1 + 1 = blen z from by omega]; exact hz2) hx1 (by rw [show blen x - 1 + 1 = blen x from by omega]; exact hx2)
  rw [← hz] at hge
  have hsum : blen z - 1 + (blen x - 1) < 17 := (Nat.pow_lt_pow_iff_right (a := 2) (by omega)).1 (Nat.lt_of_le_of_lt hge (by decide))
  have hz17 : z < 2 ^ 17 := Nat.lt_of_lt_of_le hz2 (Nat.pow_le_pow_right (by omega) (by omega))
  have hcm : cm z x = 65581 := by rw [hz]; exact cmI_eq hz17
  have hfe := fe_cm (b := x) (by omega) 17 (by omega) z hz17
  rw [hcm, fe_poly, fe_self hx] at hfe
  rcases gmul_eq_zero hx (fe_lt z) hfe.symm with e | e
  · exact absurd e hx0
  · -- z is no element's number below 65536
    by_cases hb : blen x ≤ 1
    · have : x < 2 ^ 1 := Nat.lt_of_lt_of_le hx2 (Nat.pow_le_pow_right (by omega) hb)
      omega
    · have hz16 : z < 65536 := Nat.lt_of_lt_of_le hz2 (show 2 ^ blen z ≤ 2 ^ 16 from Nat.pow_le_pow_right (by omega) (by omega))
      rw [fe_self hz16] at e
      exact absurd e hz0
end Go.Proofs.YtpnmmedjamkmeaaGreat
