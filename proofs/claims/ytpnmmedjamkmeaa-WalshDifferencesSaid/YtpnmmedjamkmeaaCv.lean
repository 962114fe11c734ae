/- The convolution theorem of the Walsh-Hadamard transform, and what it says of the code's lists modulo 65535. -/
import Derived.Test.YtpnmmedjamkmeaaPm
set_option linter.unusedVariables false
set_option linter.unusedSimpArgs false
namespace Go.Proofs.Ytpnmmedjamkmeaa

/-- The sum over all numbers below 2^t. -/
def SX : Nat → (Nat → Int) → Int
  | 0, F => F 0
  | t + 1, F => SX t F + SX t (fun j => F (2 ^ t ^^^ j))
theorem SX_congr {t : Nat} {F G : Nat → Int} (h : ∀ j, j < 2 ^ t → F j = G j) : SX t F = SX t G := by
  induction t generalizing F G with
  | zero => exact h 0 (by simp)
  | succ t ih =>
    have hp : 2 ^ t < 2 ^ (t + 1) := by rw [Nat.pow_succ]; have := Nat.two_pow_pos t; omega
    rw [SX, SX, ih (fun j hj => h j (by omega)), ih (F := fun j => F (2 ^ t ^^^ j)) (fun j hj => h _ (Nat.xor_lt_two_pow hp (by omega)))]
theorem SX_add (t : Nat) (F G : Nat → Int) : SX t (fun j => F j + G j) = SX t F + SX t G := by
  induction t generalizing F G with
  | zero => rfl
  | succ t ih => rw [SX, SX, SX, ih, ih]; omega
theorem SX_mul (t : Nat) (c : Int) (F : Nat → Int) : SX t (fun j => c * F j) = c * SX t F := by
  induction t generalizing F with
  | zero => rfl
  | succ t ih => rw [SX, SX, ih, ih, Int.mul_add]
theorem SX_neg (t : Nat) (F : Nat → Int) : SX t (fun j => -F j) = -SX t F := by
  induction t generalizing F with
  | zero => rfl
  | succ t ih => rw [SX, SX, ih, ih]; omega
theorem SX_swap (t s : Nat) (F : Nat → Nat → Int) : SX t (fun i => SX s (fun j => F i j)) = SX s (fun j => SX t (fun i => F i j)) := by
  induction t generalizing F with
  | zero => rfl
  | succ t ih =>
    rw [SX, ih, ih, ← SX_add]
    rfl
theorem lt_or_top {t k : Nat} (h : k < 2 ^ (t + 1)) : k < 2 ^ t ∨ ∃ y, y < 2 ^ t ∧ k = 2 ^ t ^^^ y := by
  rcases Nat.lt_or_ge k (2 ^ t) with c | c
  · exact .inl c
  · refine .inr ⟨k - 2 ^ t, by rw [Nat.pow_succ] at h; omega, ?_⟩
    apply Nat.eq_of_testBit_eq
    intro i
    have hy : k - 2 ^ t < 2 ^ t := by rw [Nat.pow_succ] at h; omega
    have e : k = 2 ^ t * 1 + (k - 2 ^ t) := by omega
    conv => lhs; rw [e]
    rw [Nat.testBit_two_pow_mul_add 1 hy, Nat.testBit_xor, Nat.testBit_two_pow]
    by_cases hi : i < t
    · rw [if_pos hi]; simp [show t ≠ i by omega]
    · rw [if_neg hi]
      have h2 : (k - 2 ^ t).testBit i = false := Nat.testBit_lt_two_pow (Nat.lt_of_lt_of_le hy (Nat.pow_le_pow_right (by omega) (by omega)))
      rw [h2]
      by_cases e : t = i
      · subst e; simp
      · have : i - t = (i - t - 1) + 1 := by omega
        rw [this, Nat.testBit_succ]; simp [e]
theorem xor_top_ne {t j : Nat} : (2 ^ t ^^^ j).testBit t = !j.testBit t := by rw [Nat.testBit_xor, Nat.testBit_two_pow]; simp
theorem SX_shift (t : Nat) (F : Nat → Int) (k : Nat) (hk : k < 2 ^ t) : SX t (fun j => F (j ^^^ k)) = SX t F := by
  induction t generalizing F k with
  | zero => obtain rfl : k = 0 := by simpa using hk
            simp [SX]
  | succ t ih =>
    rw [SX, SX]
    rcases lt_or_top hk with c | ⟨y, hy, rfl⟩
    · rw [ih F k c]
      have := ih (fun j => F (2 ^ t ^^^ j)) k c
      simp only [← Nat.xor_assoc] at this
      rw [this]
    · have h1 := ih (fun j => F (2 ^ t ^^^ j)) y hy
      have h2 := ih F y hy
      have e1 : ∀ j, j ^^^ (2 ^ t ^^^ y) = 2 ^ t ^^^ (j ^^^ y) := fun j => by rw [← Nat.xor_assoc, Nat.xor_comm j, Nat.xor_assoc]
      have e2 : ∀ j, (2 ^ t ^^^ j) ^^^ (2 ^ t ^^^ y) = j ^^^ y := fun j => by rw [e1, ← Nat.xor_assoc, ← Nat.xor_assoc, Nat.xor_self, Nat.zero_xor]
      have a1 : (fun j => F (j ^^^ (2 ^ t ^^^ y))) = fun j => F (2 ^ t ^^^ (j ^^^ y)) := funext fun j => by rw [e1]
      have a2 : (fun j => F ((2 ^ t ^^^ j) ^^^ (2 ^ t ^^^ y))) = fun j => F (j ^^^ y) := funext fun j => by rw [e2]
      rw [a1, a2, h1, h2, Int.add_comm]

/-- One stage over whole numbers. -/
def Sg (s : Nat) (f : Nat → Int) (j : Nat) : Int := if j.testBit s then f (j ^^^ 2 ^ s) - f j else f j + f (j ^^^ 2 ^ s)
def Wt : Nat → (Nat → Int) → Nat → Int
  | 0, f => f
  | s + 1, f => Sg s (Wt s f)
theorem flip_same (j s : Nat) : (j ^^^ 2 ^ s).testBit s = !j.testBit s := by rw [Nat.testBit_xor, Nat.testBit_two_pow]; simp
theorem flip_other (j s r : Nat) (h : s ≠ r) : (j ^^^ 2 ^ s).testBit r = j.testBit r := by rw [Nat.testBit_xor, Nat.testBit_two_pow]; simp [h]
theorem flip_flip (j s : Nat) : j ^^^ 2 ^ s ^^^ 2 ^ s = j := by rw [Nat.xor_assoc, Nat.xor_self, Nat.xor_zero]
theorem flip_comm (j s r : Nat) : j ^^^ 2 ^ s ^^^ 2 ^ r = j ^^^ 2 ^ r ^^^ 2 ^ s := by rw [Nat.xor_assoc, Nat.xor_assoc, Nat.xor_comm (2 ^ s)]
theorem Sg_Sg (s : Nat) (f : Nat → Int) (j : Nat) : Sg s (Sg s f) j = 2 * f j := by
  unfold Sg
  rw [flip_same, flip_flip]
  cases j.testBit s <;> simp <;> omega
theorem Sg_comm (s r : Nat) (h : s ≠ r) (f : Nat → Int) : Sg s (Sg r f) = Sg r (Sg s f) := by
  funext j
  unfold Sg
  rw [flip_other j s r h, flip_other j r s (Ne.symm h), flip_comm j r s]
  cases j.testBit s <;> cases j.testBit r <;> simp <;> omega
theorem Wt_Sg (t s : Nat) (h : t ≤ s) (f : Nat → Int) : Wt t (Sg s f) = Sg s (Wt t f) := by
  induction t with
  | zero => rfl
  | succ t ih => rw [Wt, ih (by omega), Sg_comm t s (by omega), Wt]
theorem Wt_Wt (t : Nat) (f : Nat → Int) (j : Nat) : Wt t (Wt t f) j = 2 ^ t * f j := by
  induction t generalizing f j with
  | zero => simp [Wt]
  | succ t ih =>
    have : Wt (t + 1) (Wt (t + 1) f) = Sg t (Sg t (Wt t (Wt t f))) := by
      show Sg t (Wt t (Sg t (Wt t f))) = _
      rw [Wt_Sg t t (Nat.le_refl _)]
    rw [this, Sg_Sg, ih, Int.pow_succ]
    rw [Int.mul_comm (2 ^ t) 2, Int.mul_assoc]

/-- The sign of two indices. -/
def chi : Nat → Nat → Nat → Int
  | 0, _, _ => 1
  | t + 1, i, j => if i.testBit t && j.testBit t then -chi t i j else chi t i j
theorem chi_xor (t i j k : Nat) : chi t i (j ^^^ k) = chi t i j * chi t i k := by
  induction t with
  | zero => rfl
  | succ t ih =>
    rw [chi, chi, chi, ih, Nat.testBit_xor]
    cases i.testBit t <;> cases j.testBit t <;> cases k.testBit t <;> simp [Int.neg_mul, Int.mul_neg]
theorem chi_top (t s i j : Nat) (h : t ≤ s) : chi t i (2 ^ s ^^^ j) = chi t i j := by
  induction t with
  | zero => rfl
  | succ t ih =>
    rw [chi, chi, ih (by omega), Nat.xor_comm, flip_other j s t (by omega)]
theorem chi_top' (t s i j : Nat) (h : t ≤ s) : chi t (2 ^ s ^^^ i) j = chi t i j := by
  induction t with
  | zero => rfl
  | succ t ih =>
    rw [chi, chi, ih (by omega), Nat.xor_comm, flip_other i s t (by omega)]
theorem bit_below {t i : Nat} (h : i < 2 ^ t) : i.testBit t = false := Nat.testBit_lt_two_pow h
theorem Wt_sum (t : Nat) (f : Nat → Int) (hi lo : Nat) (hl : lo < 2 ^ t) (hh : ∀ s, s < t → hi.testBit s = false) :
    Wt t f (hi ^^^ lo) = SX t (fun j => chi t lo j * f (hi ^^^ j)) := by
  induction t generalizing hi lo with
  | zero => obtain rfl : lo = 0 := by simpa using hl
            simp [Wt, SX, chi]
  | succ t ih =>
    have hb : hi.testBit t = false := hh t (by omega)
    have hh1 : ∀ s, s < t → (hi ^^^ 2 ^ t).testBit s = false := fun s hs => by rw [flip_other _ _ _ (by omega)]; exact hh s (by omega)
    have hh0 : ∀ s, s < t → hi.testBit s = false := fun s hs => hh s (by omega)
    have hp : 2 ^ t < 2 ^ (t + 1) := by rw [Nat.pow_succ]; have := Nat.two_pow_pos t; omega
    rw [Wt, SX]
    rcases lt_or_top hl with c | ⟨y, hy, rfl⟩
    · unfold Sg
      have hbit : (hi ^^^ lo).testBit t = false := by rw [Nat.testBit_xor, hb, bit_below c]; rfl
      rw [hbit, if_neg (by simp), show hi ^^^ lo ^^^ 2 ^ t = (hi ^^^ 2 ^ t) ^^^ lo from by rw [Nat.xor_assoc, Nat.xor_comm lo, ← Nat.xor_assoc], ih hi lo c hh0, ih _ lo c hh1]
      congr 1
      · refine SX_congr fun j hj => ?_
        rw [chi, bit_below c]; simp
      · refine SX_congr fun j hj => ?_
        rw [chi, bit_below c, chi_top t t lo j (Nat.le_refl _), ← Nat.xor_assoc]; simp
    · unfold Sg
      have hbit : (hi ^^^ (2 ^ t ^^^ y)).testBit t = true := by rw [Nat.testBit_xor, hb, xor_top_ne, bit_below hy]; rfl
      have e0 : hi ^^^ (2 ^ t ^^^ y) ^^^ 2 ^ t = hi ^^^ y := by
        rw [Nat.xor_assoc, Nat.xor_comm (2 ^ t ^^^ y), ← Nat.xor_assoc (2 ^ t), Nat.xor_self, Nat.zero_xor]
      have e1 : hi ^^^ (2 ^ t ^^^ y) = (hi ^^^ 2 ^ t) ^^^ y := by rw [Nat.xor_assoc]
      rw [hbit, if_pos rfl, e0, e1, ih hi y hy hh0, ih _ y hy hh1, Int.sub_eq_add_neg, ← SX_neg]
      congr 1
      · refine SX_congr fun j hj => ?_
        rw [chi, bit_below hj, chi_top' t t y j (Nat.le_refl _)]; simp
      · refine SX_congr fun j hj => ?_
        rw [chi, xor_top_ne, xor_top_ne, bit_below hj, bit_below hy, chi_top t t _ j (Nat.le_refl _), chi_top' t t y j (Nat.le_refl _), ← Nat.xor_assoc]
        simp [Int.neg_mul]
theorem Wt_low (t : Nat) (f : Nat → Int) (i : Nat) (h : i < 2 ^ t) : Wt t f i = SX t (fun j => chi t i j * f j) := by
  have := Wt_sum t f 0 i h (fun s _ => by simp)
  simpa using this
def conv (t : Nat) (f g : Nat → Int) (x : Nat) : Int := SX t (fun n => f n * g (x ^^^ n))
theorem Wt_conv (t : Nat) (f g : Nat → Int) (i : Nat) (h : i < 2 ^ t) : Wt t (conv t f g) i = Wt t f i * Wt t g i := by
  rw [Wt_low t _ i h, Wt_low t f i h, Wt_low t g i h]
  have h1 : SX t (fun j => chi t i j * conv t f g j) = SX t (fun n => (chi t i n * f n) * SX t (fun x => chi t i x * g x)) := by
    have e1 : SX t (fun j => chi t i j * conv t f g j) = SX t (fun j => SX t (fun n => chi t i j * (f n * g (j ^^^ n)))) := by
      refine SX_congr fun j _ => ?_
      unfold conv
      rw [SX_mul]
    rw [e1, SX_swap]
    refine SX_congr fun n hn => ?_
    have e2 := SX_shift t (fun x => chi t i (x ^^^ n) * (f n * g x)) n hn
    simp only [Nat.xor_assoc, Nat.xor_self, Nat.xor_zero] at e2
    rw [e2, ← SX_mul]
    refine SX_congr fun x _ => ?_
    rw [chi_xor]
    simp only [Int.mul_assoc, Int.mul_comm, Int.mul_left_comm]
  rw [h1]
  have e3 : ∀ c : Int, SX t (fun n => (chi t i n * f n) * c) = SX t (fun n => chi t i n * f n) * c := by
    intro c
    rw [Int.mul_comm, ← SX_mul]
    exact SX_congr fun n _ => Int.mul_comm _ _
  rw [e3]

/-! The lists of the code, modulo 65535. -/
def Rp (l : List Nat) (f : Nat → Int) : Prop := ∀ j, j < l.length → ((gn l j : Int) - f j) % 65535 = 0
theorem Rp.self (l : List Nat) : Rp l (fun j => (gn l j : Int)) := fun j _ => by simp
theorem flip_low {j s : Nat} (h : j / 2 ^ s % 2 = 0) : j ^^^ 2 ^ s = j + 2 ^ s ∧ j.testBit s = false := by
  have hb : j.testBit s = false := by rw [Nat.testBit_eq_decide_div_mod_eq]; simp; omega
  refine ⟨?_, hb⟩
  have hp := Nat.two_pow_pos s
  have hr := Nat.mod_lt j hp
  have e : j = 2 ^ s * (j / 2 ^ s) + j % 2 ^ s := (Nat.div_add_mod j (2 ^ s)).symm
  generalize j / 2 ^ s = q at *
  generalize j % 2 ^ s = r at *
  subst e
  rw [show 2 ^ s * q + r + 2 ^ s = 2 ^ s * (q + 1) + r from by rw [Nat.mul_add]; omega]
  apply Nat.eq_of_testBit_eq
  intro i
  rw [Nat.testBit_xor, Nat.testBit_two_pow_mul_add _ hr, Nat.testBit_two_pow_mul_add _ hr, Nat.testBit_two_pow]
  by_cases hi : i < s
  · rw [if_pos hi, if_pos hi]; simp [show s ≠ i by omega]
  · rw [if_neg hi, if_neg hi]
    by_cases e : s = i
    · subst e
      simp only [Nat.sub_self, Nat.testBit_zero]
      have : (q + 1) % 2 = 1 := by omega
      simp [h, this]
    · obtain ⟨m, hm⟩ : ∃ m, i - s = m + 1 := ⟨i - s - 1, by omega⟩
      rw [hm, Nat.testBit_succ, Nat.testBit_succ, show (q + 1) / 2 = q / 2 from by omega]
      simp [e]
theorem flip_high {j s : Nat} (h : j / 2 ^ s % 2 = 1) : j ^^^ 2 ^ s = j - 2 ^ s ∧ j.testBit s = true ∧ 2 ^ s ≤ j := by
  have hb : j.testBit s = true := by rw [Nat.testBit_eq_decide_div_mod_eq]; simp; omega
  have hp := Nat.two_pow_pos s
  have hle : 2 ^ s ≤ j := by
    rcases Nat.lt_or_ge j (2 ^ s) with c | c
    · rw [Nat.div_eq_of_lt c] at h; omega
    · exact c
  refine ⟨?_, hb, hle⟩
  have h2 : (j - 2 ^ s) / 2 ^ s = j / 2 ^ s - 1 := by
    have := Nat.sub_mul_div j (2 ^ s) 1
    rwa [Nat.mul_one] at this
  have := (flip_low (j := j - 2 ^ s) (s := s) (by rw [h2]; omega)).1
  rw [show j - 2 ^ s + 2 ^ s = j from by omega] at this
  have h3 := flip_flip (j - 2 ^ s) s
  rw [this] at h3
  exact h3
theorem Rp.stage {l : List Nat} {f : Nat → Int} {s t : Nat} (h : Rp l f) (hl : l.length = 2 ^ t) (hs : s < t) (hb : ∀ j, gn l j < 65536) : Rp (stage (2 ^ s) l) (Sg s f) := by
  intro j hj
  rw [stage_length] at hj
  rw [gn_stage _ _ _ hj]
  unfold stg Sg
  have hp2 : (2 : Nat) ^ s < 2 ^ t := Nat.pow_lt_pow_right (by omega) hs
  have hbj := hb j
  by_cases c : j / 2 ^ s % 2 = 0
  · obtain ⟨e1, e2⟩ := flip_low c
    have hlt : j + 2 ^ s < l.length := by rw [← e1, hl]; exact Nat.xor_lt_two_pow (by rw [← hl]; exact hj) hp2
    rw [if_pos c, e2, if_neg (by simp), e1]
    have h1 := h j hj
    have h2 := h _ hlt
    omega
  · obtain ⟨e1, e2, e3⟩ := flip_high (j := j) (s := s) (by omega)
    have hlt : j - 2 ^ s < l.length := by have := Nat.two_pow_pos s; omega
    rw [if_neg c, e2, if_pos rfl, e1]
    have h1 := h j hj
    have h2 := h _ hlt
    have hb2 := hb (j - 2 ^ s)
    omega
theorem Rp.stages {l : List Nat} {f : Nat → Int} {t : Nat} (h : Rp l f) (hl : l.length = 2 ^ t) (hb : ∀ j, gn l j < 65536) : ∀ s, s ≤ t → Rp (stages s l) (Wt s f) := by
  intro s
  induction s with
  | zero => exact fun _ => h
  | succ s ih => exact fun hs => (ih (by omega)).stage (t := t) (by rw [stages_length, hl]) (by omega) (stages_small s l hb)
theorem mul_cong {a b x y : Int} (h : (a - x) % 65535 = 0) (k : (b - y) % 65535 = 0) : (a * b - x * y) % 65535 = 0 := by
  have e : a * b - x * y = a * (b - y) + (a - x) * y := by
    rw [Int.mul_sub, Int.sub_mul]; omega
  have h1 : (65535 : Int) ∣ a * (b - y) := Int.dvd_mul_of_dvd_right (Int.dvd_of_emod_eq_zero k)
  have h2 : (65535 : Int) ∣ (a - x) * y := Int.dvd_mul_of_dvd_left (Int.dvd_of_emod_eq_zero h)
  rw [e]
  exact Int.emod_eq_zero_of_dvd (Int.dvd_add h1 h2)
theorem mod_cong {a x : Int} (m : Nat) (hm : (m : Int) = a) (h : (a - x) % 65535 = 0) : (((m % 65535 : Nat) : Int) - x) % 65535 = 0 := by subst hm; omega
theorem Rp.prods {a b : List Nat} {f g : Nat → Int} (ha : Rp a f) (hb : Rp b g) (hl : a.length = b.length) : Rp (prods a b) (fun j => f j * g j) := by
  intro j hj
  rw [prods_length] at hj
  rw [gn_prods _ _ _ hj]
  refine mod_cong (a := (gn a j : Int) * (gn b j : Int)) _ (by simp) ?_
  exact mul_cong (ha j hj) (hb j (by omega))
theorem two16 (t : Nat) (ht : t ≤ 16) : (2 : Int) ^ (16 - t) * 2 ^ t = 65536 := by
  rw [← Int.pow_add, show 16 - t + t = 16 from by omega]; rfl
theorem Rp.backed {l : List Nat} {f : Nat → Int} {t : Nat} (h : Rp l f) (hl : l.length = 2 ^ t) (hb : ∀ j, gn l j < 65536) : Rp (backed t l) (fun j => Wt t f j * 2 ^ (16 - t)) := by
  intro j hj
  rw [backed_length] at hj
  unfold Go.Proofs.Ytpnmmedjamkmeaa.backed
  rw [gn_map _ _ _ (by rw [stages_length]; exact hj)]
  refine mod_cong (a := (gn (Go.Proofs.Ytpnmmedjamkmeaa.stages t l) j : Int) * (sc t : Int)) _ (by simp) ?_
  refine mul_cong (h.stages hl hb t (Nat.le_refl _) j (by rw [stages_length]; exact hj)) ?_
  unfold sc
  have : (((2 ^ (16 - t) : Nat) : Int)) = (2 : Int) ^ (16 - t) := by simp
  rw [← this]
  omega
theorem convd_value {t : Nat} {a b : List Nat} (ht : t ≤ 16) (ha : a.length = 2 ^ t) (hb : b.length = 2 ^ t) (sa : ∀ j, gn a j < 65536) (sb : ∀ j, gn b j < 65536) (i : Nat) (hi : i < 2 ^ t) :
    ((gn (convd t a b) i : Int) - conv t (fun j => (gn a j : Int)) (fun j => (gn b j : Int)) i) % 65535 = 0 := by
  have r1 := (Rp.self a).stages ha sa t (Nat.le_refl _)
  have r2 := (Rp.self b).stages hb sb t (Nat.le_refl _)
  have r3 := r1.prods r2 (by rw [stages_length, stages_length, ha, hb])
  -- place by place the products are the transform of the convolution
  have r4 : Rp (prods (stages t a) (stages t b)) (Wt t (conv t (fun j => (gn a j : Int)) (fun j => (gn b j : Int)))) := by
    intro j hj
    have := r3 j hj
    rw [prods_length, stages_length, ha] at hj
    rw [Wt_conv t _ _ j hj]
    exact this
  have r5 := r4.backed (t := t) (by rw [prods_length, stages_length, ha]) (prods_small _ _) i (by rw [backed_length, prods_length, stages_length, ha]; exact hi)
  simp only [Wt_Wt] at r5
  generalize conv t (fun j => (gn a j : Int)) (fun j => (gn b j : Int)) i = c at *
  have e : (2 : Int) ^ t * c * 2 ^ (16 - t) = 65536 * c := by
    rw [Int.mul_comm, ← Int.mul_assoc, two16 t ht]
  rw [e] at r5
  unfold convd
  omega
end Go.Proofs.Ytpnmmedjamkmeaa
