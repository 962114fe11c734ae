/- The field of 65536 elements as a type of its own; sums. -/
import Derived.Laws.BitsAllLaws
import Derived.Test.YtpnmmedjamkmeaaGreatGivesG4
import Derived.Test.YtpnmmedjamkmeaaGreatGivesG6
set_option linter.unusedVariables false
set_option linter.unusedSimpArgs false
namespace Go.Proofs.YtpnmmedjamkmeaaGreat

/-- The field's elements. -/
def GF : Type := { n : Nat // n < 65536 }
namespace GF
def v (a : GF) : Nat := a.1
theorem v_lt (a : GF) : a.v < 65536 := a.2
theorem ext {a b : GF} (h : a.v = b.v) : a = b := Subtype.ext h
instance : _root_.Add GF := ⟨fun a b => ⟨a.1 ^^^ b.1, xor_lt16 a.2 b.2⟩⟩
instance : Mul GF := ⟨fun a b => ⟨gmul a.1 b.1, gmul_lt a.2 b.1⟩⟩
instance : Zero GF := ⟨⟨0, by omega⟩⟩
instance : One GF := ⟨⟨1, by omega⟩⟩
/-- The inverse. -/
def inv (a : GF) : GF := ⟨ginv a.1, ginv_lt _⟩
theorem v_add (a b : GF) : (a + b).v = a.v ^^^ b.v := rfl
theorem v_mul (a b : GF) : (a * b).v = gmul a.v b.v := rfl
theorem v_zero : (0 : GF).v = 0 := rfl
theorem v_one : (1 : GF).v = 1 := rfl
theorem v_inv (a : GF) : a.inv.v = ginv a.v := rfl
theorem add_comm (a b : GF) : a + b = b + a := ext (Nat.xor_comm _ _)
theorem add_assoc (a b c : GF) : a + b + c = a + (b + c) := ext (Nat.xor_assoc _ _ _)
theorem zero_add (a : GF) : 0 + a = a := ext (Nat.zero_xor _)
theorem add_zero (a : GF) : a + 0 = a := ext (Nat.xor_zero _)
theorem add_self (a : GF) : a + a = 0 := ext (Nat.xor_self _)
theorem add_self' (a b : GF) : a + (a + b) = b := by rw [← add_assoc, add_self, zero_add]
theorem mul_comm (a b : GF) : a * b = b * a := ext (gmul_comm a.2 b.2)
theorem mul_assoc (a b c : GF) : a * b * c = a * (b * c) := ext (gmul_assoc a.2 b.2 c.2)
theorem zero_mul (a : GF) : 0 * a = 0 := ext (zero_gmul _)
theorem mul_zero (a : GF) : a * 0 = 0 := ext (gmul_zero _)
theorem one_mul (a : GF) : 1 * a = a := ext (one_gmul a.2)
theorem mul_one (a : GF) : a * 1 = a := ext (gmul_one _)
theorem mul_add (a b c : GF) : a * (b + c) = a * b + a * c := ext ((add_right a.1).2 _ _ b.2 c.2)
theorem add_mul (a b c : GF) : (a + b) * c = a * c + b * c := ext ((add_left c.1).2 _ _ a.2 b.2)
instance : Std.Associative (α := GF) (· + ·) := ⟨add_assoc⟩
instance : Std.Commutative (α := GF) (· + ·) := ⟨add_comm⟩
instance : Std.Associative (α := GF) (· * ·) := ⟨mul_assoc⟩
instance : Std.Commutative (α := GF) (· * ·) := ⟨mul_comm⟩
theorem mul_left_comm (a b c : GF) : a * (b * c) = b * (a * c) := by rw [← mul_assoc, mul_comm a, mul_assoc]
theorem add_left_comm (a b c : GF) : a + (b + c) = b + (a + c) := by rw [← add_assoc, add_comm a, add_assoc]
theorem v_ne {a : GF} (h : a ≠ 0) : a.v ≠ 0 := fun e => h (ext e)
theorem mul_inv {a : GF} (h : a ≠ 0) : a * a.inv = 1 := ext (gmul_inv a.2 (v_ne h))
theorem inv_mul {a : GF} (h : a ≠ 0) : a.inv * a = 1 := by rw [mul_comm, mul_inv h]
theorem mul_eq_zero {a b : GF} (h : a * b = 0) : a = 0 ∨ b = 0 := by
  rcases gmul_eq_zero a.2 b.2 (congrArg v h) with h | h
  · exact .inl (ext h)
  · exact .inr (ext h)
theorem mul_ne_zero {a b : GF} (ha : a ≠ 0) (hb : b ≠ 0) : a * b ≠ 0 := fun h => (mul_eq_zero h).elim ha hb
theorem add_eq_zero {a b : GF} (h : a + b = 0) : a = b := by
  have : a + b + b = b := by rw [h, zero_add]
  rwa [add_assoc, add_self, add_zero] at this
theorem add_ne_zero {a b : GF} (h : a ≠ b) : a + b ≠ 0 := fun e => h (add_eq_zero e)
theorem mul_cancel {a b c : GF} (ha : a ≠ 0) (h : a * b = a * c) : b = c := by
  have : a.inv * (a * b) = a.inv * (a * c) := by rw [h]
  rwa [← mul_assoc, ← mul_assoc, inv_mul ha, one_mul, one_mul] at this
theorem inv_ne_zero {a : GF} (h : a ≠ 0) : a.inv ≠ 0 := fun e => by
  have := mul_inv h
  rw [e, mul_zero] at this
  exact absurd (congrArg v this) (by decide)
theorem add_right_cancel {a b c : GF} (h : a + c = b + c) : a = b := by
  have : a + c + c = b + c + c := by rw [h]
  rwa [add_assoc, add_assoc, add_self, add_zero, add_zero] at this
end GF
/-- The element of a number. -/
def GF.mk (n : Nat) (h : n < 65536) : GF := ⟨n, h⟩
def gf (n : Nat) : GF := if h : n < 65536 then GF.mk n h else 0
theorem gf_v {n : Nat} (h : n < 65536) : (gf n).v = n := by unfold gf; rw [dif_pos h]; rfl
theorem v_gf (a : GF) : gf a.v = a := GF.ext (gf_v a.v_lt)
theorem gf_xor {a b : Nat} (ha : a < 65536) (hb : b < 65536) : gf (a ^^^ b) = gf a + gf b := by
  apply GF.ext; rw [GF.v_add, gf_v ha, gf_v hb, gf_v (xor_lt16 ha hb)]
theorem gf_mul {a b : Nat} (ha : a < 65536) (hb : b < 65536) : gf (gmul a b) = gf a * gf b := by
  apply GF.ext; rw [GF.v_mul, gf_v ha, gf_v hb, gf_v (gmul_lt ha _)]
theorem gf_zero : gf 0 = 0 := rfl
theorem gf_inj {a b : Nat} (ha : a < 65536) (hb : b < 65536) (h : gf a = gf b) : a = b := by
  have := congrArg GF.v h
  rwa [gf_v ha, gf_v hb] at this

/-- The element of index i. -/
def gw (i : Nat) : GF := ⟨el i, el_lt i⟩
theorem gw_v (i : Nat) : (gw i).v = el i := rfl
theorem gf_el (i : Nat) : gf (el i) = gw i := GF.ext (gf_v (el_lt i))
theorem gw_xor (i j : Nat) : gw (i ^^^ j) = gw i + gw j := GF.ext (el_xor i j)
theorem gw_zero : gw 0 = 0 := GF.ext el_zero
theorem gw_one : gw 1 = 1 := GF.ext (by decide)
theorem gw_inj {i j : Nat} (hi : i < 65536) (hj : j < 65536) (h : gw i = gw j) : i = j := el_inj hi hj (congrArg GF.v h)
theorem gw_ne {i j : Nat} (hi : i < 65536) (hj : j < 65536) (h : i ≠ j) : gw i + gw j ≠ 0 := GF.add_ne_zero fun e => h (gw_inj hi hj e)
theorem half_xor (a b : Nat) : (a ^^^ b) / 2 = a / 2 ^^^ b / 2 := by
  apply Nat.eq_of_testBit_eq
  intro i
  rw [← Nat.testBit_succ, Nat.testBit_xor, Nat.testBit_xor, Nat.testBit_succ, Nat.testBit_succ]
theorem add_half : Add (fun i => el (i / 2)) := ⟨by decide, fun a b _ _ => by show el ((a ^^^ b) / 2) = _; rw [half_xor, el_xor]⟩
theorem add_sq : Add (fun i => gmul (el i) (el i) ^^^ el i) := by
  refine ⟨by decide, fun a b _ _ => ?_⟩
  show gmul (el (a ^^^ b)) (el (a ^^^ b)) ^^^ el (a ^^^ b) = _
  rw [el_xor, (add_right _).2 _ _ (el_lt a) (el_lt b), (add_left (el a)).2 _ _ (el_lt a) (el_lt b), (add_left (el b)).2 _ _ (el_lt a) (el_lt b),
    gmul_comm (el_lt b) (el_lt a)]
  generalize gmul (el a) (el a) = x
  generalize gmul (el a) (el b) = y
  generalize gmul (el b) (el b) = z
  have : x ^^^ y ^^^ (y ^^^ z) = x ^^^ z := by rw [Nat.xor_assoc, ← Nat.xor_assoc y, Nat.xor_self, Nat.zero_xor]
  rw [this, xor4]
/-- The Cantor basis: the element of half the index. -/
theorem el_half {i : Nat} (h : i < 65536) : el (i / 2) = gmul (el i) (el i) ^^^ el i :=
  Add.eq add_half add_sq (by decide +kernel) i h
theorem gw_half {i : Nat} (h : i < 65536) : gw (i / 2) = gw i * gw i + gw i := GF.ext (el_half h)

/-- The sum of f over the numbers below n. -/
def sm : Nat → (Nat → GF) → GF
  | 0, _ => 0
  | n + 1, f => sm n f + f n
theorem sm_congr {n : Nat} {f g : Nat → GF} (h : ∀ i, i < n → f i = g i) : sm n f = sm n g := by
  induction n with
  | zero => rfl
  | succ n ih => rw [sm, sm, ih (fun i hi => h i (by omega)), h n (by omega)]
theorem sm_add (n : Nat) (f g : Nat → GF) : sm n (fun i => f i + g i) = sm n f + sm n g := by
  induction n with
  | zero => exact (GF.zero_add 0).symm
  | succ n ih => rw [sm, sm, sm, ih]; ac_rfl
theorem sm_mul (n : Nat) (c : GF) (f : Nat → GF) : sm n (fun i => c * f i) = c * sm n f := by
  induction n with
  | zero => exact (GF.mul_zero c).symm
  | succ n ih => rw [sm, sm, ih, GF.mul_add]
theorem sm_mul' (n : Nat) (c : GF) (f : Nat → GF) : sm n (fun i => f i * c) = sm n f * c := by
  rw [GF.mul_comm, ← sm_mul]; exact sm_congr fun i _ => GF.mul_comm _ _
theorem sm_zero (n : Nat) : sm n (fun _ => 0) = 0 := by
  induction n with
  | zero => rfl
  | succ n ih => rw [sm, ih, GF.zero_add]
theorem sm_zero' {n : Nat} {f : Nat → GF} (h : ∀ i, i < n → f i = 0) : sm n f = 0 := (sm_congr h).trans (sm_zero n)
theorem sm_split (m n : Nat) (f : Nat → GF) : sm (m + n) f = sm m f + sm n (fun i => f (m + i)) := by
  induction n with
  | zero => exact (GF.add_zero _).symm
  | succ n ih => rw [show m + (n + 1) = (m + n) + 1 from rfl, sm, ih, sm, GF.add_assoc]
theorem sm_comm (m n : Nat) (f : Nat → Nat → GF) : sm m (fun i => sm n (f i)) = sm n (fun j => sm m (fun i => f i j)) := by
  induction m with
  | zero => exact (sm_zero n).symm
  | succ m ih => rw [sm, ih, ← sm_add]; rfl
theorem sm_one (n : Nat) (f : Nat → GF) (i : Nat) (hi : i < n) (h : ∀ j, j < n → j ≠ i → f j = 0) : sm n f = f i := by
  induction n with
  | zero => omega
  | succ n ih =>
    rw [sm]
    by_cases e : i = n
    · subst e; rw [sm_zero' (fun j hj => h j (by omega) (by omega)), GF.zero_add]
    · rw [ih (by omega) (fun j hj hne => h j (by omega) hne), h n (by omega) (fun e2 => e e2.symm), GF.add_zero]
theorem sm_more {m n : Nat} (h : m ≤ n) {f : Nat → GF} (h0 : ∀ i, m ≤ i → i < n → f i = 0) : sm n f = sm m f := by
  obtain ⟨d, rfl⟩ : ∃ d, n = m + d := ⟨n - m, by omega⟩
  rw [sm_split, sm_zero' (f := fun i => f (m + i)) (fun i hi => h0 _ (by omega) (by omega)), GF.add_zero]
theorem sm_blocks (b n : Nat) (f : Nat → GF) : sm (b * n) f = sm b (fun q => sm n (fun i => f (q * n + i))) := by
  induction b with
  | zero => rw [Nat.zero_mul]; rfl
  | succ b ih => rw [Nat.add_mul, Nat.one_mul, sm_split, ih, sm]
end Go.Proofs.YtpnmmedjamkmeaaGreat

/- The additive transform: stage by stage; from the values on one coset the values on another. -/
set_option linter.unusedVariables false
set_option linter.unusedSimpArgs false
namespace Go.Proofs.YtpnmmedjamkmeaaGreat

/-- A stage forward, at level T, of places that begin with the element of index s. -/
def FS (s T : Nat) (f : Nat → GF) (j : Nat) : GF :=
  if j.testBit T then f j + (f (j - 2 ^ T) + gw ((s + (j - 2 ^ T)) / 2 ^ T) * f j) else f j + gw ((s + j) / 2 ^ T) * f (j + 2 ^ T)
/-- A stage back. -/
def IS (s T : Nat) (f : Nat → GF) (j : Nat) : GF :=
  if j.testBit T then f j + f (j - 2 ^ T) else f j + gw ((s + j) / 2 ^ T) * (f (j + 2 ^ T) + f j)
/-- The lowest t levels back, from the lowest up. -/
def IT (s : Nat) : Nat → (Nat → GF) → Nat → GF
  | 0, f => f
  | t + 1, f => IS s t (IT s t f)
/-- The lowest t levels forward, from the highest down. -/
def FT (s : Nat) : Nat → (Nat → GF) → Nat → GF
  | 0, f => f
  | t + 1, f => FT s t (FS s t f)

theorem bit_ge {j T : Nat} (h : j.testBit T = true) : 2 ^ T ≤ j := Nat.ge_two_pow_of_testBit h
theorem bit_lo {j t : Nat} (h : j < 2 ^ t) : j.testBit t = false := Nat.testBit_lt_two_pow h
theorem bit_hi {j t : Nat} (h : j < 2 ^ t) : (2 ^ t + j).testBit t = true := by
  rw [Nat.testBit_two_pow_add_eq, bit_lo h]; rfl
theorem bit_up {j t T : Nat} (h : T < t) : (2 ^ t + j).testBit T = j.testBit T := by
  rw [Nat.testBit_two_pow_add_gt h]
theorem pow_lt {T t : Nat} (h : T < t) : 2 ^ T < 2 ^ t := Nat.pow_lt_pow_right (by omega) h
/-- With bit T clear, a place below 2^t has its partner below 2^t. -/
theorem add_bit_lt {j T t : Nat} (hT : T < t) (hj : j < 2 ^ t) (h : j.testBit T = false) : j + 2 ^ T < 2 ^ t := by
  have hp := Nat.two_pow_pos T
  rw [Nat.testBit_eq_decide_div_mod_eq] at h
  have h2 : j / 2 ^ T % 2 = 0 := by simpa using h
  have e : 2 ^ t = 2 ^ T * (2 * 2 ^ (t - T - 1)) := by rw [← Nat.pow_succ', ← Nat.pow_add]; congr 1; omega
  rw [e] at hj ⊢
  have hq : j / 2 ^ T < 2 * 2 ^ (t - T - 1) := by rw [Nat.div_lt_iff_lt_mul hp, Nat.mul_comm]; exact hj
  have hr := Nat.mod_lt j hp
  have hj2 := Nat.div_add_mod j (2 ^ T)
  generalize j / 2 ^ T = q at *
  generalize 2 ^ (t - T - 1) = m at *
  have : q + 2 ≤ 2 * m := by omega
  have h3 : 2 ^ T * (q + 2) ≤ 2 ^ T * (2 * m) := Nat.mul_le_mul_left _ this
  rw [Nat.mul_add] at h3
  omega

theorem FS_congr {s T t : Nat} (hT : T < t) {f g : Nat → GF} (h : ∀ i, i < 2 ^ t → f i = g i) (j : Nat) (hj : j < 2 ^ t) : FS s T f j = FS s T g j := by
  unfold FS
  by_cases hb : j.testBit T = true
  · rw [if_pos hb, if_pos hb, h j hj, h (j - 2 ^ T) (Nat.lt_of_le_of_lt (Nat.sub_le _ _) hj)]
  · rw [if_neg hb, if_neg hb, h j hj, h (j + 2 ^ T) (add_bit_lt hT hj (by simpa using hb))]
theorem IS_congr {s T t : Nat} (hT : T < t) {f g : Nat → GF} (h : ∀ i, i < 2 ^ t → f i = g i) (j : Nat) (hj : j < 2 ^ t) : IS s T f j = IS s T g j := by
  unfold IS
  by_cases hb : j.testBit T = true
  · rw [if_pos hb, if_pos hb, h j hj, h (j - 2 ^ T) (Nat.lt_of_le_of_lt (Nat.sub_le _ _) hj)]
  · rw [if_neg hb, if_neg hb, h j hj, h (j + 2 ^ T) (add_bit_lt hT hj (by simpa using hb))]
theorem FT_congr {s t u : Nat} (hu : u ≤ t) {f g : Nat → GF} (h : ∀ i, i < 2 ^ t → f i = g i) : ∀ j, j < 2 ^ t → FT s u f j = FT s u g j := by
  induction u generalizing f g with
  | zero => exact h
  | succ u ih => exact ih (by omega) fun i hi => FS_congr (by omega) h i hi
theorem IT_congr {s t u : Nat} (hu : u ≤ t) {f g : Nat → GF} (h : ∀ i, i < 2 ^ t → f i = g i) : ∀ j, j < 2 ^ t → IT s u f j = IT s u g j := by
  induction u with
  | zero => exact h
  | succ u ih => exact fun j hj => IS_congr (by omega) (ih (by omega)) j hj
theorem FS_up {s T t : Nat} (hT : T < t) (f : Nat → GF) (j : Nat) : FS s T f (2 ^ t + j) = FS (s + 2 ^ t) T (fun i => f (2 ^ t + i)) j := by
  unfold FS
  rw [bit_up hT]
  by_cases hb : j.testBit T = true
  · have := bit_ge hb
    rw [if_pos hb, if_pos hb, show 2 ^ t + j - 2 ^ T = 2 ^ t + (j - 2 ^ T) from Nat.add_sub_assoc this _, show s + (2 ^ t + (j - 2 ^ T)) = s + 2 ^ t + (j - 2 ^ T) from (Nat.add_assoc _ _ _).symm]
  · rw [if_neg hb, if_neg hb, show 2 ^ t + j + 2 ^ T = 2 ^ t + (j + 2 ^ T) from by omega, show s + (2 ^ t + j) = s + 2 ^ t + j from by omega]
theorem IS_up {s T t : Nat} (hT : T < t) (f : Nat → GF) (j : Nat) : IS s T f (2 ^ t + j) = IS (s + 2 ^ t) T (fun i => f (2 ^ t + i)) j := by
  unfold IS
  rw [bit_up hT]
  by_cases hb : j.testBit T = true
  · have := bit_ge hb
    rw [if_pos hb, if_pos hb, show 2 ^ t + j - 2 ^ T = 2 ^ t + (j - 2 ^ T) from Nat.add_sub_assoc this _]
  · rw [if_neg hb, if_neg hb, show 2 ^ t + j + 2 ^ T = 2 ^ t + (j + 2 ^ T) from by omega, show s + (2 ^ t + j) = s + 2 ^ t + j from by omega]
theorem FT_up {s t u : Nat} (hu : u ≤ t) (f : Nat → GF) (j : Nat) : FT s u f (2 ^ t + j) = FT (s + 2 ^ t) u (fun i => f (2 ^ t + i)) j := by
  induction u generalizing f with
  | zero => rfl
  | succ u ih =>
    rw [FT, FT, ih (by omega)]
    congr 1
    funext i
    exact FS_up (by omega) f i
theorem IT_up {s t u : Nat} (hu : u ≤ t) (f : Nat → GF) (j : Nat) : IT s u f (2 ^ t + j) = IT (s + 2 ^ t) u (fun i => f (2 ^ t + i)) j := by
  induction u generalizing j with
  | zero => rfl
  | succ u ih =>
    rw [IT, IT, IS_up (by omega)]
    congr 1
    funext i
    exact ih (by omega) i
theorem FS_lin (s T : Nat) (a b : GF) (f g : Nat → GF) (j : Nat) : FS s T (fun i => a * f i + b * g i) j = a * FS s T f j + b * FS s T g j := by
  unfold FS
  split
  · simp only [GF.mul_add]; ac_rfl
  · simp only [GF.mul_add]; ac_rfl
theorem FT_lin (s t : Nat) (a b : GF) (f g : Nat → GF) (j : Nat) : FT s t (fun i => a * f i + b * g i) j = a * FT s t f j + b * FT s t g j := by
  induction t generalizing f g with
  | zero => rfl
  | succ t ih =>
    rw [FT, FT, FT, ← ih]
    congr 1
    funext i
    exact FS_lin s t a b f g i
theorem FT_add (s t : Nat) (f g : Nat → GF) (j : Nat) : FT s t (fun i => f i + g i) j = FT s t f j + FT s t g j := by
  have := FT_lin s t 1 1 f g j
  simpa only [GF.one_mul] using this
theorem FT_zero (s t : Nat) (j : Nat) : FT s t (fun _ => 0) j = 0 := by
  have := FT_lin s t 0 0 (fun _ => 0) (fun _ => 0) j
  simpa only [GF.zero_mul, GF.add_zero] using this
theorem FT_sm (s t n : Nat) (f : Nat → Nat → GF) (j : Nat) : FT s t (fun i => sm n (fun q => f q i)) j = sm n (fun q => FT s t (f q) j) := by
  induction n with
  | zero => exact FT_zero s t j
  | succ n ih => rw [sm, ← ih, ← FT_add]; rfl

/-- The kernel: what the value at place i of the coset a is worth at place j of the coset b. -/
def kr (t a b j i : Nat) : GF := (gw (a / 2 ^ t) + gw (b / 2 ^ t)) * (gw (a + i) + gw (b + j)).inv
theorem div_low {a t i : Nat} (ha : a % 2 ^ t = 0) (hi : i < 2 ^ t) : (a + i) / 2 ^ t = a / 2 ^ t := by
  have hp := Nat.two_pow_pos t
  have e := Nat.div_add_mod a (2 ^ t)
  rw [ha, Nat.add_zero] at e
  rw [← e, Nat.mul_add_div hp, Nat.div_eq_of_lt hi, Nat.mul_div_cancel_left _ hp, Nat.add_zero]
theorem mod_low {a t : Nat} (ha : a % 2 ^ (t + 1) = 0) : a % 2 ^ t = 0 ∧ (a + 2 ^ t) % 2 ^ t = 0 := by
  have : a % 2 ^ t = 0 := by
    have h := Nat.mod_mul_right_mod a (2 ^ t) 2
    rw [← Nat.pow_succ, ha] at h
    simpa using h.symm
  exact ⟨this, by rw [Nat.add_mod_right]; exact this⟩
theorem div_half (a t : Nat) : a / 2 ^ (t + 1) = a / 2 ^ t / 2 := by rw [Nat.pow_succ, Nat.div_div_eq_div_mul]
theorem div_even {a t : Nat} (ha : a % 2 ^ (t + 1) = 0) : a / 2 ^ t % 2 = 0 := by
  have hp := Nat.two_pow_pos t
  have e := Nat.div_add_mod a (2 ^ (t + 1))
  rw [ha, Nat.add_zero, Nat.pow_succ, Nat.mul_assoc] at e
  rw [← e, Nat.mul_div_cancel_left _ hp]
  omega
theorem gw_next {q : Nat} (h : q % 2 = 0) : gw (q + 1) = gw q + 1 := by
  have : q + 1 = q ^^^ 1 := by
    have h2 := (Nat.two_pow_add_eq_or_of_lt (i := 1) (b := 1) (by omega) (q / 2))
    rw [Nat.pow_one, show 2 * (q / 2) = q from by omega] at h2
    rw [h2]
    apply Nat.eq_of_testBit_eq
    intro i
    rw [Nat.testBit_or, Nat.testBit_xor]
    cases i with
    | zero =>
      have : q.testBit 0 = false := by rw [Nat.testBit_zero]; simp [h]
      rw [this]; rfl
    | succ i =>
      have : (1 : Nat).testBit (i + 1) = false := by rw [Nat.testBit_succ]; simp
      rw [this, Bool.or_false, Bool.xor_false]
  rw [this, gw_xor, gw_one]
theorem gw_upper {a t : Nat} (ha : a % 2 ^ (t + 1) = 0) : gw ((a + 2 ^ t) / 2 ^ t) = gw (a / 2 ^ t) + 1 := by
  rw [Nat.add_div_right _ (Nat.two_pow_pos t)]
  exact gw_next (div_even ha)
/-- The doubling of the mixing factor. -/
theorem mix {x y : Nat} (hx : x < 65536) (hy : y < 65536) : gw (x / 2) + gw (y / 2) = (1 + (gw x + gw y)) * (gw x + gw y) := by
  rw [gw_half hx, gw_half hy]
  generalize gw x = a
  generalize gw y = b
  have e : (1 + (a + b)) * (a + b) = (a * a + a) + (b * b + b) + (a * b + a * b) := by
    simp only [GF.mul_add, GF.add_mul, GF.one_mul]
    rw [GF.mul_comm b a]; ac_rfl
  rw [e, GF.add_self, GF.add_zero]

theorem IS_lo {s t i : Nat} (hs : s % 2 ^ t = 0) (hi : i < 2 ^ t) (G : Nat → GF) : IS s t G i = G i + gw (s / 2 ^ t) * (G (2 ^ t + i) + G i) := by
  unfold IS; rw [bit_lo hi, if_neg (by simp), div_low hs hi, Nat.add_comm i]
theorem IS_hi {s t i : Nat} (hi : i < 2 ^ t) (G : Nat → GF) : IS s t G (2 ^ t + i) = G (2 ^ t + i) + G i := by
  unfold IS; rw [bit_hi hi, if_pos rfl, Nat.add_sub_cancel_left]
theorem FS_lo {s t i : Nat} (hs : s % 2 ^ t = 0) (hi : i < 2 ^ t) (G : Nat → GF) : FS s t G i = G i + gw (s / 2 ^ t) * G (2 ^ t + i) := by
  unfold FS; rw [bit_lo hi, if_neg (by simp), div_low hs hi, Nat.add_comm i]
theorem FS_hi {s t i : Nat} (hs : s % 2 ^ t = 0) (hi : i < 2 ^ t) (G : Nat → GF) : FS s t G (2 ^ t + i) = G (2 ^ t + i) + (G i + gw (s / 2 ^ t) * G (2 ^ t + i)) := by
  unfold FS; rw [bit_hi hi, if_pos rfl, Nat.add_sub_cancel_left, div_low hs hi]
/-- Back on one coset and forward on the other, at the highest level: a mixing of the halves. -/
theorem mix_lo {a b t i : Nat} (ha : a % 2 ^ t = 0) (hb : b % 2 ^ t = 0) (hi : i < 2 ^ t) (G : Nat → GF) :
    FS b t (IS a t G) i = (1 + (gw (a / 2 ^ t) + gw (b / 2 ^ t))) * G i + (gw (a / 2 ^ t) + gw (b / 2 ^ t)) * G (2 ^ t + i) := by
  rw [FS_lo hb hi, IS_lo ha hi, IS_hi hi]
  simp only [GF.mul_add, GF.add_mul, GF.one_mul]; ac_rfl
theorem mix_hi {a b t i : Nat} (ha : a % 2 ^ t = 0) (hb : b % 2 ^ t = 0) (hi : i < 2 ^ t) (G : Nat → GF) :
    FS b t (IS a t G) (2 ^ t + i) = (gw (a / 2 ^ t) + gw (b / 2 ^ t)) * G i + (1 + (gw (a / 2 ^ t) + gw (b / 2 ^ t))) * G (2 ^ t + i) := by
  rw [FS_hi hb hi, IS_lo ha hi, IS_hi hi]
  generalize G i = x
  generalize G (2 ^ t + i) = y
  generalize gw (a / 2 ^ t) = p
  generalize gw (b / 2 ^ t) = q
  have e : y + x + (x + p * (y + x) + q * (y + x)) = (p + q) * x + (1 + (p + q)) * y + (x + x) := by
    simp only [GF.mul_add, GF.add_mul, GF.one_mul]; ac_rfl
  rw [e, GF.add_self, GF.add_zero]

/-- From the values on the coset a those on the coset b: a sum over the kernel. -/
theorem ext_kernel (t : Nat) : ∀ (a b : Nat) (f : Nat → GF) (j : Nat), a % 2 ^ t = 0 → b % 2 ^ t = 0 → a + 2 ^ t ≤ 65536 → b + 2 ^ t ≤ 65536 → a / 2 ^ t ≠ b / 2 ^ t → j < 2 ^ t →
    FT b t (IT a t f) j = sm (2 ^ t) (fun i => f i * kr t a b j i) := by
  induction t with
  | zero =>
    intro a b f j _ _ ha hb hab hj
    obtain rfl : j = 0 := by simpa using hj
    simp only [Nat.pow_zero, Nat.div_one] at hab ha hb
    show f 0 = 0 + f 0 * kr 0 a b 0 0
    have h : kr 0 a b 0 0 = 1 := by
      unfold kr
      simp only [Nat.pow_zero, Nat.div_one, Nat.add_zero]
      exact GF.mul_inv (gw_ne (by omega) (by omega) hab)
    rw [h, GF.mul_one, GF.zero_add]
  | succ t ih =>
    intro a b f j ha hb hla hlb hab hj
    have hp : 2 ^ (t + 1) = 2 ^ t + 2 ^ t := by rw [Nat.pow_succ]; omega
    rw [hp] at hla hlb hj
    have hpos := Nat.two_pow_pos t
    obtain ⟨ha0, ha1⟩ := mod_low ha
    obtain ⟨hb0, hb1⟩ := mod_low hb
    have ea := div_half a t
    have eb := div_half b t
    rw [ea, eb] at hab
    have da := div_even ha
    have db := div_even hb
    have ua : (a + 2 ^ t) / 2 ^ t = a / 2 ^ t + 1 := Nat.add_div_right _ hpos
    have ub : (b + 2 ^ t) / 2 ^ t = b / 2 ^ t + 1 := Nat.add_div_right _ hpos
    have la : a / 2 ^ t < 65536 := Nat.lt_of_le_of_lt (Nat.div_le_self _ _) (by omega)
    have lb : b / 2 ^ t < 65536 := Nat.lt_of_le_of_lt (Nat.div_le_self _ _) (by omega)
    have hm := mix la lb
    have wa := gw_upper ha
    have wb := gw_upper hb
    have hlo : ∀ i, i < 2 ^ t → IT a t f i = IT a t f i := fun _ _ => rfl
    have hG : ∀ i, IT a t f (2 ^ t + i) = IT (a + 2 ^ t) t (fun i => f (2 ^ t + i)) i := IT_up (Nat.le_refl t) f
    have hk1 : ∀ jj i, kr (t + 1) a b jj i = ((1 + (gw (a / 2 ^ t) + gw (b / 2 ^ t))) * (gw (a / 2 ^ t) + gw (b / 2 ^ t))) * (gw (a + i) + gw (b + jj)).inv := by
      intro jj i; unfold kr; rw [ea, eb, hm]
    rw [FT, IT, hp, sm_split]
    rcases Nat.lt_or_ge j (2 ^ t) with hj1 | hj1
    · have e1 : FT b t (FS b t (IS a t (IT a t f))) j = FT b t (fun i => (1 + (gw (a / 2 ^ t) + gw (b / 2 ^ t))) * IT a t f i + (gw (a / 2 ^ t) + gw (b / 2 ^ t)) * IT (a + 2 ^ t) t (fun i => f (2 ^ t + i)) i) j := by
        refine FT_congr (Nat.le_refl t) (fun i hi => ?_) j hj1
        rw [mix_lo ha0 hb0 hi, hG]
      rw [e1, FT_lin, ih a b f j ha0 hb0 (by omega) (by omega) (by omega) hj1,
        ih (a + 2 ^ t) b _ j ha1 hb0 (by omega) (by omega) (by omega) hj1, ← sm_mul, ← sm_mul]
      congr 1
      · refine sm_congr fun i _ => ?_
        rw [hk1]; unfold kr; ac_rfl
      · refine sm_congr fun i _ => ?_
        rw [hk1]; unfold kr
        rw [wa, show a + 2 ^ t + i = a + (2 ^ t + i) from by omega]
        generalize gw (a / 2 ^ t) = p
        generalize gw (b / 2 ^ t) = q
        rw [show p + 1 + q = 1 + (p + q) from by ac_rfl]; ac_rfl
    · obtain ⟨jj, rfl⟩ : ∃ jj, j = 2 ^ t + jj := ⟨j - 2 ^ t, by omega⟩
      have hjj : jj < 2 ^ t := by omega
      rw [FT_up (Nat.le_refl t)]
      have e1 : FT (b + 2 ^ t) t (fun i => FS b t (IS a t (IT a t f)) (2 ^ t + i)) jj = FT (b + 2 ^ t) t (fun i => (gw (a / 2 ^ t) + gw (b / 2 ^ t)) * IT a t f i + (1 + (gw (a / 2 ^ t) + gw (b / 2 ^ t))) * IT (a + 2 ^ t) t (fun i => f (2 ^ t + i)) i) jj := by
        refine FT_congr (Nat.le_refl t) (fun i hi => ?_) jj hjj
        rw [mix_hi ha0 hb0 hi, hG]
      rw [e1, FT_lin, ih a (b + 2 ^ t) f jj ha0 hb1 (by omega) (by omega) (by omega) hjj,
        ih (a + 2 ^ t) (b + 2 ^ t) _ jj ha1 hb1 (by omega) (by omega) (by omega) hjj, ← sm_mul, ← sm_mul]
      congr 1
      · refine sm_congr fun i _ => ?_
        rw [hk1]; unfold kr
        rw [wb, show b + 2 ^ t + jj = b + (2 ^ t + jj) from by omega]
        generalize gw (a / 2 ^ t) = p
        generalize gw (b / 2 ^ t) = q
        rw [show p + (q + 1) = 1 + (p + q) from by ac_rfl]; ac_rfl
      · refine sm_congr fun i _ => ?_
        rw [hk1]; unfold kr
        rw [wa, wb, show b + 2 ^ t + jj = b + (2 ^ t + jj) from by omega, show a + 2 ^ t + i = a + (2 ^ t + i) from by omega]
        generalize gw (a / 2 ^ t) = p
        generalize gw (b / 2 ^ t) = q
        rw [show p + 1 + (q + 1) = (p + q) + (1 + 1) from by ac_rfl, GF.add_self, GF.add_zero]; ac_rfl
end Go.Proofs.YtpnmmedjamkmeaaGreat

/- A Cauchy matrix is regular: so the code tells its errors. -/
set_option linter.unusedVariables false
set_option linter.unusedSimpArgs false
namespace Go.Proofs.YtpnmmedjamkmeaaGreat

theorem inv_sum {A B : GF} (hA : A ≠ 0) (hB : B ≠ 0) : (A + B) * (A.inv * B.inv) = A.inv + B.inv := by
  have e : (A + B) * (A.inv * B.inv) = (A * A.inv) * B.inv + (B * B.inv) * A.inv := by rw [GF.add_mul]; ac_rfl
  rw [e, GF.mul_inv hA, GF.mul_inv hB, GF.one_mul, GF.one_mul, GF.add_comm]
theorem cauchy_step {xj xn yi yn : GF} (h1 : xj ≠ yi) (h2 : xn ≠ yi) :
    (xj + yn) * (xj + yi).inv + (xn + yn) * (xn + yi).inv = (xj + xn) * ((yi + yn) * ((xj + yi).inv * (xn + yi).inv)) := by
  have hA := GF.add_ne_zero h1
  have hB := GF.add_ne_zero h2
  have e1 : ∀ x : GF, x + yn = (x + yi) + (yi + yn) := fun x => by rw [GF.add_assoc, GF.add_self']
  have e2 : xj + xn = (xj + yi) + (xn + yi) := by
    have : (xj + yi) + (xn + yi) = xj + xn + (yi + yi) := by ac_rfl
    rw [this, GF.add_self, GF.add_zero]
  rw [e1 xj, e1 xn, e2]
  generalize xj + yi = A at *
  generalize xn + yi = B at *
  generalize yi + yn = D at *
  have hs := inv_sum hA hB
  have e3 : (A + B) * (D * (A.inv * B.inv)) = D * ((A + B) * (A.inv * B.inv)) := by ac_rfl
  rw [e3, hs, GF.add_mul, GF.add_mul, GF.mul_inv hA, GF.mul_inv hB, GF.mul_add]
  have e4 : 1 + D * A.inv + (1 + D * B.inv) = (1 + 1) + (D * A.inv + D * B.inv) := by ac_rfl
  rw [e4, GF.add_self, GF.zero_add]
/-- The columns of a Cauchy matrix are independent. -/
theorem cauchy : ∀ (n : Nat) (c y x : Nat → GF), (∀ i j, i < n → j < n → i ≠ j → y i ≠ y j) → (∀ i j, i < n → j < n → i ≠ j → x i ≠ x j) → (∀ i j, i < n → j < n → x j ≠ y i) →
    (∀ j, j < n → sm n (fun i => c i * (x j + y i).inv) = 0) → ∀ i, i < n → c i = 0 := by
  intro n
  induction n with
  | zero => intro _ _ _ _ _ _ _ i hi; omega
  | succ n ih =>
    intro c y x hy hx hxy hs
    have key : ∀ i, i < n → c i * ((y i + y n) * (x n + y i).inv) = 0 := by
      refine ih (fun i => c i * ((y i + y n) * (x n + y i).inv)) y x (fun i j a b => hy i j (by omega) (by omega)) (fun i j a b => hx i j (by omega) (by omega)) (fun i j a b => hxy i j (by omega) (by omega)) (fun j hj => ?_)
      have h1 := hs j (by omega)
      have h2 := hs n (by omega)
      have h3 : sm (n + 1) (fun i => c i * ((x j + y n) * (x j + y i).inv + (x n + y n) * (x n + y i).inv)) = 0 := by
        have : ∀ i, c i * ((x j + y n) * (x j + y i).inv + (x n + y n) * (x n + y i).inv) = (x j + y n) * (c i * (x j + y i).inv) + (x n + y n) * (c i * (x n + y i).inv) := fun i => by
          rw [GF.mul_add]; ac_rfl
        rw [sm_congr (fun i _ => this i), sm_add, sm_mul, sm_mul, h1, h2, GF.mul_zero, GF.mul_zero, GF.add_zero]
      rw [sm] at h3
      have h4 : (x j + y n) * (x j + y n).inv + (x n + y n) * (x n + y n).inv = 0 := by
        rw [GF.mul_inv (GF.add_ne_zero (hxy n j (by omega) (by omega))), GF.mul_inv (GF.add_ne_zero (hxy n n (by omega) (by omega))), GF.add_self]
      rw [h4, GF.mul_zero, GF.add_zero] at h3
      have h5 : sm n (fun i => c i * ((x j + y n) * (x j + y i).inv + (x n + y n) * (x n + y i).inv)) = (x j + x n) * sm n (fun i => c i * ((y i + y n) * (x n + y i).inv) * (x j + y i).inv) := by
        rw [← sm_mul]
        refine sm_congr fun i hi => ?_
        rw [cauchy_step (hxy i j (by omega) (by omega)) (hxy i n (by omega) (by omega))]
        ac_rfl
      rw [h5] at h3
      exact (GF.mul_eq_zero h3).resolve_left (GF.add_ne_zero (hx j n (by omega) (by omega) (by omega)))
    have hlow : ∀ i, i < n → c i = 0 := fun i hi => by
      rcases GF.mul_eq_zero (key i hi) with h | h
      · exact h
      · exact absurd h (GF.mul_ne_zero (GF.add_ne_zero (hy i n (by omega) (by omega) (by omega))) (GF.inv_ne_zero (GF.add_ne_zero (hxy i n (by omega) (by omega)))))
    intro i hi
    by_cases e : i = n
    · subst e
      have h2 := hs i (by omega)
      rw [sm, sm_zero' (fun q hq => by rw [hlow q hq, GF.zero_mul]), GF.zero_add] at h2
      exact (GF.mul_eq_zero h2).resolve_right (GF.inv_ne_zero (GF.add_ne_zero (hxy i i (by omega) (by omega))))
    · exact hlow i (by omega)

/-- The numbers below n with p. -/
def pick (n : Nat) (p : Nat → Bool) : List Nat := (List.range n).filter p
def cnt (n : Nat) (p : Nat → Bool) : Nat := (pick n p).length
theorem pick_succ (n : Nat) (p : Nat → Bool) : pick (n + 1) p = pick n p ++ (if p n then [n] else []) := by
  unfold pick
  rw [List.range_succ, List.filter_append]
  cases h : p n <;> simp [h]
theorem cnt_succ (n : Nat) (p : Nat → Bool) : cnt (n + 1) p = cnt n p + (if p n then 1 else 0) := by
  unfold cnt
  rw [pick_succ, List.length_append]
  split <;> rfl
theorem cnt_zero (p : Nat → Bool) : cnt 0 p = 0 := rfl
theorem cnt_mono {n : Nat} {p q : Nat → Bool} (h : ∀ i, i < n → p i = true → q i = true) : cnt n p ≤ cnt n q := by
  induction n with
  | zero => exact Nat.le_refl _
  | succ n ih =>
    have := ih (fun i hi => h i (by omega))
    rw [cnt_succ, cnt_succ]
    by_cases hp : p n = true
    · rw [if_pos hp, if_pos (h n (by omega) hp)]; omega
    · rw [if_neg hp]; split <;> omega
theorem cnt_not (n : Nat) (p : Nat → Bool) : cnt n p + cnt n (fun i => !p i) = n := by
  induction n with
  | zero => rfl
  | succ n ih =>
    rw [cnt_succ, cnt_succ]
    cases p n <;> simp <;> omega
theorem cnt_add (a b : Nat) (p : Nat → Bool) : cnt (a + b) p = cnt a p + cnt b (fun i => p (a + i)) := by
  induction b with
  | zero => rfl
  | succ b ih => rw [show a + (b + 1) = (a + b) + 1 from rfl, cnt_succ, ih, cnt_succ]; omega
theorem pick_lt {n : Nat} {p : Nat → Bool} {q : Nat} (h : q < cnt n p) : (pick n p)[q]'h < n ∧ p ((pick n p)[q]'h) = true := by
  have hm : (pick n p)[q]'h ∈ pick n p := List.getElem_mem h
  unfold pick at hm
  rw [List.mem_filter, List.mem_range] at hm
  exact hm
theorem pick_nodup (n : Nat) (p : Nat → Bool) : (pick n p).Nodup := List.nodup_range.filter p
theorem pick_inj {n : Nat} {p : Nat → Bool} {i j : Nat} (hi : i < cnt n p) (hj : j < cnt n p) (h : (pick n p)[i]'hi = (pick n p)[j]'hj) : i = j :=
  (List.getElem_inj (pick_nodup n p)).1 h
def pk (n : Nat) (p : Nat → Bool) (q : Nat) : Nat := (pick n p).getD q 0
theorem pk_get {n : Nat} {p : Nat → Bool} {q : Nat} (h : q < cnt n p) : pk n p q = (pick n p)[q]'h := by
  unfold pk; rw [List.getD_eq_getElem?_getD, List.getElem?_eq_getElem h]; rfl
theorem pk_lt {n : Nat} {p : Nat → Bool} {q : Nat} (h : q < cnt n p) : pk n p q < n := by rw [pk_get h]; exact (pick_lt h).1
theorem pk_is {n : Nat} {p : Nat → Bool} {q : Nat} (h : q < cnt n p) : p (pk n p q) = true := by rw [pk_get h]; exact (pick_lt h).2
theorem pk_inj {n : Nat} {p : Nat → Bool} {i j : Nat} (hi : i < cnt n p) (hj : j < cnt n p) (h : pk n p i = pk n p j) : i = j := by
  rw [pk_get hi, pk_get hj] at h; exact pick_inj hi hj h
theorem pk_all {n : Nat} {p : Nat → Bool} {i : Nat} (hi : i < n) (h : p i = true) : ∃ q, q < cnt n p ∧ pk n p q = i := by
  have hm : i ∈ pick n p := by unfold pick; rw [List.mem_filter, List.mem_range]; exact ⟨hi, h⟩
  obtain ⟨q, hq, e⟩ := List.getElem_of_mem hm
  exact ⟨q, hq, by rw [pk_get hq, e]⟩
theorem pk_old {n : Nat} {p : Nat → Bool} {q : Nat} (h : q < cnt n p) : pk (n + 1) p q = pk n p q := by
  unfold pk
  rw [pick_succ, List.getD_eq_getElem?_getD, List.getElem?_append_left h, ← List.getD_eq_getElem?_getD]
theorem pk_new {n : Nat} {p : Nat → Bool} (h : p n = true) : pk (n + 1) p (cnt n p) = n := by
  unfold pk cnt
  rw [pick_succ, if_pos h, List.getD_eq_getElem?_getD, List.getElem?_append_right (Nat.le_refl _), Nat.sub_self]; rfl
/-- A sum over those that count. -/
theorem sm_pick (n : Nat) (p : Nat → Bool) (f : Nat → GF) (h : ∀ i, i < n → p i = false → f i = 0) : sm n f = sm (cnt n p) (fun q => f (pk n p q)) := by
  induction n with
  | zero => rfl
  | succ n ih =>
    rw [sm, ih (fun i hi => h i (by omega)), cnt_succ]
    have e : ∀ q, q < cnt n p → f (pk n p q) = f (pk (n + 1) p q) := fun q hq => by rw [pk_old hq]
    by_cases hp : p n = true
    · rw [if_pos hp, sm, pk_new hp, sm_congr e]
    · rw [if_neg hp, Nat.add_zero, h n (by omega) (by simpa using hp), GF.add_zero, sm_congr e]
end Go.Proofs.YtpnmmedjamkmeaaGreat

/- Words of bytes; the parity word by word; the fast way's sums. -/
set_option linter.unusedVariables false
set_option linter.unusedSimpArgs false
namespace Go.Proofs.YtpnmmedjamkmeaaGreat

/-- A row of n words. -/
def rowL (n : Nat) (f : Nat → GF) : List Nat := (List.range n).map fun t => (f t).v
@[simp] theorem rowL_length (n : Nat) (f : Nat → GF) : (rowL n f).length = n := by simp [rowL]
theorem gn_rowL (n : Nat) (f : Nat → GF) (i : Nat) (h : i < n) : gn (rowL n f) i = (f i).v := by
  rw [gn_get _ _ (by simpa using h)]; simp [rowL]
theorem rowL_congr {n : Nat} {f g : Nat → GF} (h : ∀ i, i < n → f i = g i) : rowL n f = rowL n g := by
  refine ext_gn (by simp) fun i hi => ?_
  rw [rowL_length] at hi
  rw [gn_rowL _ _ _ hi, gn_rowL _ _ _ hi, h i hi]
theorem rowL_lt (n : Nat) (f : Nat → GF) (i : Nat) : gn (rowL n f) i < 65536 := by
  by_cases h : i < n
  · rw [gn_rowL _ _ _ h]; exact GF.v_lt _
  · rw [gn_out _ _ (by simpa using h)]; omega
theorem rowL_set (n : Nat) (f : Nat → GF) (i : Nat) (x : GF) (h : i < n) : (rowL n f).set i x.v = rowL n (fun t => if t = i then x else f t) := by
  refine ext_gn (by simp) fun t ht => ?_
  rw [List.length_set, rowL_length] at ht
  rw [gn_set _ _ _ _ (by simpa using h), gn_rowL _ _ _ ht, gn_rowL _ _ _ ht]
  split <;> rfl
theorem rowL_zero (n : Nat) : rowL n (fun _ => 0) = List.replicate n 0 := by
  refine ext_gn (by simp) fun t ht => ?_
  rw [rowL_length] at ht
  rw [gn_rowL _ _ _ ht]; simp [gn, ht]; rfl
/-- Every row of numbers of 16 bits is one of elements. -/
theorem rowL_of {l : List Nat} (h : ∀ i, gn l i < 65536) : l = rowL l.length (fun t => gf (gn l t)) := by
  refine ext_gn (by simp) fun t ht => ?_
  rw [gn_rowL _ _ _ ht, gf_v (h t)]

/-- Word t of bytes. -/
def wdAt (l : List Nat) (t : Nat) : Nat := wd (gn l (2 * t)) (gn l (2 * t + 1))
theorem wdAt_lt {l : List Nat} (h : ∀ i, gn l i < 256) (t : Nat) : wdAt l t < 65536 := wd_lt (h _) (h _)
/-- The words of bytes, as elements. -/
def we (l : List Nat) (t : Nat) : GF := gf (wdAt l t)
/-- The bytes of words, the first of them. -/
def byTo (f : Nat → GF) : Nat → List Nat
  | 0 => []
  | n + 1 => byTo f n ++ [(f n).v % 256, (f n).v / 256]
@[simp] theorem byTo_length (f : Nat → GF) (n : Nat) : (byTo f n).length = 2 * n := by
  induction n with
  | zero => rfl
  | succ n ih => simp [byTo, ih]; omega
theorem gn_byTo (f : Nat → GF) (n i : Nat) (h : i < 2 * n) : gn (byTo f n) i = if i % 2 = 0 then (f (i / 2)).v % 256 else (f (i / 2)).v / 256 := by
  induction n with
  | zero => omega
  | succ n ih =>
    rw [byTo]
    by_cases h1 : i < 2 * n
    · have := ih h1
      rw [← this]
      simp only [gn, List.getD_eq_getElem?_getD]
      rw [List.getElem?_append_left (by simpa using h1)]
    · simp only [gn, List.getD_eq_getElem?_getD]
      rw [List.getElem?_append_right (by simpa using h1), byTo_length]
      have : i = 2 * n ∨ i = 2 * n + 1 := by omega
      rcases this with rfl | rfl
      · rw [Nat.sub_self, if_pos (by omega), show 2 * n / 2 = n from by omega]; rfl
      · rw [show 2 * n + 1 - 2 * n = 1 from by omega, if_neg (by omega), show (2 * n + 1) / 2 = n from by omega]; rfl
theorem wd_split {x : Nat} : wd (x % 256) (x / 256) = x := by unfold wd; omega
theorem wd_inj {a b c d : Nat} (ha : a < 256) (hc : c < 256) (h : wd a b = wd c d) : a = c ∧ b = d := by unfold wd at h; omega
/-- Bytes are the bytes of their words. -/
theorem byTo_of {l : List Nat} {f : Nat → GF} {n : Nat} (hl : l.length = 2 * n) (hb : ∀ i, gn l i < 256) (h : ∀ t, t < n → we l t = f t) : byTo f n = l := by
  refine ext_gn (by simp [hl]) fun i hi => ?_
  rw [byTo_length] at hi
  rw [gn_byTo _ _ _ hi, ← h (i / 2) (by omega), we, gf_v (wdAt_lt hb _)]
  unfold wdAt
  have h1 := hb (2 * (i / 2))
  have h2 := hb (2 * (i / 2) + 1)
  by_cases e : i % 2 = 0
  · rw [if_pos e]
    have : wd (gn l (2 * (i / 2))) (gn l (2 * (i / 2) + 1)) % 256 = gn l (2 * (i / 2)) := by unfold wd; omega
    rw [this]; congr 1; omega
  · rw [if_neg e]
    have : wd (gn l (2 * (i / 2))) (gn l (2 * (i / 2) + 1)) / 256 = gn l (2 * (i / 2) + 1) := by unfold wd; omega
    rw [this]; congr 1; omega
/-- Bytes are told by their words. -/
theorem bytes_ext {a b : List Nat} {n : Nat} (ha : a.length = 2 * n) (hb : b.length = 2 * n) (ba : ∀ i, gn a i < 256) (bb : ∀ i, gn b i < 256) (h : ∀ t, t < n → we a t = we b t) : a = b := by
  rw [← byTo_of ha ba (f := we b) h, byTo_of hb bb (fun _ _ => rfl)]
theorem xor_wd {a b c d : Nat} (ha : a < 256) (hb : b < 256) (hc : c < 256) (hd : d < 256) : wd a b ^^^ wd c d = wd (a ^^^ c) (b ^^^ d) := by
  have e : ∀ x y, x < 256 → wd x y = y * 2 ^ 8 ^^^ x := by
    intro x y hx
    unfold wd
    have := Nat.two_pow_add_eq_or_of_lt (i := 8) (show x < 2 ^ 8 by omega) y
    have h2 : 2 ^ 8 * y ||| x = 2 ^ 8 * y ^^^ x := by
      apply Nat.eq_of_testBit_eq
      intro i
      rw [Nat.testBit_or, Nat.testBit_xor]
      by_cases hi : i < 8
      · rw [Nat.testBit_two_pow_mul, decide_eq_false (by omega)]; simp
      · have : x.testBit i = false := Nat.testBit_lt_two_pow (Nat.lt_of_lt_of_le (show x < 2 ^ 8 by omega) (Nat.pow_le_pow_right (by omega) (by omega)))
        rw [this]; simp
    rw [Nat.mul_comm y, ← h2, ← this]; omega
  rw [e a b ha, e c d hc, e _ _ (Nat.xor_lt_two_pow (n := 8) ha hc), shl_xor, xor4]
/-- A product added, word by word. -/
theorem we_madd {c : Nat} (hc : c < 65536) {s d : List Nat} (hs : ∀ i, gn s i < 256) (hd : ∀ i, gn d i < 256) (he : d.length % 2 = 0) (t : Nat) (ht : 2 * t < d.length) :
    we (madd c s d) t = we d t + gf c * we s t := by
  unfold we wdAt madd
  rw [gn_maddTo _ _ _ _ _ ht, gn_maddTo _ _ _ _ _ (by omega), if_pos ht, if_pos (by omega)]
  unfold mb
  rw [if_pos (by omega), if_neg (by omega), show 2 * t + 1 - 1 = 2 * t from by omega]
  have hw := wd_lt (hs (2 * t)) (hs (2 * t + 1))
  have hg := gmul_lt hc (wd (gn s (2 * t)) (gn s (2 * t + 1)))
  rw [← xor_wd (hd _) (hd _) (by omega) (by omega), wd_split, gf_xor (wd_lt (hd _) (hd _)) hg, gf_mul hc hw]
/-- The factor, as an element. -/
def fe' (m j i : Nat) : GF := gw ((p2 m + i) / p2 m) * (gw j + gw (p2 m + i)).inv
theorem gf_fac (m j i : Nat) : gf (fac m j i) = fe' m j i := by
  unfold fac gdiv
  rw [gf_mul (el_lt _) (ginv_lt _), gf_el]
  congr 1
  apply GF.ext
  rw [gf_v (ginv_lt _), GF.v_inv, GF.v_add, gw_v, gw_v]
theorem we_zero (n t : Nat) : we (List.replicate n 0) t = 0 := by
  have : ∀ i, gn (List.replicate n 0) i = 0 := fun i => by
    by_cases h : i < n
    · simp [gn, h]
    · rw [gn_out _ _ (by simpa using h)]
  unfold we wdAt
  rw [this, this]; rfl
theorem we_parTo {m n : Nat} {ds : List (List Nat)} (hn : n % 2 = 0) (hb : ∀ i b, gn (gl ds i) b < 256) (j t : Nat) (ht : 2 * t < n) :
    ∀ i, we (parTo m n ds j i) t = sm i (fun q => fe' m j q * we (gl ds q) t) := by
  intro i
  induction i with
  | zero => exact we_zero n t
  | succ i ih =>
    rw [parTo, sm, ← ih, we_madd (fac_lt _ _ _) (hb i) (parTo_lt m n ds j i) (by simpa using hn) t (by simpa using ht), gf_fac]

/-- Block q of data shards, word t: zeros behind the last. -/
def blk (k M : Nat) (ds : List (List Nat)) (q t i : Nat) : GF := if q * M + i < k then we (gl ds (q * M + i)) t else 0
/-- How many blocks of M there are in k. -/
def nblk (k M : Nat) : Nat := (k + M - 1) / M
theorem nblk_le {k M : Nat} (hM : 1 ≤ M) : k ≤ nblk k M * M := by
  unfold nblk
  have := Nat.div_add_mod (k + M - 1) M
  have h2 := Nat.mod_lt (k + M - 1) (show 0 < M by omega)
  rw [Nat.mul_comm] at this; omega
theorem nblk_iff {k M q : Nat} (hM : 1 ≤ M) : q < nblk k M ↔ q * M < k := by
  unfold nblk
  rw [show q < (k + M - 1) / M ↔ q + 1 ≤ (k + M - 1) / M from Iff.rfl, Nat.le_div_iff_mul_le (by omega), Nat.add_mul, Nat.one_mul]
  omega
/-- The fast way's sum is the code's. -/
theorem fast_sum {k m j : Nat} (h : prm k (m : Int)) (hj : j < m) (ds : List (List Nat)) (t : Nat) :
    FT 0 (mu m) (fun i => sm (nblk k (p2 m)) (fun q => IT (p2 m + q * p2 m) (mu m) (blk k (p2 m) ds q t) i)) j = sm k (fun i => fe' m j i * we (gl ds i) t) := by
  obtain ⟨h1, h2, h3, h4, h5⟩ := h
  rw [Int.toNat_natCast] at h5
  have hM := p2_pos m
  have hjM : j < p2 m := Nat.lt_of_lt_of_le hj (le_p2 m)
  rw [FT_sm]
  have hpM : 2 ^ mu m = p2 m := rfl
  have hN : (nblk k (p2 m) + 1) * p2 m ≤ 65536 := by
    have e : 65536 = 2 ^ (16 - mu m) * p2 m := by
      rw [← hpM, ← Nat.pow_add]
      have := mu_le16 (m := m) (by omega)
      rw [show 16 - mu m + mu m = 16 from by omega]
    have h6 : (k + p2 m - 1) / p2 m + 1 ≤ 2 ^ (16 - mu m) := by
      have : (k + p2 m - 1) / p2 m < 2 ^ (16 - mu m) := by
        rw [Nat.div_lt_iff_lt_mul (by omega), ← e]; omega
      omega
    rw [e]
    exact Nat.mul_le_mul_right _ h6
  have e1 : ∀ q, q < nblk k (p2 m) → FT 0 (mu m) (IT (p2 m + q * p2 m) (mu m) (blk k (p2 m) ds q t)) j = sm (p2 m) (fun i => if q * p2 m + i < k then fe' m j (q * p2 m + i) * we (gl ds (q * p2 m + i)) t else 0) := by
    intro q hq
    have hq2 : (q + 1) * p2 m ≤ nblk k (p2 m) * p2 m := Nat.mul_le_mul_right _ hq
    rw [Nat.add_mul, Nat.one_mul] at hq2 hN
    have hdiv : ∀ i, i < p2 m → (p2 m + q * p2 m + i) / p2 m = q + 1 := fun i hi => by
      rw [show p2 m + q * p2 m + i = p2 m * (q + 1) + i from by rw [Nat.mul_add, Nat.mul_one, Nat.mul_comm q]; omega, Nat.mul_add_div (by omega), Nat.div_eq_of_lt hi]
    rw [ext_kernel (mu m) (p2 m + q * p2 m) 0 _ j (by rw [hpM, show p2 m + q * p2 m = (q + 1) * p2 m from by rw [Nat.add_mul, Nat.one_mul, Nat.add_comm]]; exact Nat.mul_mod_left _ _)
      (Nat.zero_mod _) (by rw [hpM]; omega) (by rw [hpM]; omega) (by
        rw [hpM, Nat.zero_div]
        have := hdiv 0 (by omega)
        rw [Nat.add_zero] at this
        rw [this]; omega) hjM]
    refine sm_congr fun i hi => ?_
    rw [hpM] at hi
    unfold blk
    by_cases c : q * p2 m + i < k
    · rw [if_pos c, if_pos c]
      unfold kr fe'
      rw [hpM, Nat.zero_div, gw_zero, GF.add_zero, Nat.zero_add]
      have a0 := hdiv 0 (by omega)
      rw [Nat.add_zero] at a0
      have a1 := hdiv i hi
      rw [show p2 m + q * p2 m + i = p2 m + (q * p2 m + i) from by omega] at a1 ⊢
      rw [a0, a1, GF.add_comm (gw j)]
      ac_rfl
    · rw [if_neg c, if_neg c, GF.zero_mul]
  rw [sm_congr e1, ← sm_blocks (nblk k (p2 m)) (p2 m) (fun i => if i < k then fe' m j i * we (gl ds i) t else 0),
    sm_more (nblk_le hM) (fun i h1 _ => if_neg (by omega))]
  exact sm_congr fun i hi => if_pos hi
end Go.Proofs.YtpnmmedjamkmeaaGreat

/- Walks of lch and afft: skews, small tests, a multiple added. -/
set_option linter.unusedSimpArgs false
set_option linter.unusedVariables false
set_option linter.unusedSimpArgs false
namespace Go.Proofs.YtpnmmedjamkmeaaGreat
open Go.RowKit

theorem Skew_calls (t j : Nat) (ht : t ≤ 16) (hj : j < 65536) (w : World) :
    Calls Tryz.prog 148 #[.int .i64 (t : Int), .int .i64 (j : Int)] w fun e w' => e = .returned (.tuple #[.int .u16 (el (j / 2 ^ t) : Int), .int .i64 0]) ∧ Chg No w w' := by
  have H := hid (Element_yes (j / 2 ^ t) (Nat.lt_of_le_of_lt (Nat.div_le_self _ _) hj))
  have d1 : decide ((t : Int) < 0) = false := by simp
  have d2 : decide (16 < (t : Int)) = false := by simp; omega
  have d3 : decide ((j : Int) < 0) = false := by simp
  have d4 : decide (65535 < (j : Int)) = false := by simp; omega
  have E : Hid (((j : Int) / 2 ^ t) = ((j / 2 ^ t : Nat) : Int)) := hid (by simp)
  have t0 : (0 : Int) ≤ (t : Int) := by omega
  have t1 : (t : Int) ≤ 16 := by omega
  generalize j / 2 ^ t = q at *
  go_enter Tryz.func148, Tryz.ntmps148
  go_wp2_with fail
  rw [E.out]
  refine (H.out _).mono ?_
  rintro e w1 ⟨rfl, hC⟩
  have HC := hid hC
  clear hC
  go_wp2_with fail
  go_ret2
  exact ⟨rfl, HC.out⟩
theorem skew_calls (t j : Nat) (ht : t ≤ 16) (hj : j < 65536) (w : World) :
    Calls Tryz.prog 127 #[.int .i64 (t : Int), .int .i64 (j : Int)] w fun e w' => e = .returned (.int .u16 (el (j / 2 ^ t) : Int)) ∧ Chg No w w' := by
  have H := hid (Skew_calls t j ht hj)
  go_enter Tryz.func127, Tryz.ntmps127
  go_wp2_with fail
  refine (H.out _).mono ?_
  rintro e w1 ⟨rfl, hC⟩
  have HC := hid hC
  clear hC
  go_wp2_with fail
  go_ret
  exact ⟨rfl, HC.out⟩
theorem and_pow (t : Nat) : 2 ^ t &&& (2 ^ t - 1) = 0 := by
  rw [Nat.and_two_pow_sub_one_eq_mod]; exact Nat.mod_self _
theorem power_calls (t n : Nat) (hn : n = 2 ^ t) (ht : t ≤ 16) (w : World) :
    Calls Tryz.prog 146 #[.int .i64 (n : Int)] w fun e w' => e = .returned (.bool true) ∧ w' = w := by
  have h1 : 1 ≤ n := by rw [hn]; exact Nat.one_le_two_pow
  have h2 : n ≤ 65536 := by rw [hn]; exact Nat.pow_le_pow_right (by omega) ht
  have h3 : n &&& (n - 1) = 0 := by rw [hn]; exact and_pow t
  have E1 : IntKind.i64.wrap ((n : Int) - 1) = ((n - 1 : Nat) : Int) := by rw [IntWalk.i64_in _ (by omega)]; omega
  have E3 : ((n : Int) - 1) = ((n - 1 : Nat) : Int) := by omega
  have E2 : bits BinOp.and IntKind.i64 (n : Int) ((n - 1 : Nat) : Int) = 0 := by
    rw [i64_and_nat _ _ (by omega) (by omega), h3]; rfl
  rw [← E3] at E2
  have d1 : decide (1 ≤ (n : Int)) = true := by simp; omega
  have d2 : decide ((n : Int) ≤ 65536) = true := by simp; omega
  clear hn h3 E1 E3
  go_enter Tryz.func146, Tryz.ntmps146
  go_wp2_with fail
  go_ret
  exact ⟨rfl, rfl⟩
theorem begins_calls (s n : Nat) (h1 : 1 ≤ n) (h2 : s + n ≤ 65536) (h3 : s % n = 0) (w : World) :
    Calls Tryz.prog 147 #[.int .i64 (s : Int), .int .i64 (n : Int), .int .i64 (n : Int)] w fun e w' => e = .returned (.bool true) ∧ w' = w := by
  have d1 : decide (0 ≤ (s : Int)) = true := by simp
  have d2 : decide ((n : Int) ≤ 65536) = true := by simp; omega
  have d3 : decide ((s : Int) ≤ 65536 - (n : Int)) = true := by simp; omega
  have E : ((s : Int) % (n : Int)) = 0 := by omega
  have n1 : (1 : Int) ≤ (n : Int) := by omega
  have n2 : (n : Int) ≤ 65536 := by omega
  have d4 : ((s : Int) % (n : Int) == 0) = true := by rw [E]; rfl
  clear h3 E
  go_enter Tryz.func147, Tryz.ntmps147
  go_wp2_with fail
  go_ret
  exact ⟨rfl, rfl⟩
theorem levels_calls (t n : Nat) (hn : n = 2 ^ t) (ht : t ≤ 16) (w : World) :
    Calls Tryz.prog 129 #[.int .i64 (n : Int)] w fun e w' => e = .returned (.int .i64 ((t : Int) - 1)) ∧ w' = w := by
  go_enter Tryz.func129, Tryz.ntmps129
  go_wp2_with fail
  go_loopw [0, 3] (fun n l wr => ∃ s : Nat, s ≤ t ∧ n = .int .i64 ((2 ^ (t - s) : Nat) : Int) ∧ l = .int .i64 ((s : Int) - 1) ∧ wr = w) (fun n _ _ => (intOf n).toNat)
  case atStart => exact ⟨0, by omega, by rw [hn]; rfl, rfl, rfl⟩
  case round =>
    obtain ⟨s, hs, rfl, rfl, rfl⟩ := hrel
    by_cases hlt : s < t
    · have h1 : 1 ≤ 2 ^ (t - (s + 1)) := Nat.one_le_two_pow
      have h2 : 2 ^ (t - s) = 2 * 2 ^ (t - (s + 1)) := by rw [show t - s = (t - (s + 1)) + 1 from by omega, Nat.pow_succ]; omega
      have h3 : 2 ^ (t - (s + 1)) ≤ 2 ^ 16 := Nat.pow_le_pow_right (by omega) (by omega)
      rw [h2]
      obtain ⟨m, hm⟩ : ∃ m, 2 ^ (t - (s + 1)) = m := ⟨_, rfl⟩
      rw [hm] at h1 h3 ⊢
      have HM := hid hm
      clear h2 hn hm
      obtain ⟨q, hq⟩ : ∃ q, 2 * m = q := ⟨_, rfl⟩
      rw [hq]
      have d1 : decide (1 < q) = true := by simp; omega
      have E : Hid (wrap64 ((q : Int) / 2) = (m : Int)) := hid (by unfold wrap64; omega)
      have E' : Hid ((q : Int) / 2 = (m : Int)) := hid (by omega)
      have HQ := hid hq
      have hq1 : 2 ≤ q := by omega
      have b0 : (0 : Int) ≤ (q : Int) := by omega
      have b1 : (q : Int) ≤ 131072 := by omega
      clear hq
      go_wp2_with fail
      go_roundw
      case rel => exact ⟨s + 1, by omega, by first | rw [E.out, HM.out] | rw [E'.out, HM.out], by congr 1; omega, by first | rfl | trivial⟩
      case measure => have := HQ.out; simp [intOf]; omega
    · obtain rfl : s = t := by omega
      rw [Nat.sub_self]
      clear hn
      go_wp2_with fail
      go_ret
      exact ⟨rfl, rfl⟩
end Go.Proofs.YtpnmmedjamkmeaaGreat
