/- Walks of gf16's table lookups. -/
import Derived.Test.YtpnmmedjamkmeaaWb
namespace Go.Proofs.Ytpnmmedjamkmeaa
open Go.RowKit

/-- n modulo 65535. -/
def rs (n : Int) : Nat := (n % 65535).toNat
theorem rs_lt (n : Int) : rs n < 65535 := by unfold rs; omega
theorem rs_nat (n : Nat) (h : n < 65535) : rs (n : Int) = n := by unfold rs; omega

theorem residue_rs (n : Int) (w : World) : Calls Try.prog 33 #[.int .i64 n] w fun e w' => e = .returned (.int .i64 (rs n : Int)) ∧ w' = w :=
  (residue_calls n w).mono fun e w' ⟨he, hw⟩ => ⟨by rw [he]; exact ret_int (by unfold rs; omega), hw⟩

set_option maxRecDepth 10000 in
theorem Exp_q (b : Nat) (n : Int) (w : World) (hT : Tab w b) :
    Calls Try.prog 12 #[.pointer (some ⟨b, 0, none⟩), .int .i64 n] w fun e w' => e = .returned (.int .u16 (ex (rs n) : Int)) ∧ ∃ m, w' = w.drewN m := by
  have hm := rs_lt n
  have h0 : (0 : Int) ≤ (rs n : Int) := by omega
  have h1 : (rs n : Int) < 65535 := by omega
  have hc := hT.exCell hm
  clear hT hm
  go_enter Try.func12, Try.ntmps12
  go_wp2
  go_quiet ((go_at_call 33; exact Calls.quiet_of_same (residue_rs _ _)))
  go_wp2
  go_ret
  exact ⟨rfl, nq, rfl⟩
theorem Exp_calls (b : Nat) (n : Int) (w : World) (hT : Tab w b) :
    Calls Try.prog 12 #[.pointer (some ⟨b, 0, none⟩), .int .i64 n] w fun e w' => e = .returned (.int .u16 (ex (rs n) : Int)) ∧ Chg No w w' :=
  (Exp_q b n w hT).mono fun e w' ⟨he, m, hw⟩ => ⟨he, hw ▸ (Chg.refl _ _).drewN _⟩

set_option maxRecDepth 10000 in
theorem Log_calls (b x : Nat) (w : World) (hT : Tab w b) (hx : x < 65536) (hx0 : x ≠ 0) :
    Calls Try.prog 82 #[.pointer (some ⟨b, 0, none⟩), .int .u16 (x : Int)] w fun e w' => e = .returned (.tuple #[.int .i64 (lg x : Int), .int .i64 0]) ∧ Chg No w w' := by
  have ht : ((x : Int) == 0) = false := by simpa using hx0
  have h0 : (0 : Int) ≤ (x : Int) := by omega
  have h1 : (x : Int) < 65536 := by omega
  have hc := hT.lgCell hx
  have hl := lg_lt x
  have hl0 : (0 : Int) ≤ (lg x : Int) := by omega
  have hl1 : (lg x : Int) < 65535 := by omega
  clear hT hx0 hx hl
  go_enter Try.func82, Try.ntmps82
  go_wp2
  go_ret2
  exact ⟨rfl, Chg.refl _ _⟩

set_option maxRecDepth 10000 in
theorem Log_zero (b : Nat) (w : World) :
    Calls Try.prog 82 #[.pointer (some ⟨b, 0, none⟩), .int .u16 (0 : Int)] w fun e w' => e = .returned (.tuple #[.int .i64 0, .int .i64 20]) ∧ Chg No w w' := by
  go_enter Try.func82, Try.ntmps82
  go_wp2
  go_ret2
  exact ⟨rfl, Chg.refl _ _⟩
theorem Log_any (b x : Nat) (w : World) (hT : Tab w b) (hx : x < 65536) :
    Calls Try.prog 82 #[.pointer (some ⟨b, 0, none⟩), .int .u16 (x : Int)] w fun e w' => ∃ er : Int, e = .returned (.tuple #[.int .i64 (lgz x : Int), .int .i64 er]) ∧ Chg No w w' := by
  unfold lgz
  by_cases h : x = 0
  · subst h
    exact (Log_zero b w).mono fun e w' ⟨he, hw⟩ => ⟨20, he, hw⟩
  · rw [if_neg h]
    exact (Log_calls b x w hT hx h).mono fun e w' ⟨he, hw⟩ => ⟨0, he, hw⟩

/-- The product by the tables. -/
def tmul (a b : Nat) : Nat := if a = 0 ∨ b = 0 then 0 else ex ((lg a + lg b) % 65535)
theorem tmul_lt (a b : Nat) : tmul a b < 65536 := by
  unfold tmul
  split
  · omega
  · exact ex_lt _

set_option maxRecDepth 10000 in
theorem Mul_zeroL (b y : Nat) (w : World) :
    Calls Try.prog 14 #[.pointer (some ⟨b, 0, none⟩), .int .u16 (0 : Int), .int .u16 (y : Int)] w fun e w' => e = .returned (.int .u16 0) ∧ ∃ m, w' = w.drewN m := by
  go_enter Try.func14, Try.ntmps14
  go_wp2
  go_ret
  exact ⟨rfl, 0, rfl⟩
set_option maxRecDepth 10000 in
theorem Mul_zeroR (b x : Nat) (w : World) (hx0 : x ≠ 0) :
    Calls Try.prog 14 #[.pointer (some ⟨b, 0, none⟩), .int .u16 (x : Int), .int .u16 (0 : Int)] w fun e w' => e = .returned (.int .u16 0) ∧ ∃ m, w' = w.drewN m := by
  have ht : ((x : Int) == 0) = false := by simpa using hx0
  go_enter Try.func14, Try.ntmps14
  go_wp2
  go_ret
  exact ⟨rfl, 0, rfl⟩
set_option maxRecDepth 10000 in
theorem Mul_pos (b x y : Nat) (w : World) (hT : Tab w b) (hx : x < 65536) (hx0 : x ≠ 0) (hy : y < 65536) (hy0 : y ≠ 0) :
    Calls Try.prog 14 #[.pointer (some ⟨b, 0, none⟩), .int .u16 (x : Int), .int .u16 (y : Int)] w fun e w' => e = .returned (.int .u16 (ex ((lg x + lg y) % 65535) : Int)) ∧ ∃ m, w' = w.drewN m := by
  have ht : ((x : Int) == 0) = false := by simpa using hx0
  have ht2 : ((y : Int) == 0) = false := by simpa using hy0
  have hc := hT.lgCell hx
  have hc2 := hT.lgCell hy
  have hlx := lg_lt x
  have hly := lg_lt y
  have hm : (lg x + lg y) % 65535 < 65535 := by omega
  have hc3 := hT.exCell hm
  have b1 : (0 : Int) ≤ (x : Int) := by omega
  have b2 : (x : Int) < 65536 := by omega
  have b3 : (0 : Int) ≤ (y : Int) := by omega
  have b4 : (y : Int) < 65536 := by omega
  have b5 : (0 : Int) ≤ (lg x : Int) := by omega
  have b6 : (lg x : Int) < 65535 := by omega
  have b7 : (0 : Int) ≤ (lg y : Int) := by omega
  have b8 : (lg y : Int) < 65535 := by omega
  have b9 : (0 : Int) ≤ ((lg x : Int) + (lg y : Int)) % 65535 := by omega
  have b10 : ((lg x : Int) + (lg y : Int)) % 65535 < 65535 := by omega
  have e1 : (((lg x : Int) + (lg y : Int)) % 65535).toNat = (lg x + lg y) % 65535 := by omega
  have e2 : IntKind.i64.wrap ((lg x : Int) + (lg y : Int)) = (lg x : Int) + (lg y : Int) := IntWalk.i64_in _ (by omega)
  have e3 : ((lg x : Int) + (lg y : Int)).tmod 65535 = ((lg x : Int) + (lg y : Int)) % 65535 := Int.tmod_eq_emod_of_nonneg (by omega)
  clear hT hx hx0 hy hy0 hlx hly hm
  go_enter Try.func14, Try.ntmps14
  go_wp2
  go_quiet (fail)
  go_wp2
  go_ret
  exact ⟨rfl, nq, rfl⟩
theorem Mul_q (b x y : Nat) (w : World) (hT : Tab w b) (hx : x < 65536) (hy : y < 65536) :
    Calls Try.prog 14 #[.pointer (some ⟨b, 0, none⟩), .int .u16 (x : Int), .int .u16 (y : Int)] w fun e w' => e = .returned (.int .u16 (tmul x y : Int)) ∧ ∃ m, w' = w.drewN m := by
  unfold tmul
  by_cases hx0 : x = 0
  · subst hx0
    rw [if_pos (.inl rfl)]
    exact Mul_zeroL b y w
  · by_cases hy0 : y = 0
    · subst hy0
      rw [if_pos (.inr rfl)]
      exact Mul_zeroR b x w hx0
    · rw [if_neg (by simp [hx0, hy0])]
      exact Mul_pos b x y w hT hx hx0 hy hy0
theorem Mul_calls (b x y : Nat) (w : World) (hT : Tab w b) (hx : x < 65536) (hy : y < 65536) :
    Calls Try.prog 14 #[.pointer (some ⟨b, 0, none⟩), .int .u16 (x : Int), .int .u16 (y : Int)] w fun e w' => e = .returned (.int .u16 (tmul x y : Int)) ∧ Chg No w w' :=
  (Mul_q b x y w hT hx hy).mono fun e w' ⟨he, m, hw⟩ => ⟨he, hw ▸ (Chg.refl _ _).drewN _⟩
end Go.Proofs.Ytpnmmedjamkmeaa
