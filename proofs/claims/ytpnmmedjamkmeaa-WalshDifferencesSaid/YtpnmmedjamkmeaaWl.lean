/- The call bits.Len at the powers of two up to 65536. -/
import Derived.Test.YtpnmmedjamkmeaaWc
namespace Go.Proofs.Ytpnmmedjamkmeaa
open Go.RowKit
set_option maxRecDepth 10000
theorem Len_0 (w : World) : Calls Try.prog 45 #[.int .u64 ((1 : Nat) : Int)] w fun e w' => e = .returned (.int .i64 ((1 : Nat) : Int)) ∧ w' = w := by
  go_enter Try.func45, Try.ntmps45
  go_wp2
  go_ret
  exact ⟨by kernel_rfl, rfl⟩
theorem Len_1 (w : World) : Calls Try.prog 45 #[.int .u64 ((2 : Nat) : Int)] w fun e w' => e = .returned (.int .i64 ((2 : Nat) : Int)) ∧ w' = w := by
  go_enter Try.func45, Try.ntmps45
  go_wp2
  go_ret
  exact ⟨by kernel_rfl, rfl⟩
theorem Len_2 (w : World) : Calls Try.prog 45 #[.int .u64 ((4 : Nat) : Int)] w fun e w' => e = .returned (.int .i64 ((3 : Nat) : Int)) ∧ w' = w := by
  go_enter Try.func45, Try.ntmps45
  go_wp2
  go_ret
  exact ⟨by kernel_rfl, rfl⟩
theorem Len_3 (w : World) : Calls Try.prog 45 #[.int .u64 ((8 : Nat) : Int)] w fun e w' => e = .returned (.int .i64 ((4 : Nat) : Int)) ∧ w' = w := by
  go_enter Try.func45, Try.ntmps45
  go_wp2
  go_ret
  exact ⟨by kernel_rfl, rfl⟩
theorem Len_4 (w : World) : Calls Try.prog 45 #[.int .u64 ((16 : Nat) : Int)] w fun e w' => e = .returned (.int .i64 ((5 : Nat) : Int)) ∧ w' = w := by
  go_enter Try.func45, Try.ntmps45
  go_wp2
  go_ret
  exact ⟨by kernel_rfl, rfl⟩
theorem Len_5 (w : World) : Calls Try.prog 45 #[.int .u64 ((32 : Nat) : Int)] w fun e w' => e = .returned (.int .i64 ((6 : Nat) : Int)) ∧ w' = w := by
  go_enter Try.func45, Try.ntmps45
  go_wp2
  go_ret
  exact ⟨by kernel_rfl, rfl⟩
theorem Len_6 (w : World) : Calls Try.prog 45 #[.int .u64 ((64 : Nat) : Int)] w fun e w' => e = .returned (.int .i64 ((7 : Nat) : Int)) ∧ w' = w := by
  go_enter Try.func45, Try.ntmps45
  go_wp2
  go_ret
  exact ⟨by kernel_rfl, rfl⟩
theorem Len_7 (w : World) : Calls Try.prog 45 #[.int .u64 ((128 : Nat) : Int)] w fun e w' => e = .returned (.int .i64 ((8 : Nat) : Int)) ∧ w' = w := by
  go_enter Try.func45, Try.ntmps45
  go_wp2
  go_ret
  exact ⟨by kernel_rfl, rfl⟩
theorem Len_8 (w : World) : Calls Try.prog 45 #[.int .u64 ((256 : Nat) : Int)] w fun e w' => e = .returned (.int .i64 ((9 : Nat) : Int)) ∧ w' = w := by
  go_enter Try.func45, Try.ntmps45
  go_wp2
  go_ret
  exact ⟨by kernel_rfl, rfl⟩
theorem Len_9 (w : World) : Calls Try.prog 45 #[.int .u64 ((512 : Nat) : Int)] w fun e w' => e = .returned (.int .i64 ((10 : Nat) : Int)) ∧ w' = w := by
  go_enter Try.func45, Try.ntmps45
  go_wp2
  go_ret
  exact ⟨by kernel_rfl, rfl⟩
theorem Len_10 (w : World) : Calls Try.prog 45 #[.int .u64 ((1024 : Nat) : Int)] w fun e w' => e = .returned (.int .i64 ((11 : Nat) : Int)) ∧ w' = w := by
  go_enter Try.func45, Try.ntmps45
  go_wp2
  go_ret
  exact ⟨by kernel_rfl, rfl⟩
theorem Len_11 (w : World) : Calls Try.prog 45 #[.int .u64 ((2048 : Nat) : Int)] w fun e w' => e = .returned (.int .i64 ((12 : Nat) : Int)) ∧ w' = w := by
  go_enter Try.func45, Try.ntmps45
  go_wp2
  go_ret
  exact ⟨by kernel_rfl, rfl⟩
theorem Len_12 (w : World) : Calls Try.prog 45 #[.int .u64 ((4096 : Nat) : Int)] w fun e w' => e = .returned (.int .i64 ((13 : Nat) : Int)) ∧ w' = w := by
  go_enter Try.func45, Try.ntmps45
  go_wp2
  go_ret
  exact ⟨by kernel_rfl, rfl⟩
theorem Len_13 (w : World) : Calls Try.prog 45 #[.int .u64 ((8192 : Nat) : Int)] w fun e w' => e = .returned (.int .i64 ((14 : Nat) : Int)) ∧ w' = w := by
  go_enter Try.func45, Try.ntmps45
  go_wp2
  go_ret
  exact ⟨by kernel_rfl, rfl⟩
theorem Len_14 (w : World) : Calls Try.prog 45 #[.int .u64 ((16384 : Nat) : Int)] w fun e w' => e = .returned (.int .i64 ((15 : Nat) : Int)) ∧ w' = w := by
  go_enter Try.func45, Try.ntmps45
  go_wp2
  go_ret
  exact ⟨by kernel_rfl, rfl⟩
theorem Len_15 (w : World) : Calls Try.prog 45 #[.int .u64 ((32768 : Nat) : Int)] w fun e w' => e = .returned (.int .i64 ((16 : Nat) : Int)) ∧ w' = w := by
  go_enter Try.func45, Try.ntmps45
  go_wp2
  go_ret
  exact ⟨by kernel_rfl, rfl⟩
theorem Len_16 (w : World) : Calls Try.prog 45 #[.int .u64 ((65536 : Nat) : Int)] w fun e w' => e = .returned (.int .i64 ((17 : Nat) : Int)) ∧ w' = w := by
  go_enter Try.func45, Try.ntmps45
  go_wp2
  go_ret
  exact ⟨by kernel_rfl, rfl⟩
theorem Len_pow (t n : Nat) (hn : n = 2 ^ t) (ht : t ≤ 16) (w : World) : Calls Try.prog 45 #[.int .u64 (n : Int)] w fun e w' => e = .returned (.int .i64 ((t + 1 : Nat) : Int)) ∧ w' = w := by
  subst hn
  have : t = 0 ∨ t = 1 ∨ t = 2 ∨ t = 3 ∨ t = 4 ∨ t = 5 ∨ t = 6 ∨ t = 7 ∨ t = 8 ∨ t = 9 ∨ t = 10 ∨ t = 11 ∨ t = 12 ∨ t = 13 ∨ t = 14 ∨ t = 15 ∨ t = 16 := by omega
  rcases this with rfl | rfl | rfl | rfl | rfl | rfl | rfl | rfl | rfl | rfl | rfl | rfl | rfl | rfl | rfl | rfl | rfl
  · exact Len_0 w
  · exact Len_1 w
  · exact Len_2 w
  · exact Len_3 w
  · exact Len_4 w
  · exact Len_5 w
  · exact Len_6 w
  · exact Len_7 w
  · exact Len_8 w
  · exact Len_9 w
  · exact Len_10 w
  · exact Len_11 w
  · exact Len_12 w
  · exact Len_13 w
  · exact Len_14 w
  · exact Len_15 w
  · exact Len_16 w
end Go.Proofs.Ytpnmmedjamkmeaa
