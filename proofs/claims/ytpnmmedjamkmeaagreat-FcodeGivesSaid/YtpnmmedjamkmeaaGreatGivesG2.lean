/- Walks of the small functions of gf16 and walsh. -/
import Derived.Test.YtpnmmedjamkmeaaGreatProg
import Derived.Test.YtpnmmedjamkmeaaGreatGivesG1
set_option linter.unusedVariables false
set_option linter.unusedSimpArgs false
namespace Go.Proofs.YtpnmmedjamkmeaaGreat
open Go.RowKit

theorem ret_int {k : IntKind} {a b : Int} (h : a = b) : Ending.returned (.int k a) = .returned (.int k b) := by rw [h]

theorem residue_calls (n : Int) (w : World) :
    Calls Tryz.prog 125 #[.int .i64 n] w fun e w' => e = .returned (.int .i64 (n % 65535)) ∧ w' = w := by
  by_cases h : n.tmod 65535 < 0
  · have h1 : decide (n.tmod 65535 < 0) = true := by simpa using h
    go_enter Tryz.func125, Tryz.ntmps125
    go_wp2
    go_ret
    refine ⟨ret_int ?_, rfl⟩
    have := Int.tmod_eq_emod (a := n) (b := 65535)
    split at this <;> unfold wrap64 <;> omega
  · have h1 : decide (n.tmod 65535 < 0) = false := by simpa using h
    go_enter Tryz.func125, Tryz.ntmps125
    go_wp2
    go_ret
    refine ⟨ret_int ?_, rfl⟩
    have := Int.tmod_eq_emod (a := n) (b := 65535)
    split at this <;> omega

def basisArr : Array Value := #[.int .u16 1, .int .u16 44234, .int .u16 15374, .int .u16 5694, .int .u16 50562, .int .u16 60718, .int .u16 37196, .int .u16 16402, .int .u16 27800, .int .u16 4312, .int .u16 27250, .int .u16 47360, .int .u16 64952, .int .u16 64308, .int .u16 65336, .int .u16 39198]
def basisVal : Value := .agg basisArr

set_option maxHeartbeats 400000 in
theorem basis_calls (w : World) :
    Calls Tryz.prog 89 #[] w fun e w' => e = .returned basisVal ∧ Chg No w w' := by
  go_enter Tryz.func89, Tryz.ntmps89
  go_wp2
  exact bodyPost_ret (v := basisVal) (by simp [results, Tryz.results89, basisVal, basisArr, go_sem]) rfl ⟨rfl, by first | exact (Chg.refl _ _).alloc _ | exact ((Chg.refl _ _).alloc _).setCell (.inr (Nat.le_refl _)) _⟩

theorem basis_at0 (w : World) : (Instr.index 139 basisVal (.int .i64 ((0 : Nat) : Int))).run Tryz.prog w = .ok (.int .u16 (bas 0 : Int)) w := by kernel_rfl
theorem basis_at1 (w : World) : (Instr.index 139 basisVal (.int .i64 ((1 : Nat) : Int))).run Tryz.prog w = .ok (.int .u16 (bas 1 : Int)) w := by kernel_rfl
theorem basis_at2 (w : World) : (Instr.index 139 basisVal (.int .i64 ((2 : Nat) : Int))).run Tryz.prog w = .ok (.int .u16 (bas 2 : Int)) w := by kernel_rfl
theorem basis_at3 (w : World) : (Instr.index 139 basisVal (.int .i64 ((3 : Nat) : Int))).run Tryz.prog w = .ok (.int .u16 (bas 3 : Int)) w := by kernel_rfl
theorem basis_at4 (w : World) : (Instr.index 139 basisVal (.int .i64 ((4 : Nat) : Int))).run Tryz.prog w = .ok (.int .u16 (bas 4 : Int)) w := by kernel_rfl
theorem basis_at5 (w : World) : (Instr.index 139 basisVal (.int .i64 ((5 : Nat) : Int))).run Tryz.prog w = .ok (.int .u16 (bas 5 : Int)) w := by kernel_rfl
theorem basis_at6 (w : World) : (Instr.index 139 basisVal (.int .i64 ((6 : Nat) : Int))).run Tryz.prog w = .ok (.int .u16 (bas 6 : Int)) w := by kernel_rfl
theorem basis_at7 (w : World) : (Instr.index 139 basisVal (.int .i64 ((7 : Nat) : Int))).run Tryz.prog w = .ok (.int .u16 (bas 7 : Int)) w := by kernel_rfl
theorem basis_at8 (w : World) : (Instr.index 139 basisVal (.int .i64 ((8 : Nat) : Int))).run Tryz.prog w = .ok (.int .u16 (bas 8 : Int)) w := by kernel_rfl
theorem basis_at9 (w : World) : (Instr.index 139 basisVal (.int .i64 ((9 : Nat) : Int))).run Tryz.prog w = .ok (.int .u16 (bas 9 : Int)) w := by kernel_rfl
theorem basis_at10 (w : World) : (Instr.index 139 basisVal (.int .i64 ((10 : Nat) : Int))).run Tryz.prog w = .ok (.int .u16 (bas 10 : Int)) w := by kernel_rfl
theorem basis_at11 (w : World) : (Instr.index 139 basisVal (.int .i64 ((11 : Nat) : Int))).run Tryz.prog w = .ok (.int .u16 (bas 11 : Int)) w := by kernel_rfl
theorem basis_at12 (w : World) : (Instr.index 139 basisVal (.int .i64 ((12 : Nat) : Int))).run Tryz.prog w = .ok (.int .u16 (bas 12 : Int)) w := by kernel_rfl
theorem basis_at13 (w : World) : (Instr.index 139 basisVal (.int .i64 ((13 : Nat) : Int))).run Tryz.prog w = .ok (.int .u16 (bas 13 : Int)) w := by kernel_rfl
theorem basis_at14 (w : World) : (Instr.index 139 basisVal (.int .i64 ((14 : Nat) : Int))).run Tryz.prog w = .ok (.int .u16 (bas 14 : Int)) w := by kernel_rfl
theorem basis_at15 (w : World) : (Instr.index 139 basisVal (.int .i64 ((15 : Nat) : Int))).run Tryz.prog w = .ok (.int .u16 (bas 15 : Int)) w := by kernel_rfl
theorem basis_at (k : Nat) (h : k < 16) (w : World) : (Instr.index 139 basisVal (.int .i64 (k : Int))).run Tryz.prog w = .ok (.int .u16 (bas k : Int)) w := by
  have : k = 0 ∨ k = 1 ∨ k = 2 ∨ k = 3 ∨ k = 4 ∨ k = 5 ∨ k = 6 ∨ k = 7 ∨ k = 8 ∨ k = 9 ∨ k = 10 ∨ k = 11 ∨ k = 12 ∨ k = 13 ∨ k = 14 ∨ k = 15 := by omega
  rcases this with rfl | rfl | rfl | rfl | rfl | rfl | rfl | rfl | rfl | rfl | rfl | rfl | rfl | rfl | rfl | rfl
  · exact basis_at0 w
  · exact basis_at1 w
  · exact basis_at2 w
  · exact basis_at3 w
  · exact basis_at4 w
  · exact basis_at5 w
  · exact basis_at6 w
  · exact basis_at7 w
  · exact basis_at8 w
  · exact basis_at9 w
  · exact basis_at10 w
  · exact basis_at11 w
  · exact basis_at12 w
  · exact basis_at13 w
  · exact basis_at14 w
  · exact basis_at15 w

theorem bit_test (i k : Nat) (h : i < 65536) : (bits BinOp.and IntKind.i64 ((i : Int) / 2 ^ k) 1 == 1) = decide (i / 2 ^ k % 2 = 1) := by
  have e : ((i : Int) / 2 ^ k) = ((i / 2 ^ k : Nat) : Int) := by simp
  rw [e]
  have hle : i / 2 ^ k ≤ i := Nat.div_le_self _ _
  generalize i / 2 ^ k = m at hle
  have hb : bits BinOp.and IntKind.i64 (m : Int) 1 = ((m % 2 : Nat) : Int) := by
    rw [show (1 : Int) = ((1 : Nat) : Int) from rfl, i64_and_nat m 1 (by omega) (by omega), Nat.and_one_is_mod]
  rw [hb]
  have : m % 2 = 0 ∨ m % 2 = 1 := by omega
  rcases this with h | h <;> rw [h] <;> rfl

set_option maxRecDepth 10000 in
set_option maxHeartbeats 400000 in
theorem element_calls (i : Nat) (h : i < 65536) (w : World) :
    Calls Tryz.prog 144 #[.int .i64 (i : Int)] w fun e w' => e = .returned (.int .u16 (el i : Int)) ∧ Chg No w w' := by
  go_enter Tryz.func144, Tryz.ntmps144
  go_wp2_with (go_at_call 89; refine (basis_calls _).mono ?_; rintro e w1 ⟨rfl, hC⟩)
  go_loopw [3, 7] (fun x j wr => ∃ k : Nat, k ≤ 16 ∧ j = .int .i64 k ∧ x = .int .u16 (elTo k i : Int) ∧ wr = w1) (fun _ j _ => 16 - (intOf j).toNat)
  case atStart => exact ⟨0, by omega, rfl, rfl, rfl⟩
  case round =>
    obtain ⟨k, hk, rfl, rfl, rfl⟩ := hrel
    by_cases hlt : k < 16
    · have hb := basis_at k hlt wr
      have k0 : (0 : Int) ≤ (k : Int) := by omega
      have k16 : (k : Int) < 16 := by omega
      have hx := Go.u16_xor_nat (elTo k i) (bas k) (elTo_lt k i) (bas_lt k)
      have hs : elTo (k + 1) i = if i / 2 ^ k % 2 = 1 then elTo k i ^^^ bas k else elTo k i := rfl
      have HS := hid hs
      clear hs
      have ht := bit_test i k h
      by_cases hbit : i / 2 ^ k % 2 = 1
      · rw [decide_eq_true hbit] at ht
        go_wp2_with fail
        go_roundw
        case rel => exact ⟨k + 1, by omega, by go_num, by rw [HS.out, if_pos hbit], trivial⟩
        case measure => simp [intOf]; omega
      · rw [decide_eq_false hbit] at ht
        go_wp2_with fail
        go_roundw
        case rel => exact ⟨k + 1, by omega, by go_num, by rw [HS.out, if_neg hbit], trivial⟩
        case measure => simp [intOf]; omega
    · obtain rfl : k = 16 := by omega
      go_wp2_with fail
      go_ret
      exact ⟨rfl, hC⟩

set_option maxRecDepth 10000 in
theorem Element_yes (i : Nat) (h : i < 65536) (w : World) :
    Calls Tryz.prog 117 #[.int .i64 (i : Int)] w fun e w' => e = .returned (.tuple #[.int .u16 (el i : Int), .int .i64 0]) ∧ Chg No w w' := by
  have h1 : decide ((i : Int) < 0) = false := by simp
  have h2 : decide ((65535 : Int) < (i : Int)) = false := by simp; omega
  go_enter Tryz.func117, Tryz.ntmps117
  go_wp2_with (go_at_call 144; refine (element_calls i h _).mono ?_; rintro e w1 ⟨rfl, hC⟩)
  go_ret2
  exact ⟨rfl, hC⟩
end Go.Proofs.YtpnmmedjamkmeaaGreat
