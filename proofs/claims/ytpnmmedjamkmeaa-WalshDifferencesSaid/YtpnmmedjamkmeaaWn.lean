/- The walk of the law WalshDifferences: the cases that are refused. -/
import Derived.Test.YtpnmmedjamkmeaaWm
namespace Go.Proofs.Ytpnmmedjamkmeaa
open Go.RowKit

set_option maxRecDepth 100000 in
set_option maxHeartbeats 4000000 in
theorem law_range (p : Option Addr) (c : Nat) (l : List Int) (r : Int) (w : World) (hl : Rd w .i64 p l) (hm : l.length * 8 ≤ 140737488355328) (hr : r < 0 ∨ 16 < r) :
    Calls Try.prog 3 #[.slice p l.length c, .int .i64 r] w fun e w' => e = .returned (.bool true) ∧ Chg No w w' := by
  have HL := hid hl
  clear hl
  by_cases h : r < 0
  · have h1 : decide (r < 0) = true := by simpa using h
    go_enter Try.func3, Try.ntmps3
    go_wp2_with fail
    refine (fixed15_calls _).mono ?_
    rintro e w1 ⟨rfl, hC1⟩
    go_wp2_with fail
    refine (copiedInts_calls p c l w1 (HL.out.keptNo hC1) hm).mono ?_
    rintro e w2 ⟨rfl, hO2, hC2⟩
    go_wp2_with fail
    refine (Products_range _ _ _ _ _ hr).mono ?_
    rintro e w3 ⟨rfl, hC3⟩
    have hC13 := (hC1.trans hC2).trans hC3
    go_wp2_with fail
    refine (copiedInts_calls p c l w3 (HL.out.keptNo hC13) hm).mono ?_
    rintro e w4 ⟨rfl, hO4, hC4⟩
    go_wp2_with fail
    refine (Locator_range _ _ _ _ _ hr).mono ?_
    rintro e w5 ⟨rfl, hC5⟩
    go_wp2_with fail
    go_ret
    exact ⟨by first | rfl | simp, (hC13.trans hC4).trans hC5⟩
  · have h1 : decide (r < 0) = false := by simpa using h
    have h2 : decide (16 < r) = true := by simp; omega
    go_enter Try.func3, Try.ntmps3
    go_wp2_with fail
    refine (fixed15_calls _).mono ?_
    rintro e w1 ⟨rfl, hC1⟩
    go_wp2_with fail
    refine (copiedInts_calls p c l w1 (HL.out.keptNo hC1) hm).mono ?_
    rintro e w2 ⟨rfl, hO2, hC2⟩
    go_wp2_with fail
    refine (Products_range _ _ _ _ _ hr).mono ?_
    rintro e w3 ⟨rfl, hC3⟩
    have hC13 := (hC1.trans hC2).trans hC3
    go_wp2_with fail
    refine (copiedInts_calls p c l w3 (HL.out.keptNo hC13) hm).mono ?_
    rintro e w4 ⟨rfl, hO4, hC4⟩
    go_wp2_with fail
    refine (Locator_range _ _ _ _ _ hr).mono ?_
    rintro e w5 ⟨rfl, hC5⟩
    go_wp2_with fail
    go_ret
    exact ⟨by first | rfl | simp, (hC13.trans hC4).trans hC5⟩
end Go.Proofs.Ytpnmmedjamkmeaa
