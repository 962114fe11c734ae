/- The walk of the law WalshDifferences: lost indices that are not rising. -/
import Derived.Test.YtpnmmedjamkmeaaWn
set_option linter.unusedVariables false
set_option linter.unusedSimpArgs false
namespace Go.Proofs.Ytpnmmedjamkmeaa
open Go.RowKit

set_option maxRecDepth 100000 in
set_option maxHeartbeats 8000000 in
theorem law_bad (p : Option Addr) (c : Nat) (l : List Int) (r : Nat) (w : World) (hl : Rd w .i64 p l) (hm : l.length * 8 ≤ 140737488355328) (hr : r ≤ 16) (hb : ¬ okAll l (2 ^ r)) :
    Calls Try.prog 3 #[.slice p l.length c, .int .i64 (r : Int)] w fun e w' => e = .returned (.bool true) ∧ Chg No w w' := by
  have HL := hid hl
  clear hl
  have h1 : decide ((r : Int) < 0) = false := by simp
  have h2 : decide (16 < (r : Int)) = false := by simp; omega
  have hr0 : (0 : Int) ≤ (r : Int) := by omega
  have hr1 : (r : Int) ≤ 16 := by omega
  have HS := hid (two_pow_int r hr)
  have HP := hid (fun g w (hO : Own w 3 g (iv .i64 l) []) => Products_calls r l.length (some ⟨g, 0, none⟩) l w hr hO.rd (by unfold maxLen; omega))
  have HLo := hid (fun g w (hO : Own w 3 g (iv .i64 l) []) => Locator_calls r l.length (some ⟨g, 0, none⟩) l w hr hO.rd (by unfold maxLen; omega))
  have HB := hid hb
  clear hb
  unfold ProdPost at HP
  unfold LocPost at HLo
  have hN1 : 2 ^ r ≤ 65536 := Nat.pow_le_pow_right (by omega) hr
  generalize 2 ^ r = N at *
  go_enter Try.func3, Try.ntmps3
  go_wp2_with fail
  refine (fixed15_calls _).mono ?_
  rintro e w1 ⟨rfl, hC1⟩
  go_wp2_with fail
  refine (copiedInts_calls p c l w1 (HL.out.keptNo hC1) hm).mono ?_
  rintro e w2 ⟨rfl, hO2, hC2⟩
  have HO2 := hid hO2
  clear hO2
  go_wp2_with fail
  refine (HP.out _ _ HO2.out).mono ?_
  rintro e w3 hP
  rcases hP with ⟨hg, _⟩ | ⟨hb, rfl, hC3⟩
  · exact absurd hg HB.out
  have hC13 := (hC1.trans hC2).trans hC3
  clear hb HP
  go_wp2_with fail
  refine (copiedInts_calls p c l w3 (HL.out.keptNo hC13) hm).mono ?_
  rintro e w4 ⟨rfl, hO4, hC4⟩
  have HO4 := hid hO4
  clear hO4
  go_wp2_with fail
  refine (HLo.out _ _ HO4.out).mono ?_
  rintro e w5 hP
  rcases hP with ⟨hg, _⟩ | ⟨hb, rfl, hC5⟩
  · exact absurd hg HB.out
  have hC15 := (hC13.trans hC4).trans hC5
  have HL5 := hid (HL.out.keptNo hC15)
  clear hb HLo HL hC1 hC2 hC3 hC13 hC4 hC5 HO2 HO4
  go_wp2_with fail
  go_loopw [59] (fun i wr => ∃ k : Nat, k ≤ l.length ∧ i = .int .i64 (k : Int) ∧ (∀ j, j < k → okAt l N j) ∧ wr = w5) (fun i _ => l.length - (intOf i).toNat)
  case atStart => exact ⟨0, by omega, rfl, fun j h => by omega, rfl⟩
  case round =>
    obtain ⟨k, hk, rfl, hok, rfl⟩ := hrel
    have HOK := hid hok
    clear hok
    by_cases hlt : k < l.length
    · obtain ⟨bb, off, rfl, hcell⟩ := HL5.out k hlt
      by_cases hx0 : ga l k < 0
      · have ht : decide (ga l k < 0) = true := by simpa using hx0
        go_wp2_with fail
        go_ret
        exact ⟨by first | rfl | simp, hC15⟩
      · have ht : decide (ga l k < 0) = false := by simpa using hx0
        by_cases hxN : (N : Int) ≤ ga l k
        · have ht2 : decide ((N : Int) ≤ ga l k) = true := by simpa using hxN
          go_wp2_with (rw [HS.out])
          go_ret
          exact ⟨by first | rfl | simp, hC15⟩
        · have ht2 : decide ((N : Int) ≤ ga l k) = false := by simpa using hxN
          by_cases hk0 : k = 0
          · subst hk0
            rw [Nat.add_zero] at hcell
            have HG : Hid (okAt l N 0) := hid ⟨by omega, by omega, fun h => by omega⟩
            go_wp2_with (rw [HS.out])
            go_roundw
            case rel => exact ⟨1, by omega, rfl, fun j h => by obtain rfl : j = 0 := by omega
                                                               exact HG.out, by first | rfl | trivial⟩
            case measure => simp [intOf]; omega
          · have ht3 : decide (0 < (k : Int)) = true := by simp; omega
            obtain ⟨k1, rfl⟩ : ∃ k1, k = k1 + 1 := ⟨k - 1, by omega⟩
            obtain ⟨bb', off', he, hcell'⟩ := HL5.out k1 (by omega)
            obtain ⟨rfl, rfl⟩ : bb = bb' ∧ off = off' := by simpa using he
            clear he hk0
            by_cases hle : ga l (k1 + 1) ≤ ga l k1
            · have ht4 : decide (ga l (k1 + 1) ≤ ga l k1) = true := by simpa using hle
              go_wp2_with (rw [HS.out])
              go_ret
              exact ⟨by first | rfl | simp, hC15⟩
            · have ht4 : decide (ga l (k1 + 1) ≤ ga l k1) = false := by simpa using hle
              have HG : Hid (okAt l N (k1 + 1)) := hid ⟨by omega, by omega, fun h => by simp; omega⟩
              go_wp2_with (rw [HS.out])
              go_roundw
              case rel => exact ⟨k1 + 1 + 1, by omega, by go_num, fun j h => by
                by_cases e : j = k1 + 1
                · subst e; exact HG.out
                · exact HOK.out j (by omega), by first | rfl | trivial⟩
              case measure => simp [intOf]; omega
    · obtain rfl : k = l.length := by omega
      exact absurd HOK.out HB.out
end Go.Proofs.Ytpnmmedjamkmeaa
