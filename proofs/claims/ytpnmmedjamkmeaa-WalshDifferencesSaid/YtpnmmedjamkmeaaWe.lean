/- Walks of walsh: back, the convolution. -/
import Derived.Test.YtpnmmedjamkmeaaWd
import Derived.Test.YtpnmmedjamkmeaaWl
namespace Go.Proofs.Ytpnmmedjamkmeaa
open Go.RowKit

set_option maxRecDepth 10000 in
set_option maxHeartbeats 1600000 in
theorem back_calls (g t : Nat) (l : List Nat) (w : World) (hO : Own w 32 g (nv .u16 l) []) (hl : l.length = 2 ^ t) (ht : t ≤ 16) (hb : ∀ j, gn l j < 65536) :
    Calls Try.prog 81 #[.slice (some ⟨g, 0, none⟩) l.length l.length] w fun e w' => e = .returned (.tuple #[]) ∧ Own w' 32 g (nv .u16 (backed t l)) [] ∧ Chg (Only g) w w' := by
  have hn : l.length ≤ 65536 := by rw [hl]; exact Nat.pow_le_pow_right (by omega) ht
  have h1 := turn_calls g t l w hO hl ht hb
  have h2 := Len_pow t l.length hl ht
  have H1 := hid h1
  have H2 := hid h2
  clear h1 h2
  have HL := hid hl
  clear hl hO
  have hlt := stages_length t l
  have hls := stages_small t l hb
  have HLT := hid hlt
  have HLS := hid hls
  clear hlt hls
  go_enter Try.func81, Try.ntmps81
  go_wp2_with (first
    | (go_at_call 57; refine (H1.out).mono ?_; rintro e w1 ⟨rfl, hO1, hC1⟩; clear H1)
    | (go_at_call 45; refine (H2.out _).mono ?_; rintro e w2 ⟨rfl, rfl⟩; clear H2))
  rw [sc_int t]
  have hsc := sc_lt t
  have hs0 : (0 : Int) ≤ (sc t : Int) := by omega
  have HB : Hid (backed t l = (stages t l).map fun x => x * sc t % 65535) := hid rfl
  generalize sc t = c at *
  generalize stages t l = l1 at *
  have hs1 : (c : Int) < 65535 := by omega
  go_loopw [17] (fun i wr => ∃ k : Nat, k ≤ l.length ∧ i = .int .i64 (k : Int) ∧ Own wr 32 g (nv .u16 (mapTo (fun x => x * c % 65535) k l1)) [] ∧ Chg (Only g) w wr) (fun i _ => l.length - (intOf i).toNat)
  case atStart => exact ⟨0, by omega, rfl, by rw [mapTo_zero]; exact hO1, hC1⟩
  case round =>
    obtain ⟨k, hk, rfl, hO, hC⟩ := hrel
    clear hO1 hC1
    by_cases hlt : k < l.length
    · have hd : decide (k < l.length) = true := by simpa using hlt
      obtain ⟨x, hx⟩ : ∃ x, x = gn l1 k := ⟨_, rfl⟩
      have hxb : x < 65536 := by rw [hx]; exact HLS.out _
      have hx0 : (0 : Int) ≤ (x : Int) := by omega
      have hx1 : (x : Int) < 65536 := by omega
      have hcell := hO.nat (i := k) (by rw [mapTo_length, HLT.out]; exact hlt)
      rw [gn_mapTo _ _ _ _ (by rw [HLT.out]; exact hlt), if_neg (by omega), ← hx] at hcell
      have hf := hO.frozen k
      have hst := mapTo_set (fun x => x * c % 65535) k l1 (by rw [HLT.out]; exact hlt)
      rw [← hx] at hst
      have HST := hid hst
      have HO := hid hO
      have HC := hid hC
      have hp0 : (0 : Int) ≤ (x : Int) * (c : Int) := Int.mul_nonneg hx0 hs0
      have hp1 : (x : Int) * (c : Int) ≤ 65536 * 65535 := Int.mul_le_mul (by omega) (by omega) hs0 (by omega)
      have ev : ((x : Int) * (c : Int)) % 65535 = ((x * c % 65535 : Nat) : Int) := by simp
      have EV := hid ev
      clear hx hst hO hC hk ev
      go_wp2_with fail
      rw [EV.out]
      go_roundw
      case rel => exact ⟨k + 1, by simp at hd; omega, by go_num, by rw [← HST.out]; exact HO.out.setNat (by rw [mapTo_length, HLT.out]; simpa using hd) _, HC.out.setOnly _ _⟩
      case measure => simp at hd; simp [intOf]; omega
    · obtain rfl : k = l.length := by omega
      have HE : Hid (mapTo (fun x => x * c % 65535) l.length l1 = l1.map fun x => x * c % 65535) := by
        rw [← HLT.out]; exact mapTo_full _ _
      go_wp2_with fail
      go_end0
      exact ⟨rfl, by rw [HB.out, ← HE.out]; exact hO, hC⟩
end Go.Proofs.Ytpnmmedjamkmeaa
