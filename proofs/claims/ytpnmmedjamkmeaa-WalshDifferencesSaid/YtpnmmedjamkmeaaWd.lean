/- Walks of walsh: the transform in place. -/
import Derived.Test.YtpnmmedjamkmeaaWc
import Derived.Test.YtpnmmedjamkmeaaPm
namespace Go.Proofs.Ytpnmmedjamkmeaa
open Go.RowKit

set_option maxRecDepth 10000 in
set_option maxHeartbeats 1600000 in
theorem turn_calls (g t : Nat) (l : List Nat) (w : World) (hO : Own w 32 g (nv .u16 l) []) (hl : l.length = 2 ^ t) (ht : t ≤ 16) (hb : ∀ j, gn l j < 65536) :
    Calls Try.prog 57 #[.slice (some ⟨g, 0, none⟩) l.length l.length] w fun e w' => e = .returned (.tuple #[]) ∧ Own w' 32 g (nv .u16 (stages t l)) [] ∧ Chg (Only g) w w' := by
  have hn : l.length ≤ 65536 := by rw [hl]; exact Nat.pow_le_pow_right (by omega) ht
  have HL := hid hl
  clear hl
  go_enter Try.func57, Try.ntmps57
  go_wp2_with fail
  go_loopw [2] (fun d wr => ∃ s : Nat, s ≤ t ∧ d = .int .i64 ((2 ^ s : Nat) : Int) ∧ Own wr 32 g (nv .u16 (stages s l)) [] ∧ Chg (Only g) w wr) (fun d _ => 65536 - (intOf d).toNat)
  case atStart => exact ⟨0, by omega, rfl, hO, Chg.refl _ _⟩
  case round =>
    obtain ⟨s, hs, rfl, hO1, hC1⟩ := hrel
    clear hO
    obtain ⟨w1, rfl⟩ : ∃ w1 : World, w1 = wr := ⟨_, rfl⟩
    by_cases hlt : s < t
    · have hd1 : 1 ≤ 2 ^ s := Nat.one_le_two_pow
      have hd2 : 2 * 2 ^ s ≤ l.length := by
        rw [HL.out, show 2 * 2 ^ s = 2 ^ (s + 1) from by rw [Nat.pow_succ]; omega]
        exact Nat.pow_le_pow_right (by omega) hlt
      have hdv : ∃ z, l.length = z * (2 * 2 ^ s) := ⟨2 ^ (t - (s + 1)), by
        rw [HL.out, show 2 * 2 ^ s = 2 ^ (s + 1) from by rw [Nat.pow_succ]; omega, ← Nat.pow_add]; congr 1; omega⟩
      have hsm := stages_small s l hb
      have hls := stages_length s l
      have hnx : stages (s + 1) l = stage (2 ^ s) (stages s l) := rfl
      have hp : 2 ^ (s + 1) = 2 * 2 ^ s := by rw [Nat.pow_succ]; omega
      have HN := hid hnx
      have HP := hid hp
      clear hnx hp
      generalize 2 ^ s = d at *
      generalize stages s l = l1 at *
      have hdl : decide (d < l.length) = true := by simp; omega
      have HLS := hid hls
      have HSM := hid hsm
      have HDV := hid hdv
      clear hls hsm hdv
      go_wp2_with fail
      go_loopw [3] (fun f wr => ∃ (a q : Nat) (l2 : List Nat), Hid (a = q * (2 * d)) ∧ a ≤ l.length ∧ f = .int .i64 (a : Int) ∧ Half d l1 l2 a 0 ∧ Own wr 32 g (nv .u16 l2) [] ∧ Chg (Only g) w wr) (fun f _ => l.length - (intOf f).toNat)
      case atStart => exact ⟨0, 0, l1, hid (by omega), by omega, by simp, Half.start d l1, hO1, hC1⟩
      case round =>
        obtain ⟨a, q, l2, HA, hq, rfl, hH, hO2, hC2⟩ := hrel
        clear hO1 hC1
        obtain ⟨w2, rfl⟩ : ∃ w2 : World, w2 = wr := ⟨_, rfl⟩
        by_cases hfl : a < l.length
        · have hfd : decide (a < l.length) = true := by simp; omega
          have ha2 : a + 2 * d ≤ l.length := by
            obtain ⟨z, hz⟩ := HDV.out
            have h1 : q * (2 * d) < z * (2 * d) := by rw [← hz, ← HA.out]; exact hfl
            have h2 : q < z := Nat.lt_of_mul_lt_mul_right h1
            have h3 : (q + 1) * (2 * d) ≤ z * (2 * d) := Nat.mul_le_mul_right _ h2
            rw [Nat.add_mul, Nat.one_mul, ← hz, ← HA.out] at h3
            exact h3
          go_wp2_with fail
          go_loopw [4, 5, 6] (fun i _ _ wr => ∃ (m : Nat) (l3 : List Nat), m ≤ d ∧ i = .int .i64 ((a + m : Nat) : Int) ∧ Half d l1 l3 a m ∧ Own wr 32 g (nv .u16 l3) [] ∧ Chg (Only g) w wr) (fun i _ _ _ => l.length - (intOf i).toNat)
          case atStart => exact ⟨0, l2, by omega, rfl, hH, hO2, hC2⟩
          case round =>
            obtain ⟨m, l3, hm, rfl, hH3, hO3, hC3⟩ := hrel
            clear hO2 hC2 hH
            obtain ⟨w3, rfl⟩ : ∃ w3 : World, w3 = wr := ⟨_, rfl⟩
            by_cases hml : m < d
            · have hid1 : decide (a + m < a + d) = true := by simp; omega
              obtain ⟨x, hx⟩ : ∃ x, x = gn l1 (a + m) := ⟨_, rfl⟩
              obtain ⟨y, hy⟩ : ∃ y, y = gn l1 (a + m + d) := ⟨_, rfl⟩
              have hx0 : x < 65536 := by rw [hx]; exact HSM.out _
              have hy0 : y < 65536 := by rw [hy]; exact HSM.out _
              have htr := Half.turn (d := d) (l := l1) (l' := l3) (q := q) (m := m) (by rw [← HA.out]; exact hH3) hml (by rw [← HA.out, HLS.out]; omega)
              rw [← HA.out, ← hx, ← hy] at htr
              obtain ⟨t1, t2, hH4⟩ := htr
              have hc1 := hO3.nat (i := a + m) (by rw [hH3.1, HLS.out]; omega)
              have hc2 := hO3.nat (i := a + m + d) (by rw [hH3.1, HLS.out]; omega)
              rw [t1] at hc1
              rw [t2] at hc2
              have hf := hO3.frozen (a + m)
              have hf3 := hO3.frozen (a + m + d)
              have HO3 := hid hO3
              have HC3 := hid hC3
              have hl3 : a + m + d < (nv .u16 l3).length := by rw [nv_length, hH3.1, HLS.out]; omega
              have HL3 := hid hl3
              have HH4 := hid hH4
              clear t1 t2 hx hy hO3 hC3 hl3 hH3 hH4
              go_wp2_with fail
              go_quiet (fail)
              go_wp2_with fail
              have e1 : ((x : Int) + (y : Int)) % 65535 = (((x + y) % 65535 : Nat) : Int) := by omega
              have e2 : ((x : Int) + 65535 - (y : Int)) % 65535 = (((x + 65535 - y) % 65535 : Nat) : Int) := by omega
              rw [e1, e2]
              go_roundw
              case rel => exact ⟨m + 1, _, by omega, by go_num, HH4.out, ((HO3.out.drewN nq).setNat (by have := HL3.out; simp at this; omega) _).setNat (by have := HL3.out; simp at this ⊢; omega) _,
                ((HC3.out.drewN nq).setOnly _ _).setOnly _ _⟩
              case measure => simp [intOf]; omega
            · obtain rfl : m = d := by omega
              have hid1 : decide (a + m < a + m) = false := by simp
              have hn := Half.next (d := m) (l := l1) (l' := l3) (q := q) (by rw [← HA.out]; exact hH3)
              have HE : Hid (a + 2 * m = (q + 1) * (2 * m)) := by rw [HA.out]; show _ = _; rw [Nat.add_mul, Nat.one_mul]
              rw [← HE.out] at hn
              go_wp2_with fail
              go_roundw
              case rel => exact ⟨a + 2 * m, q + 1, l3, HE, by omega, by go_num, hn, hO3, hC3⟩
              case measure => simp [intOf]; omega
        · have hfd : decide (a < l.length) = false := by simp; omega
          have hfin := hH.done (by rw [HLS.out]; omega)
          rw [hfin, ← HN.out] at hO2
          clear hfin
          go_wp2_with fail
          go_roundw
          case rel => exact ⟨s + 1, by omega, by rw [HP.out]; go_num, hO2, hC2⟩
          case measure => simp [intOf]; omega
    · obtain rfl : s = t := by omega
      rw [show 2 ^ s = l.length from HL.out.symm]
      go_wp2_with fail
      go_end0
      exact ⟨rfl, hO1, hC1⟩
end Go.Proofs.Ytpnmmedjamkmeaa
