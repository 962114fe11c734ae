/- The walk of the codec's Update; all, as a reader. -/
import Derived.Test.YtpnmmedjamkmeaaGreatGivesG20
import Derived.Test.YtpnmmedjamkmeaaGreatGivesG11
set_option linter.unusedSimpArgs false
set_option linter.unusedVariables false
set_option linter.unusedSimpArgs false
namespace Go.Proofs.YtpnmmedjamkmeaaGreat
open Go.RowKit

theorem UpdateSpan_calls (fast : Bool) (C k m r W T K n c c2 t a b G : Nat) (xs : List Pc) (q : Option Addr) (fs : List (List Nat)) (r0 : List Value) (w : World) (hc : Cd w fast C k m r W T K) (hR : Rws w 35 5 .u8 G xs r0)
    (ht : t = k + m) (hd : Ev t n (xs.map Pc.d)) (hbt : Byt (xs.map Pc.d)) (hf : Lr w .u8 q fs) (hfr : Fr k n fs) (hab : a < b) (hsp : Sp a b n) (htc : t ≤ c) (hap : Apart xs C W T K) :
    Calls Tryz.prog 25 #[.pointer (some ⟨C, 0, none⟩), .slice (some ⟨G, 0, none⟩) t c, .slice q k c2, spanV a b] w fun e w' => e = .returned (.int .i64 0) ∧ Rws w' 35 5 .u8 G (encTo k a b (updP k m a b (xs.map Pc.d) fs) xs m) r0 ∧ Chg (InB xs) w w' := by
  cases fast with
  | false => exact UpdateSpan_direct C k m r W T K n c c2 t a b G xs q fs r0 w hc hR ht hd hbt hf hfr hab hsp htc hap
  | true => exact UpdateSpan_fast C k m r W T K n c c2 t a b G xs q fs r0 w hc hR ht hd hbt hf hfr hab hsp htc hap
theorem Update_calls (fast : Bool) (C k m r W T K n c c2 t G : Nat) (xs : List Pc) (q : Option Addr) (fs : List (List Nat)) (r0 : List Value) (w : World) (hc : Cd w fast C k m r W T K) (hR : Rws w 35 5 .u8 G xs r0)
    (ht : t = k + m) (hd : Ev t n (xs.map Pc.d)) (hbt : Byt (xs.map Pc.d)) (hf : Lr w .u8 q fs) (hfr : Fr k n fs) (htc : t ≤ c) (hap : Apart xs C W T K) :
    Calls Tryz.prog 21 #[.pointer (some ⟨C, 0, none⟩), .slice (some ⟨G, 0, none⟩) t c, .slice q k c2] w fun e w' => e = .returned (.int .i64 0) ∧ Rws w' 35 5 .u8 G (encTo k 0 n (updP k m 0 n (xs.map Pc.d) fs) xs m) r0 ∧ Chg (InB xs) w w' := by
  have HV := hid (fun w h1 h2 h3 => UpdateSpan_calls fast C k m r W T K n c c2 t 0 n G xs q fs r0 w h1 h2 ht hd hbt h3 hfr hd.pos ⟨by omega, by omega, by omega, hd.even⟩ htc hap)
  have HWH := hid (fresh_none C k m r W T K n c c2 t fast (some ⟨G, 0, none⟩) q (xs.map Pc.d) fs w hc hR.lr ht hd hf hfr)
  unfold FreshPost at HWH
  have HC := hid hc
  have HR := hid hR
  have HF := hid hf
  clear hc hR ht hd hbt hap hf hfr
  unfold spanV at HV
  go_enter Tryz.func21, Tryz.ntmps21
  go_wp2_with fail
  refine HWH.out.mono ?_
  rintro e w2 ⟨v2, rfl, _, hC2⟩
  have HC2 := hid hC2
  clear hC2 HWH
  go_wp2_with fail
  refine (HV.out _ (HC.out.keptNo HC2.out) (HR.out.keptNo HC2.out) (HF.out.keptNo HC2.out)).mono ?_
  rintro e w3 ⟨rfl, hR3, hC3⟩
  have HC3 : Hid (Chg (InB xs) w w3) := hid ((show Chg (InB xs) w w2 from HC2.out.no).trans hC3)
  have HR3 := hid hR3
  clear hC3 hR3
  go_wp2_with fail
  go_ret
  exact ⟨rfl, HR3.out, HC3.out⟩
end Go.Proofs.YtpnmmedjamkmeaaGreat

/- all, as a reader. -/
set_option linter.unusedSimpArgs false
set_option linter.unusedVariables false
set_option linter.unusedSimpArgs false
namespace Go.Proofs.YtpnmmedjamkmeaaGreat
open Go.RowKit

theorem all_q (p q : Option Addr) (n m c d : Nat) (a b : List (List Nat)) (w : World) (ha : Lr w .u8 p a) (hb : Lr w .u8 q b) (hn : a.length = n) (hm : b.length = m) (hx : n ≤ maxLen) :
    Calls Tryz.prog 12 #[.slice p n c, .slice q m d] w fun e w' => e = .returned (.bool (decide (a = b))) ∧ ∃ N, w' = w.drewN N := by
  unfold maxLen at hx
  have HA := hid hn
  have HB := hid hm
  by_cases hl : n = m
  · have ht : ((n : Int) != (m : Int)) = false := by rw [hl]; simp
    have HL := hid hl
    clear hl hn hm
    go_enter Tryz.func12, Tryz.ntmps12
    go_wp2_with fail
    go_loopw [13] (fun i wr => ∃ k : Nat, k ≤ n ∧ i = .int .i64 (k : Int) ∧ (∀ j, j < k → gl a j = gl b j) ∧ ∃ N, wr = w.drewN N) (fun i _ => n - (intOf i).toNat)
    case atStart => exact ⟨0, by omega, rfl, fun j h => by omega, 0, rfl⟩
    case round =>
      obtain ⟨k, hk, rfl, hs, N, hN⟩ := hrel
      obtain ⟨w1, rfl⟩ : ∃ w1 : World, w1 = wr := ⟨_, rfl⟩
      have hC : Chg No w w1 := by rw [hN]; exact (Chg.refl _ _).drewN _
      have HN := hid hN
      clear hN
      have HS := hid hs
      clear hs
      by_cases hlt : k < n
      · obtain ⟨b1, o1, q1, c1, rfl, hc1, hr1, hl1, _⟩ := (ha.keptNo hC) k (by rw [HA.out]; exact hlt)
        obtain ⟨b2, o2, q2, c2, rfl, hc2, hr2, hl2, _⟩ := (hb.keptNo hC) k (by rw [HB.out, ← HL.out]; exact hlt)
        have hlt2 : (k : Int) < (m : Int) := by rw [← HL.out]; omega
        have HE := hid (fun w h1 h2 => equal_calls q1 q2 _ _ c1 c2 (gl a k) (gl b k) w h1 h2 rfl rfl (by unfold maxLen; omega))
        have HR1 := hid hr1
        have HR2 := hid hr2
        have HC := hid hC
        have HAB : Hid (gl a k ≠ gl b k → decide (a = b) = false) := hid (by
          intro hne
          simp only [decide_eq_false_iff_not]; intro h; subst h; exact hne rfl)
        clear hr1 hr2 hC
        obtain ⟨x, hx'⟩ : ∃ x, x = gl a k := ⟨_, rfl⟩
        obtain ⟨y, hy'⟩ : ∃ y, y = gl b k := ⟨_, rfl⟩
        rw [← hx', ← hy'] at HE HAB
        rw [← hx'] at HR1
        rw [← hy'] at HR2
        rw [← hx'] at hc1 hl1
        rw [← hy'] at hc2 hl2
        have HX := hid hx'
        have HY := hid hy'
        clear hx' hy'
        by_cases hxy : x = y
        · have hd : decide (x = y) = true := by simpa using hxy
          have HXY := hid hxy
          rw [hd] at HE
          clear hxy hd
          go_wp2_with fail
          go_quiet ((go_at_call 16; exact Calls.quiet_of (HE.out _ HR1.out HR2.out)))
          go_wp2_with fail
          go_roundw
          case rel => exact ⟨k + 1, by omega, by go_num, fun j h => by
            by_cases e : j = k
            · subst e; rw [← HX.out, ← HY.out]; exact HXY.out
            · exact HS.out j (by omega), N + nq, by rw [HN.out, World.drewN_drewN]⟩
          case measure => simp [intOf]; omega
        · have hd : decide (x = y) = false := by simpa using hxy
          have HE2 := hid (HAB.out hxy)
          rw [hd] at HE
          clear hxy hd
          go_wp2_with fail
          go_quiet ((go_at_call 16; exact Calls.quiet_of (HE.out _ HR1.out HR2.out)))
          go_wp2_with fail
          go_ret
          exact ⟨by rw [HE2.out]; rfl, N + nq, by rw [HN.out, World.drewN_drewN]⟩
      · obtain rfl : k = n := by omega
        have HE : Hid (decide (a = b) = true) := hid (by
          simp only [decide_eq_true_eq]; exact ext_gl (by rw [HA.out, HB.out, HL.out]) fun j hj => HS.out j (by rw [← HA.out]; exact hj))
        go_wp2_with fail
        go_ret
        exact ⟨by rw [HE.out]; rfl, N, HN.out⟩
  · have ht : ((n : Int) != (m : Int)) = true := by simp; omega
    have HE : Hid (decide (a = b) = false) := hid (by
      simp only [decide_eq_false_iff_not]; intro h; subst h; exact hl (hn.symm.trans hm))
    clear hl
    go_enter Tryz.func12, Tryz.ntmps12
    go_wp2_with fail
    go_ret
    exact ⟨by rw [HE.out]; rfl, 0, rfl⟩
end Go.Proofs.YtpnmmedjamkmeaaGreat
