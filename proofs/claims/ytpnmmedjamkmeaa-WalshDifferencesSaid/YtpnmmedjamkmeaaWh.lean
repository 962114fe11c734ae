/- The walk of walsh.logs. -/
import Derived.Test.YtpnmmedjamkmeaaWg
namespace Go.Proofs.Ytpnmmedjamkmeaa
open Go.RowKit

theorem Own.gw {w : World} {e : TypeId} {g : Nat} {xs ys rest rest' : List Value} (h : Own w e g xs rest) (h1 : xs ++ rest = ys ++ rest') : Own w e g ys rest' := by
  unfold Own at h ⊢; rw [← h1]; exact h

theorem two_pow_int (r : Nat) (h : r ≤ 16) : wrap64 ((2 : Int) ^ r) = ((2 ^ r : Nat) : Int) := by
  have hb : 2 ^ r ≤ 2 ^ 16 := Nat.pow_le_pow_right (by omega) h
  have e : ((2 : Int) ^ r) = ((2 ^ r : Nat) : Int) := by simp
  rw [e]
  generalize 2 ^ r = m at hb
  unfold wrap64; omega

set_option maxRecDepth 10000 in
set_option maxHeartbeats 4000000 in
theorem logs_calls (b r : Nat) (w : World) (hT : Tab w b) (hr : r ≤ 16) :
    Calls Try.prog 59 #[.pointer (some ⟨b, 0, none⟩), .int .i64 (r : Int)] w fun e w' => ∃ g, e = .returned (.slice (some ⟨g, 0, none⟩) (2 ^ r) (2 ^ r)) ∧ Own w' 32 g (nv .u16 (logList r)) [] ∧ w.heap.size ≤ g ∧ Chg No w w' := by
  have hb0 := TabAt.lt hT
  have hN0 : 1 ≤ 2 ^ r := Nat.one_le_two_pow
  have hN1 : 2 ^ r ≤ 65536 := Nat.pow_le_pow_right (by omega) hr
  have hsh := two_pow_int r hr
  have HP := hid (fun (i : Nat) (h : i < r) => (show 2 * 2 ^ i ≤ 2 ^ r from by
    rw [← Nat.pow_succ']; exact Nat.pow_le_pow_right (by omega) h))
  have HL : Hid (logList r = logTo (2 ^ r) (2 ^ r)) := hid rfl
  have HE : Hid (∀ i, i = r → 2 ^ i = 2 ^ r) := hid (fun i h => by rw [h])
  generalize 2 ^ r = N at *
  have hr0 : (0 : Int) ≤ (r : Int) := by omega
  have hr1 : (r : Int) ≤ 16 := by omega
  have HS := hid hsh
  clear hsh
  have tokA : True := trivial
  go_enter Try.func59, Try.ntmps59
  go_wp2_with (first | (rw [HS.out]) | (at_make; (first
    | (have tok1 := tokA; go_must ((with_reducible refine wpList_mk1 32 (.int .u16 0) 2 N N ?_ ?_ ?_ ?_ ?_ ?_ ?_ ?_); exact ⟨rfl, rfl⟩; exact Try.underlying24; kernel_rfl; rfl; omega; omega; (unfold maxLen; omega); intro W1 hO1 hC1 hs1; clear tokA tok1; have tokB : True := trivial))
    | (have tok1 := tokB; go_must ((with_reducible refine wpList_mk1 32 (.int .u16 0) 2 1 N ?_ ?_ ?_ ?_ ?_ ?_ ?_ ?_); exact ⟨rfl, rfl⟩; exact Try.underlying24; kernel_rfl; rfl; omega; omega; (unfold maxLen; omega); intro W2 hO2 hC2 hs2; clear tokB tok1)))))
  refine (Basis_calls _).mono ?_
  rintro e W3 ⟨gb, cap, rest, rfl, hB, hgb, hC3⟩
  have hO1' : Own W3 32 w.heap.size (nv .u16 (logTo N 1)) [] := by
    have := (hO1.keptNo hC2).keptNo hC3
    rw [logTo_one, nv_replicate]
    simpa using this
  have hO2' : Own W3 32 W1.heap.size (nv .u16 (els 1)) (List.replicate (N - 1) (.int .u16 0)) := hO2.keptNo hC3
  have hC : Chg No w W3 := (hC1.trans hC2).trans hC3
  have hg2 : w.heap.size < W1.heap.size := hs1
  have hg3 : W1.heap.size < gb := Nat.lt_of_lt_of_le hs2 hgb
  generalize W1.heap.size = g2 at *
  clear hO1 hO2 hC1 hC2 hC3 hs1 hs2 hgb
  have HB := hid hB
  have HO1 := hid hO1'
  clear hB hO1'
  go_wp2_with fail
  go_loopw [6, 22] (fun v i wr => ∃ k : Nat, k ≤ r ∧ i = .int .i64 (k : Int) ∧ v = .slice (some ⟨g2, 0, none⟩) (2 ^ k) N ∧ Own wr 32 g2 (nv .u16 (els (2 ^ k))) (List.replicate (N - 2 ^ k) (.int .u16 0)) ∧ Chg (Only g2) W3 wr) (fun _ i _ => r - (intOf i).toNat)
  case atStart => exact ⟨0, by omega, rfl, rfl, hO2', Chg.refl _ _⟩
  case round =>
    obtain ⟨k, hk, rfl, rfl, hO2, hC2⟩ := hrel
    clear hO2'
    obtain ⟨w4, rfl⟩ : ∃ w4 : World, w4 = wr := ⟨_, rfl⟩
    by_cases hlt : k < r
    · have hM := HP.out k hlt
      have HT := hid (fun j (h : j < 2 ^ k) => el_top (i := k) h (by omega))
      have hS2 := two_pow_int k (by omega)
      have hM0 : 1 ≤ 2 ^ k := Nat.one_le_two_pow
      have HM : Hid (2 ^ (k + 1) = 2 * 2 ^ k) := hid (by rw [Nat.pow_succ]; omega)
      generalize 2 ^ k = M at *
      have HS2 := hid hS2
      clear hS2
      have hbc := (HB.out.kept hC2 (by simp [Only]; omega)).nat (i := k) (by simp [basisList]; omega)
      have hgn : gn basisList k = bas k := rfl
      have HGN := hid hgn
      rw [hgn] at hbc
      have hbl := bas_lt k
      clear hgn
      generalize bas k = bk at *
      go_wp2_with (rw [HS2.out])
      go_loopw [6, 30] (fun v i wr => ∃ j : Nat, j ≤ M ∧ i = .int .i64 (j : Int) ∧ v = .slice (some ⟨g2, 0, none⟩) (M + j) N ∧ Own wr 32 g2 (nv .u16 (els (M + j))) (List.replicate (N - (M + j)) (.int .u16 0)) ∧ Chg (Only g2) W3 wr) (fun _ i _ => M - (intOf i).toNat)
      case atStart => exact ⟨0, by omega, rfl, rfl, hO2, hC2⟩
      case round =>
        obtain ⟨j, hj, rfl, rfl, hO3, hC3⟩ := hrel
        clear hO2 hC2
        obtain ⟨w5, rfl⟩ : ∃ w5 : World, w5 = wr := ⟨_, rfl⟩
        by_cases hjl : j < M
        · have hcj := hO3.nat (i := j) (by rw [els_length]; omega)
          rw [gn_els _ _ (by omega)] at hcj
          have hel := HT.out j hjl
          have hes := els_succ (M + j)
          rw [hel] at hes
          have hlx := el_lt j
          have hbc5 := (HB.out.kept hC3 (by simp [Only]; omega)).nat (i := k) (by simp [basisList]; omega)
          have HC3 := hid hC3
          have HES := hid hes
          clear hel hes hC3 hbc
          generalize el j = x at *
          have hxor := Go.u16_xor_nat x bk hlx hbl
          have gnb : gn basisList k = bk := HGN.out
          rw [gnb] at hbc5
          clear gnb
          have HO3 := hid hO3
          clear hO3
          go_wp2_with (at_builtin; go_must ((with_reducible refine wpList_appRoom (HO3.out.alloc (.cells #[.int .u16 ((x ^^^ bk : Nat) : Int)] 32)) ⟨w5.heap.size, 0, none⟩ [.int .u16 ((x ^^^ bk : Nat) : Int)] ?_ (M + j) N 1 1 ?_ ?_ ?_ ?_ ?_ ?_ ?_ ?_ ?_); exact (Own.lit1 w5 32 (.int .u16 ((x ^^^ bk : Nat) : Int))).addCell; exact ⟨rfl, rfl⟩; (simp [els_length]); rfl; (simp; omega); (simp; omega); exact Try.underlying24; kernel_rfl; (intro u hu; simp at hu; subst hu; rfl); intro W6 hO6 hC6))
          have hO7 : Own W6 32 g2 (nv .u16 (els (M + (j + 1)))) (List.replicate (N - (M + (j + 1))) (.int .u16 0)) := by
            rw [show M + (j + 1) = M + j + 1 from rfl, HES.out]
            refine hO6.gw ?_
            rw [nv_append, List.drop_replicate, show N - (M + j) - 1 = N - (M + j + 1) from by omega]
            rfl
          have hC7 : Chg (Only g2) W3 W6 := HC3.out.allocOnly (.inl rfl) hC6
          go_roundw
          case rel => exact ⟨j + 1, by omega, by go_num, rfl, hO7, hC7⟩
          case measure => simp [intOf]; omega
        · obtain rfl : j = M := by omega
          have h2 : j + j = 2 * j := by omega
          rw [h2] at hO3 ⊢
          go_wp2_with fail
          go_roundw
          case rel => exact ⟨k + 1, by omega, by go_num, by rw [HM.out], by rw [HM.out]; exact hO3, hC3⟩
          case measure => simp [intOf]; omega
    · obtain rfl : k = r := by omega
      have hN := HE.out k rfl
      rw [hN] at hO2 ⊢
      have HO1b : Own w4 32 w.heap.size (nv .u16 (logTo N 1)) [] := HO1.out.kept hC2 (by simp [Only]; omega)
      have HCw : Chg No w w4 := hC.trans' (T := Only g2) hC2 (fun i hi e => by simp only [Only] at e; omega)
      have HTb : Tab w4 b := hT.keptNo HCw
      have HO2 := hid hO2
      clear hO2 hC2 HB HO1 HP HE hC hT hN
      go_wp2_with fail
      go_loopw [11] (fun i wr => ∃ j : Nat, 1 ≤ j ∧ j ≤ N ∧ i = .int .i64 (j : Int) ∧ Own wr 32 w.heap.size (nv .u16 (logTo N j)) [] ∧ Chg (Only w.heap.size) w4 wr) (fun i _ => N - (intOf i).toNat)
      case atStart => exact ⟨1, by omega, by omega, rfl, HO1b, Chg.refl _ _⟩
      case round =>
        obtain ⟨j, hj1, hj2, rfl, hO, hC⟩ := hrel
        clear HO1b
        obtain ⟨w5, rfl⟩ : ∃ w5 : World, w5 = wr := ⟨_, rfl⟩
        have hOw := HO2.out.kept hC (by simp [Only]; omega)
        by_cases hjl : j < N
        · have hT5 : Tab w5 b := TabAt.kept HTb hC (by simp [Only]; omega)
          have hcj := hOw.nat (i := j) (by rw [els_length]; exact hjl)
          rw [gn_els _ _ hjl] at hcj
          have hst := logTo_set N j hjl hj1
          have hlx := el_lt j
          have HST := hid hst
          have HO := hid hO
          have HC := hid hC
          have HT5 := hid hT5
          clear hst hO hC hT5 hOw
          generalize el j = x at *
          have hlz := lgz_lt x
          go_wp2_with fail
          refine (Log_any b x _ HT5.out hlx).mono ?_
          rintro e w6 ⟨er, rfl, hC6⟩
          have hO6 := HO.out.keptNo hC6
          have hC7 : Chg (Only w.heap.size) w4 w6 := HC.out.transNo hC6
          have hold := hO6.nat (i := j) (by rw [logTo_length]; exact hjl)
          have hf := hO6.frozen j
          have HO6 := hid hO6
          clear hC6 hO6
          go_wp2_with fail
          go_roundw
          case rel => exact ⟨j + 1, by omega, by omega, by go_num, by rw [← HST.out]; exact HO6.out.setNat (by rw [logTo_length]; exact hjl) _, hC7.setOnly _ _⟩
          case measure => simp [intOf]; omega
        · obtain rfl : j = N := by omega
          go_wp2_with fail
          go_ret
          exact ⟨w.heap.size, rfl, by rw [HL.out]; exact hO, Nat.le_refl _, HCw.trans' (T := Only w.heap.size) hC (fun i hi e => by simp only [Only] at e; omega)⟩
end Go.Proofs.Ytpnmmedjamkmeaa
