/- The walk of the law WalshDifferences: rising lost indices. -/
import Derived.Test.YtpnmmedjamkmeaaWo
set_option linter.unusedVariables false
set_option linter.unusedSimpArgs false
namespace Go.Proofs.Ytpnmmedjamkmeaa
open Go.RowKit

theorem shr_int (r : Nat) (h : r ≤ 16) : (4194304 : Int) / 2 ^ r = ((4194304 / 2 ^ r : Nat) : Int) := by simp

theorem Exp_qn (b z : Nat) (hz : z < 65535) (w : World) (hT : Tab w b) :
    Calls Try.prog 12 #[.pointer (some ⟨b, 0, none⟩), .int .i64 (z : Int)] w fun e w' => e = .returned (.int .u16 (ex z : Int)) ∧ ∃ m, w' = w.drewN m := by
  have := Exp_q b (z : Int) w hT
  rwa [rs_nat z hz] at this

set_option maxRecDepth 100000 in
set_option maxHeartbeats 16000000 in
theorem law_good (p : Option Addr) (c : Nat) (l : List Int) (r : Nat) (w : World) (hl : Rd w .i64 p l) (hm : l.length * 8 ≤ 140737488355328) (hr : r ≤ 16) (hg : okAll l (2 ^ r)) :
    Calls Try.prog 3 #[.slice p l.length c, .int .i64 (r : Int)] w fun e w' => e = .returned (.bool true) ∧ Chg No w w' := by
  have HL := hid hl
  clear hl
  have h1 : decide ((r : Int) < 0) = false := by simp
  have h2 : decide (16 < (r : Int)) = false := by simp; omega
  have hr0 : (0 : Int) ≤ (r : Int) := by omega
  have hr1 : (r : Int) ≤ 16 := by omega
  have HS := hid (two_pow_int r hr)
  have HP := hid (fun g w (hO : Own w 3 g (iv .i64 l) []) => Products_calls r l.length (some ⟨g, 0, none⟩) l w hr hO.rd (by unfold maxLen; omega))
  have HLo := hid (fun g w (hO : Own w 3 g (iv .i64 l) []) => Locator_calls r l.length (some ⟨g, 0, none⟩) l w hr hO.rd (by unfold maxLen; omega))
  have HG := hid hg
  have HXL : Hid ((convd r (marks l (2 ^ r)) (logList r)).length = 2 ^ r) := hid (by rw [convd_length]; exact marksTo_length _ _ _)
  have HXS : Hid (∀ j, gn (convd r (marks l (2 ^ r)) (logList r)) j < 65535) := hid (fun j => backed_small _ _ _)
  have HXV : Hid (∀ i, i < 2 ^ r → wantTo l i l.length = ex (gn (convd r (marks l (2 ^ r)) (logList r)) i)) := hid (fun i hi => by
    rw [loc_value hr hg i hi, want_value hr hg i hi l.length (Nat.le_refl _)])
  clear hg
  unfold ProdPost at HP
  unfold LocPost at HLo
  have hN0 : 1 ≤ 2 ^ r := Nat.one_le_two_pow
  have hN1 : 2 ^ r ≤ 65536 := Nat.pow_le_pow_right (by omega) hr
  have HSR := hid (shr_int r hr)
  have hq : 4194304 / 2 ^ r ≤ 4194304 := Nat.div_le_self _ _
  generalize convd r (marks l (2 ^ r)) (logList r) = x at *
  generalize 4194304 / 2 ^ r = q at *
  generalize 2 ^ r = N at *
  go_enter Try.func3, Try.ntmps3
  go_wp2_with fail
  refine (fixed15_calls _).mono ?_
  rintro e w1 ⟨rfl, hC1⟩
  go_wp2_with fail
  refine (copiedInts_calls p c l w1 (HL.out.keptNo hC1) hm).mono ?_
  rintro e w2 ⟨rfl, hO2, hC2⟩
  have HO2 := hid hO2
  clear hO2
  go_wp2_with fail
  refine (HP.out _ _ HO2.out).mono ?_
  rintro e w3 hP
  rcases hP with ⟨hg, gp, rfl, hOp, hgp, hC3⟩ | ⟨hb, _⟩
  case inr => exact absurd HG.out hb
  have HOp := hid hOp
  have hC13 := (hC1.trans hC2).trans hC3
  clear hg HP hOp
  go_wp2_with fail
  refine (copiedInts_calls p c l w3 (HL.out.keptNo hC13) hm).mono ?_
  rintro e w4 ⟨rfl, hO4, hC4⟩
  have HO4 := hid hO4
  clear hO4
  go_wp2_with fail
  refine (HLo.out _ _ HO4.out).mono ?_
  rintro e w5 hP
  rcases hP with ⟨hg, gl, rfl, hOl, hgl, hC5⟩ | ⟨hb, _⟩
  case inr => exact absurd HG.out hb
  have hC15 := (hC13.trans hC4).trans hC5
  have HL5 := hid (HL.out.keptNo hC15)
  have HOp5 := hid ((HOp.out.keptNo hC4).keptNo hC5)
  have HOl5 := hid hOl
  clear hg HLo HL hC1 hC2 hC3 hC13 hC4 hC5 HO2 HO4 hOl HOp hgp hgl
  go_wp2_with fail
  go_loopw [59] (fun i wr => ∃ k : Nat, k ≤ l.length ∧ i = .int .i64 (k : Int) ∧ wr = w5) (fun i _ => l.length - (intOf i).toNat)
  case atStart => exact ⟨0, by omega, rfl, rfl⟩
  case round =>
    obtain ⟨k, hk, rfl, rfl⟩ := hrel
    by_cases hlt : k < l.length
    · obtain ⟨bb, off, rfl, hcell⟩ := HL5.out k hlt
      have hok := HG.out k hlt
      have ht : decide (ga l k < 0) = false := by have := hok.1; simp; omega
      have ht2 : decide ((N : Int) ≤ ga l k) = false := by have := hok.2.1; simp; omega
      by_cases hk0 : k = 0
      · subst hk0
        rw [Nat.add_zero] at hcell
        clear hok
        go_wp2_with (rw [HS.out])
        go_roundw
        case rel => exact ⟨1, by omega, rfl, by first | rfl | trivial⟩
        case measure => simp [intOf]; omega
      · have ht3 : decide (0 < (k : Int)) = true := by simp; omega
        obtain ⟨k1, rfl⟩ : ∃ k1, k = k1 + 1 := ⟨k - 1, by omega⟩
        obtain ⟨bb', off', he, hcell'⟩ := HL5.out k1 (by omega)
        obtain ⟨rfl, rfl⟩ : bb = bb' ∧ off = off' := by simpa using he
        have ht4 : decide (ga l (k1 + 1) ≤ ga l k1) = false := by have := hok.2.2 (by omega); simp at this ⊢; omega
        clear he hk0 hok
        go_wp2_with (rw [HS.out])
        go_roundw
        case rel => exact ⟨k1 + 1 + 1, by omega, by go_num, by first | rfl | trivial⟩
        case measure => simp [intOf]; omega
    · obtain rfl : k = l.length := by omega
      have ht5 : ((N : Int) != (N : Int)) = false := by simp
      go_wp2_with (rw [HS.out])
      refine (New_calls _).mono ?_
      rintro e w6 ⟨rfl, hT6, hC6⟩
      have hC16 := hC15.trans hC6
      have HT6 := hid hT6
      clear hT6
      go_wp2_with fail
      refine (Exp_calls _ 1 _ HT6.out).mono ?_
      rintro e w7 ⟨he, hC7⟩
      have hrs : ex (rs 1) = 2 := by rw [show rs 1 = 1 from rfl]; decide
      rw [hrs] at he
      subst he
      clear hrs
      have hC17 := hC16.trans hC7
      by_cases hbig : q < l.length
      · have ht6 : decide (q < l.length) = true := by simpa using hbig
        go_wp2_with (rw [HSR.out])
        go_ret
        exact ⟨by first | rfl | simp, hC17⟩
      · have ht6 : decide (q < l.length) = false := by simpa using hbig
        go_wp2_with (rw [HSR.out])
        have HA : Hid (Tab w7 wr.heap.size ∧ Own w7 32 gp (nv .u16 (x.map ex)) [] ∧ Own w7 32 gl (nv .u16 x) [] ∧ Rd w7 .i64 p l) :=
          hid ⟨HT6.out.keptNo hC7, (HOp5.out.keptNo hC6).keptNo hC7, (HOl5.out.keptNo hC6).keptNo hC7, (HL5.out.keptNo hC6).keptNo hC7⟩
        generalize wr.heap.size = tb at *
        clear HT6 HOp5 HOl5 HL5 hC6 hC7 hC16 hC15 HS HSR hq hbig ht5 ht6
        go_loopw [12, 133] (fun v i wr => ∃ k : Nat, k ≤ N ∧ i = .int .i64 (k : Int) ∧ wr.ownsRow w7.heap.size 32 1 v k (nv .u16 (els k)) ∧ Chg No w7 wr) (fun _ i _ => N - (intOf i).toNat)
        case atStart => exact ⟨0, by omega, rfl, World.ownsRow_nil _ _ _ _, Chg.refl _ _⟩
        case round =>
          obtain ⟨k, hk, rfl, hR, hC⟩ := hrel
          have HR := hid hR
          clear hR
          by_cases hkN : k < N
          · go_wp2_with fail
            refine (Element_yes k (by omega) _).mono ?_
            rintro e w8 ⟨rfl, hC8⟩
            have hR8 := HR.out.kept (w' := w8) (row := none) ⟨hC8.os, hC8.tape, hC8.output, hC8.size, fun i hi _ => hC8.block i hi id⟩ (by
              cases hv : Value.ownBlock _
              · exact .inl rfl
              · exact .inr (by simp))
            have HR8 := hid hR8
            have hC9 := hC.trans hC8
            have HES := hid (els_succ k)
            have hel := el_lt k
            clear hR8 hC8 hC HR
            generalize el k = y at *
            go_wp2_with (at_builtin; go_must ((with_reducible refine wpList_app (HR8.out.alloc (.cells #[.int .u16 (y : Int)] 32)) ⟨w8.heap.size, 0, none⟩ [.int .u16 (y : Int)] ?_ (.int .u16 0) 1 1 2 ?_ ?_ ?_ ?_ ?_ ?_ ?_ ?_ ?_ ?_); exact (Own.lit1 w8 32 (.int .u16 (y : Int))).addCell; exact ⟨rfl, rfl⟩; rfl; exact Try.underlying24; kernel_rfl; rfl; (intro u hu; simp at hu; subst hu; rfl); (unfold maxLen; omega); omega; (have := hC9.size; simp; omega); intro v' W2 hR2 hG2))
            have hR3 : W2.ownsRow w7.heap.size 32 1 v' (k + 1) (nv .u16 (els (k + 1))) := by rw [HES.out, nv_append]; exact hR2
            have hC10 : Chg No w7 W2 := (hC9.alloc _).grown hG2 (fun i hi => .inr (HR8.out.lt i hi).1)
            go_roundw
            case rel => exact ⟨k + 1, by omega, by go_num, hR3, hC10⟩
            case measure => simp [intOf]; omega
          · obtain rfl : k = N := by omega
            rcases own_of_ownsRow HR.out with ⟨_, h0, _⟩ | ⟨gw, cap, rest, rfl, hbg, hOw, _, hcap, _⟩
            · exfalso; omega
            obtain ⟨w8, rfl⟩ : ∃ w8 : World, w8 = wr := ⟨_, rfl⟩
            have HB : Hid (Tab w8 tb ∧ Own w8 32 gp (nv .u16 (x.map ex)) [] ∧ Own w8 32 gl (nv .u16 x) [] ∧ Rd w8 .i64 p l ∧ Own w8 32 gw (nv .u16 (els k)) rest) :=
              hid ⟨HA.out.1.keptNo hC, HA.out.2.1.keptNo hC, HA.out.2.2.1.keptNo hC, HA.out.2.2.2.keptNo hC, hOw⟩
            have hC8 := hC17.trans hC
            clear HR HA hC hC17 hOw hbg
            go_wp2_with fail
            go_loopw [150] (fun i wr => ∃ j : Nat, j ≤ k ∧ i = .int .i64 (j : Int) ∧ Chg No w8 wr) (fun i _ => k - (intOf i).toNat)
            case atStart => exact ⟨0, by omega, rfl, Chg.refl _ _⟩
            case round =>
              obtain ⟨j, hj, rfl, hC9⟩ := hrel
              obtain ⟨w9, rfl⟩ : ∃ w9 : World, w9 = wr := ⟨_, rfl⟩
              by_cases hjk : j < k
              · go_wp2_with fail
                go_loopw [155, 17] (fun i v wr => ∃ m : Nat, m ≤ l.length ∧ i = .int .i64 (m : Int) ∧ v = .int .u16 (wantTo l j m : Int) ∧ Chg No w8 wr) (fun i _ _ => l.length - (intOf i).toNat)
                case atStart => exact ⟨0, by omega, rfl, rfl, hC9⟩
                case round =>
                  obtain ⟨m, hm', rfl, rfl, hC10⟩ := hrel
                  clear hC9
                  by_cases hml : m < l.length
                  · obtain ⟨bb, off, rfl, hcell⟩ := (HB.out.2.2.2.1.keptNo hC10) m hml
                    have hok := HG.out m hml
                    obtain ⟨e, he⟩ : ∃ e : Nat, ga l m = (e : Int) := ⟨(ga l m).toNat, by have := hok.1; omega⟩
                    have heN : e < k := by have := hok.2.1; omega
                    have hnx : wantTo l j (m + 1) = if ga l m = (j : Int) then wantTo l j m else tmul (wantTo l j m) (el j ^^^ el (ga l m).toNat) := rfl
                    rw [he, Int.toNat_natCast] at hnx
                    rw [he] at hcell
                    have HNX := hid hnx
                    clear hnx hok he
                    by_cases hej : e = j
                    · subst hej
                      have ht7 : ((e : Int) != (e : Int)) = false := by simp
                      have HE : Hid (wantTo l e (m + 1) = wantTo l e m) := hid (by rw [HNX.out, if_pos rfl])
                      go_wp2_with fail
                      go_roundw
                      case rel => exact ⟨m + 1, by omega, by go_num, by rw [HE.out], hC10⟩
                      case measure => simp [intOf]; omega
                    · have ht7 : ((e : Int) != (j : Int)) = true := by rw [bne_iff_ne]; omega
                      have ht8 : ((e : Int) == (j : Int)) = false := beq_eq_false_iff_ne.2 (by omega)
                      have HE : Hid (wantTo l j (m + 1) = tmul (wantTo l j m) (el j ^^^ el e)) := hid (by rw [HNX.out, if_neg (by omega)])
                      have hOw := HB.out.2.2.2.2.keptNo hC10
                      have hw1 := hOw.nat (i := j) (by rw [els_length]; omega)
                      have hw2 := hOw.nat (i := e) (by rw [els_length]; omega)
                      rw [gn_els _ _ (by omega)] at hw1 hw2
                      have hxor := Go.u16_xor_nat (el j) (el e) (el_lt j) (el_lt e)
                      have hM := fun n => Mul_q tb (wantTo l j m) (el j ^^^ el e) (wr.drewN n) (TabAt.kept HB.out.1 (hC10.drewN n) id) (wantTo_lt l j m) (xor_lt16 (el_lt j) (el_lt e))
                      have HM := hid hM
                      have hb1 := el_lt j
                      have hb2 := el_lt e
                      have hj0 : (0 : Int) ≤ (j : Int) := by omega
                      have hj1 : (j : Int) < (k : Int) := by omega
                      have he0 : (0 : Int) ≤ (e : Int) := by omega
                      have he1 : (e : Int) < (k : Int) := by omega
                      clear hM HNX hOw hej
                      generalize el j ^^^ el e = u at *
                      generalize el j = u1 at *
                      generalize el e = u2 at *
                      go_wp2_with fail
                      go_quiet ((go_at_call 14; exact Calls.quiet_of (HM.out _)))
                      go_wp2_with fail
                      go_roundw
                      case rel => exact ⟨m + 1, by omega, by go_num, by rw [HE.out], hC10.drewN _⟩
                      case measure => simp [intOf]; omega
                  · obtain rfl : m = l.length := by omega
                    rw [HXV.out j hjk]
                    have hp := (HB.out.2.1.keptNo hC10).nat (i := j) (by rw [List.length_map, HXL.out]; exact hjk)
                    rw [gn_map _ _ _ (by rw [HXL.out]; exact hjk)] at hp
                    have hlc := (HB.out.2.2.1.keptNo hC10).nat (i := j) (by rw [HXL.out]; exact hjk)
                    have hz := HXS.out j
                    have hM := fun n => Exp_qn tb (gn x j) hz (wr.drewN n) (TabAt.kept HB.out.1 (hC10.drewN n) id)
                    have HM := hid hM
                    have hj0 : (0 : Int) ≤ (j : Int) := by omega
                    have hj1 : (j : Int) < (k : Int) := by omega
                    have hexl := ex_lt (gn x j)
                    clear hM
                    generalize gn x j = z at *
                    have ht9 : ((z : Int) == 65535) = false := beq_eq_false_iff_ne.2 (by omega)
                    go_wp2_with fail
                    go_quiet ((go_at_call 12; exact Calls.quiet_of (HM.out _)))
                    go_wp2_with fail
                    go_roundw
                    case rel => exact ⟨j + 1, by omega, by go_num, hC10.drewN _⟩
                    case measure => simp [intOf]; omega
              · obtain rfl : j = k := by omega
                go_wp2_with fail
                go_ret
                exact ⟨by first | rfl | simp, hC8.trans hC9⟩
end Go.Proofs.Ytpnmmedjamkmeaa
