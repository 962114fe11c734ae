/- The walk of the law's polynomial. -/
import Derived.Test.YtpnmmedjamkmeaaTextbookG16
import Derived.Test.YtpnmmedjamkmeaaTextbookG11
import Derived.Test.YtpnmmedjamkmeaaTextbookG13
set_option linter.unusedSimpArgs false
set_option linter.unusedVariables false
set_option linter.unusedSimpArgs false
namespace Go.Proofs.Ytpnmmedjamkmeaa
open Go.RowKit

theorem nv_snoc (k : IntKind) (l : List Nat) (x : Nat) : nv k l ++ [.int k (x : Int)] = nv k (l ++ [x]) := by simp [nv]

set_option maxRecDepth 100000 in
set_option maxHeartbeats 12800000 in
theorem polynomial_calls (x n k c ll lc : Nat) (p q : Option Addr) (ds : List (List Nat)) (w : World) (hp : prm k (x : Int)) (hd : Ds k n ds) (hl : Lr w .u8 p ds) (hn2 : 2 ≤ n) :
    Calls Try.prog 24 #[dataV (x : Int) p q k c ll lc] w fun e w' => e = .returned (.bool true) ∧ Chg No w w' := by
  unfold dataV
  obtain ⟨b0, o0, q0, cc0, rfl, hd0, _, _⟩ := hl 0 (by rw [hd.lk]; exact hp.1)
  rw [hd.ln 0 hp.1, Nat.add_zero] at hd0
  obtain ⟨hk1, hm1, hk2, hm2, hk3⟩ := hp
  rw [Int.toNat_natCast] at hk3
  have hn4 := hd.small
  have HP := hid (show prm k (x : Int) from ⟨hk1, hm1, hk2, hm2, by rw [Int.toNat_natCast]; exact hk3⟩)
  have HD0 := hid hd0
  have HL := hid hl
  have HDS := hid hd
  have HLK := hid hd.lk
  have hmx := mu_le16 (m := x) (by omega)
  have HI1 := hid (fun t => @mu_iff x t)
  have HP1 := hid (show p2 x = 2 ^ mu x from rfl)
  have hR16 := mu_le16 hk3
  have HI2 := hid (fun t => @mu_iff (p2 x + k) t)
  have hple := le_p2 x
  have hRle := le_p2 (p2 x + k)
  have HP2 := hid (show p2 (p2 x + k) = 2 ^ mu (p2 x + k) from rfl)
  have HBK := hid (fun t j N (h1 : 2 * t < n) (h2 : j < x) (h3 : N = p2 (p2 x + k) - p2 x) => book (R := mu (p2 x + k)) HP.out h2 hd h1 rfl h3)
  have hkm : k + x ≤ 131072 := by omega
  have HCO := hid (fun w => codecs_calls k x HP.out w)
  unfold CodecsPost at HCO
  have hpp := p2_pos x
  have HPS := hid (fun i => ptl_succ x i)
  have HPD := hid (fun N (h : p2 x + N ≤ 65536) => ptl_dist h)
  generalize mu (p2 x + k) = R at *
  generalize mu x = r at *
  generalize p2 (p2 x + k) = SZ at *
  generalize p2 x = P at *
  have hP16 : P ≤ 65536 := by omega
  have hSZ : SZ ≤ 65536 := by
    rw [HP2.out]; exact Nat.le_trans (Nat.pow_le_pow_right (by omega) hR16) (by omega)
  obtain ⟨N, hN⟩ : ∃ N, N = SZ - P := ⟨_, rfl⟩
  have HN := hid hN
  have hPN : P + N = SZ := by omega
  have HPN := hid hPN
  have EN : (SZ : Int) - (P : Int) = (N : Int) := by omega
  obtain ⟨h, hh⟩ : ∃ h, n = 2 * h := ⟨n / 2, by have := HDS.out.even; omega⟩
  have EH : (n : Int) / 2 = (h : Int) := by omega
  have HH := hid hh
  have hN1 : 1 ≤ N := by omega
  clear hd0 hl hd hN hPN hh hk3
  go_enter Try.func24, Try.ntmps24
  go_wp2_with fail
  refine (Over16_calls _).mono ?_
  rintro e w1 ⟨rfl, hRg, hC1⟩
  have hS : Own (w.alloc (.cells #[.int .i64 (x : Int), .slice (some ⟨b0, o0, none⟩) k c, .slice q ll lc] 40)) 40 w.heap.size [.int .i64 (x : Int), .slice (some ⟨b0, o0, none⟩) k c, .slice q ll lc] [] := heap_alloc_new w _
  have hS1 := hS.keptNo hC1
  have hC : Chg No w w1 := ((Chg.refl No w).alloc _).trans hC1
  obtain ⟨R0, hR0⟩ : ∃ R0, R0 = (w.alloc (.cells #[.int .i64 (x : Int), .slice (some ⟨b0, o0, none⟩) k c, .slice q ll lc] 40)).heap.size := ⟨_, rfl⟩
  rw [← hR0] at hRg ⊢
  have s0 : w1.cell? ⟨w.heap.size, 0, none⟩ = some (.int .i64 (x : Int)) := hS1.cell (i := 0) (by simp)
  have s1 : w1.cell? ⟨w.heap.size, 1, none⟩ = some (.slice (some ⟨b0, o0, none⟩) k c) := hS1.cell (i := 1) (by simp)
  have HRG := hid hRg
  have HS := hid hS1
  have HC := hid hC
  generalize w.heap.size = D at *
  clear hS hS1 hC1 hC hRg hR0
  go_wp2_with fail
  go_quiet (fail)
  obtain ⟨w2, hw2⟩ : ∃ w2, w2 = w1.drewN nq := ⟨_, rfl⟩
  rw [← hw2]
  have hC2 : Chg No w1 w2 := by rw [hw2]; exact (Chg.refl _ _).drewN _
  have HC2 := hid (HC.out.trans hC2)
  have HS2 := hid (HS.out.keptNo hC2)
  have HRG2 := hid (HRG.out.keptNo hC2)
  clear hw2 hC2 s0 s1 HC HS HRG
  go_wp2_with fail
  go_loop [6] (fun v => ∃ t : Nat, t ≤ r ∧ v = .int .i64 ((2 ^ t : Nat) : Int)) (fun v => x - (intOf v).toNat)
  case atStart => exact ⟨0, by omega, rfl⟩
  case round =>
    obtain ⟨t, ht, rfl⟩ := hrel
    have hb : 2 ^ t ≤ 2 ^ 16 := Nat.pow_le_pow_right (by omega) (by omega)
    have HSU := hid (show 2 ^ (t + 1) = 2 ^ t * 2 from Nat.pow_succ 2 t)
    have hi := HI1.out t
    have h1 : 1 ≤ 2 ^ t := Nat.one_le_two_pow
    by_cases hlt : t < r
    · as_aux_lemma =>
      have hlt2 : 2 ^ t < x := by omega
      clear hi
      generalize 2 ^ t = b at *
      have d1 : decide (b < x) = true := by simp; omega
      have b0 : (0 : Int) ≤ (b : Int) := by omega
      have b1 : (b : Int) ≤ 65536 := by omega
      go_wp2_with fail
      go_round
      case rel => exact ⟨t + 1, by omega, by rw [HSU.out]; go_num⟩
      case measure => simp [intOf]; omega
    · obtain rfl : t = r := by omega
      have d1 : decide (2 ^ t < x) = false := by simp; omega
      rw [← HP1.out] at d1 ⊢
      clear hb HSU hi h1 ht hlt
      go_wp2_with fail
      go_loop [7] (fun v => ∃ t : Nat, t ≤ R ∧ v = .int .i64 ((2 ^ t : Nat) : Int)) (fun v => P + k - (intOf v).toNat)
      case atStart => exact ⟨0, by omega, rfl⟩
      case round =>
        obtain ⟨t2, ht, rfl⟩ := hrel
        have hb : 2 ^ t2 ≤ 2 ^ 16 := Nat.pow_le_pow_right (by omega) (by omega)
        have HSU := hid (show 2 ^ (t2 + 1) = 2 ^ t2 * 2 from Nat.pow_succ 2 t2)
        have hi := HI2.out t2
        have h1 : 1 ≤ 2 ^ t2 := Nat.one_le_two_pow
        by_cases hlt : t2 < R
        · as_aux_lemma =>
          have hlt2 : 2 ^ t2 < P + k := by omega
          clear hi
          generalize 2 ^ t2 = b at *
          have d0 : decide ((b : Int) < (P : Int) + (k : Int)) = true := by simp; omega
          have d2 : (b : Int) < (P : Int) + (k : Int) := by omega
          have b0 : (0 : Int) ≤ (b : Int) := by omega
          have b1 : (b : Int) ≤ 65536 := by omega
          go_wp2_with fail
          go_round
          case rel => exact ⟨t2 + 1, by omega, by rw [HSU.out]; go_num⟩
          case measure => simp [intOf]; omega
        · obtain rfl : t2 = R := by omega
          have d0 : decide (((2 ^ t2 : Nat) : Int) < (P : Int) + (k : Int)) = false := by simp only [decide_eq_false_iff_not]; omega
          have d2 : ¬ (((2 ^ t2 : Nat) : Int) < (P : Int) + (k : Int)) := by omega
          rw [← HP2.out] at d0 d2 ⊢
          clear hb HSU hi h1 ht hlt HI1 HI2 HP1 HP2
          by_cases hN2 : N ≤ 1024
          · as_aux_lemma =>
            have d3 : decide ((1024 : Int) < (N : Int)) = false := by simp; omega
            go_wp2_with fail
            refine (HCO.out _).mono ?_
            rintro e w7 ⟨G, C, W, T, K, rfl, hCs, hG, hC7⟩
            have HCS := hid hCs
            have HC7 := hid (HC2.out.trans hC7)
            have HS7 := hid (HS2.out.keptNo hC7)
            have HRG7 := hid (HRG2.out.keptNo hC7)
            clear hCs hG hC7 HC2 HS2 HRG2
            go_wp2_with fail
            go_loopw [51] (fun i wr => ∃ i' : Nat, i' ≤ 2 ∧ i = .int .i64 (i' : Int) ∧ Chg No w7 wr) (fun i _ => 2 - (intOf i).toNat)
            case atStart => exact ⟨0, by omega, rfl, Chg.refl _ _⟩
            case round =>
              obtain ⟨ci, hci, rfl, hC8⟩ := hrel
              obtain ⟨w8, rfl⟩ : ∃ w8 : World, w8 = wr := ⟨_, rfl⟩
              have HC8 := hid hC8
              clear hC8
              by_cases hil : ci < 2
              · as_aux_lemma =>
                obtain ⟨f, hf⟩ : ∃ f : Bool, w8.cell? ⟨G, ci, none⟩ = some (.pointer (some ⟨C f, 0, none⟩)) := by
                  have ho := HCS.out.own.keptNo HC8.out
                  have : ci = 0 ∨ ci = 1 := by omega
                  rcases this with rfl | rfl
                  · exact ⟨false, ho.cell (i := 0) (by simp)⟩
                  · exact ⟨true, ho.cell (i := 1) (by simp)⟩
                have hcd := (HCS.out.cd f).keptNo HC8.out
                have s1 : w8.cell? ⟨D, 1, none⟩ = some (.slice (some ⟨b0, o0, none⟩) k c) := (HS7.out.keptNo HC8.out).cell (i := 1) (by simp)
                have HCW8 := hid (HC7.out.trans HC8.out)
                have HEN := hid (fun w h1 h2 => encoded_calls f (C f) k x (mu (p2 x + k)) (W f) (T f) (K f) n c (some ⟨b0, o0, none⟩) ds w h1 HDS.out h2)
                have HCD := hid hcd
                obtain ⟨tt, htt⟩ : ∃ tt, tt = k + x := ⟨_, rfl⟩
                have HTT := hid htt
                have htk : k < tt := by omega
                have htt2 : tt ≤ 131072 := by omega
                have hadd : (k : Int) + (x : Int) = (tt : Int) := by omega
                have hnt : ((tt : Int) != (tt : Int)) = false := by simp
                clear htt hcd
                unfold EncPost at HEN
                generalize C f = Cf at *
                generalize W f = Wf at *
                generalize T f = Tf at *
                generalize K f = Kf at *
                generalize mu (p2 x + k) = rr at *
                clear HCS
                go_wp2_with fail
                refine (HEN.out _ HCD.out (HL.out.keptNo HCW8.out)).mono ?_
                rintro e w9 ⟨v9, xs9, rfl, hR9, hx9, hC9⟩
                have hxl9 : xs9.length = tt := by
                  have := congrArg List.length hx9
                  rw [HTT.out]; simpa [HLK.out, par_length] using this
                obtain ⟨Gs, rs, rfl, hR9, hGs, hms, hbs⟩ := hR9.some (by omega)
                rw [hxl9] at hms ⊢
                obtain ⟨ct, hct⟩ : ∃ ct, ct = tt + rs.length := ⟨_, rfl⟩
                rw [← hct] at hms ⊢
                have hctk : tt ≤ ct := by omega
                have hLs := hR9.lr
                rw [hx9] at hLs
                have HLS := hid hLs
                have HC9 := hid (HC8.out.trans hC9)
                have HCW9 := hid (HCW8.out.trans hC9)
                clear hR9 hx9 hC9 hGs hbs hxl9 hct hf s1 hLs HEN HCD
                go_wp2_with fail
                go_loopw [11] (fun i wr => ∃ t : Nat, t ≤ h ∧ i = .int .i64 (t : Int) ∧ Chg No w9 wr) (fun i _ => h - (intOf i).toNat)
                case atStart => exact ⟨0, by omega, rfl, Chg.refl _ _⟩
                case round =>
                  obtain ⟨t, ht, rfl, hC10⟩ := hrel
                  obtain ⟨w10, rfl⟩ : ∃ w10 : World, w10 = wr := ⟨_, rfl⟩
                  have HC10 := hid (HC9.out.trans hC10)
                  have HCW10 := hid (HCW9.out.trans hC10)
                  have HCE := hid hC10
                  have s1 : w10.cell? ⟨D, 1, none⟩ = some (.slice (some ⟨b0, o0, none⟩) k c) := (HS7.out.keptNo HC10.out).cell (i := 1) (by simp)
                  have c0 := HCW10.out.cell HD0.out id
                  clear hC10
                  by_cases hth : t < h
                  · as_aux_lemma =>
                    have d4 : decide ((t : Int) < (h : Int)) = true := by simp; omega
                    have HBT := hid (fun j (h1 : j < x) => HBK.out t j N (by have := HH.out; omega) h1 HN.out)
                    have HTWO := hid (TwoL.nils w10 32)
                    go_wp2_with fail
                    go_loopw [12, 13, 14] (fun v1 v2 i wr => ∃ i' : Nat, i' ≤ N ∧ i = .int .i64 (i' : Int) ∧ TwoL wr 32 w10.heap.size v1 v2 i' i' (nv .u16 (ptl x i')) (nv .u16 (vtl k t ds i')) ∧ Chg No w10 wr) (fun _ _ i _ => N - (intOf i).toNat)
                    case atStart => exact ⟨0, by omega, rfl, HTWO.out, Chg.refl _ _⟩
                    case round =>
                      clear HTWO s1 c0
                      obtain ⟨i, hi, rfl, hT, hC11⟩ := hrel
                      obtain ⟨w11, rfl⟩ : ∃ w11 : World, w11 = wr := ⟨_, rfl⟩
                      have HT := hid hT
                      have HC11 := hid hC11
                      clear hT hC11
                      by_cases hiN : i < N
                      · as_aux_lemma =>
                        have HEL := hid (Element_yes (P + i) (by have := HPN.out; omega))
                        have HA : Hid ((P : Int) + (i : Int) = ((P + i : Nat) : Int)) := hid (by show _ = _; omega)
                        have n1 : (i : Int) < (N : Int) := by omega
                        have HVS := hid (vtl_succ k t ds i)
                        by_cases hik : i < k
                        · as_aux_lemma =>
                          have hv : (if i < k then wdAt (gl ds i) t else 0) = wdAt (gl ds i) t := if_pos hik
                          rw [hv] at HVS
                          clear hv
                          have hiK : (i : Int) < (k : Int) := by omega
                          go_wp2_with fail
                          rw [HA.out]
                          refine (HEL.out _).mono ?_
                          rintro e w12 ⟨rfl, hC12⟩
                          have HC12 := hid (HC11.out.trans hC12)
                          have HT2 := hid (HT.out.keptNo hC12)
                          have HB12 := hid HC12.out.size
                          clear hC12 HEL HT HC11
                          go_wp2_with (first
                            | (at_builtin; (with_reducible refine wpList_appG (HT2.out.keptNo ((Chg.refl No w12).alloc (.cells #[.int .u16 (el (P + i) : Int)] 32))).o1 ⟨w12.heap.size, 0, none⟩ [.int .u16 (el (P + i) : Int)] ?_ (.int .u16 0) 1 1 2 ?_ ?_ ?_ ?_ ?_ ?_ ?_ ?_ ?_ ?_ ?_); exact (Own.lit1 w12 32 _).addCell; exact ⟨rfl, rfl⟩; rfl; exact Nat.one_pos; exact Try.underlying24; kernel_rfl; rfl; (intro u hu; simp at hu; subst hu; rfl); (unfold maxLen; omega); omega; (have := HB12.out; simp; omega); intro g1 r1 w13 hO13 hm13 hb13 hg13 hc13
                               have hT13 := (HT2.out.keptNo ((Chg.refl No w12).alloc (.cells #[.int .u16 (el (P + i) : Int)] 32))).grow1 (n := i + 1) (by simp) hO13 hm13 hb13 hg13 hc13
                               have hC13 : Chg No w10 w13 := Chg.own1 (HC12.out.alloc _) (HT2.out.keptNo ((Chg.refl No w12).alloc (.cells #[.int .u16 (el (P + i) : Int)] 32))).o1 (Nat.le_refl _) hc13
                               rw [nv_snoc, ← HPS.out] at hT13
                               have HT3 := hid hT13
                               have HC13 := hid hC13
                               have HB13 := hid hC13.size
                               clear hT13 hC13 hO13 hm13 hb13 hg13 hc13
                               have s1 : w13.cell? ⟨D, 1, none⟩ = some (.slice (some ⟨b0, o0, none⟩) k c) := (HS7.out.keptNo (HC10.out.trans HC13.out)).cell (i := 1) (by simp)
                               obtain ⟨b', o', q', c', he, hci8, hri, _, _⟩ := (HL.out.keptNo (HCW10.out.trans HC13.out)) i (by rw [HLK.out]; exact hik)
                               obtain ⟨rfl, rfl⟩ : b0 = b' ∧ o0 = o' := by simpa using he
                               rw [HDS.out.ln i hik] at hci8
                               have HWD := hid (Word_calls q' n c' t (gl ds i) w13 hri (HDS.out.ln i hik) hn4 (HDS.out.lb i) (by have := HH.out; omega))
                               obtain ⟨wv, hwv⟩ : ∃ wv, wv = wdAt (gl ds i) t := ⟨_, rfl⟩
                               rw [← hwv] at HWD HVS
                               clear he hri hwv))
                          go_wp2_with fail
                          refine HWD.out.mono ?_
                          rintro e w14 ⟨rfl, N', hN'⟩
                          have w14A : Hid (Chg No w13 w14) := hid (by rw [hN']; exact (Chg.refl _ _).drewN _)
                          have HB14 := hid (HC13.out.trans w14A.out).size
                          have HT3' := hid (HT3.out.keptNo w14A.out)
                          clear hN' s1 hci8 HWD
                          go_wp2_with (at_builtin; go_must ((with_reducible refine wpList_appG (HT3'.out.keptNo ((Chg.refl No w14).alloc (.cells #[.int .u16 (wv : Int)] 32))).o2 ⟨w14.heap.size, 0, none⟩ [.int .u16 (wv : Int)] ?_ (.int .u16 0) 1 1 2 ?_ ?_ ?_ ?_ ?_ ?_ ?_ ?_ ?_ ?_ ?_); exact (Own.lit1 w14 32 _).addCell; exact ⟨rfl, rfl⟩; rfl; exact Nat.one_pos; exact Try.underlying24; kernel_rfl; rfl; (intro u hu; simp at hu; subst hu; rfl); (unfold maxLen; omega); omega; (have := HB14.out; simp; omega); intro g2 r2 w15 hO15 hm15 hb15 hg15 hc15))
                          have hT15 := (HT3.out.keptNo (w14A.out.alloc (.cells #[.int .u16 (wv : Int)] 32))).grow2 (n := i + 1) (by simp) hO15 hm15 hb15 hg15 hc15
                          have hC15 : Chg No w10 w15 := Chg.own1 ((HC13.out.trans w14A.out).alloc _) (HT3.out.keptNo (w14A.out.alloc (.cells #[.int .u16 (wv : Int)] 32))).o2 (Nat.le_refl _) hc15
                          rw [nv_snoc, ← HVS.out] at hT15
                          have HT15 := hid hT15
                          have HC15 := hid hC15
                          clear hT15 hC15 hO15 hm15 hb15 hg15 hc15
                          go_wp2_with fail
                          go_roundw
                          case rel => exact ⟨i + 1, by omega, by go_num, HT15.out, HC15.out⟩
                          case measure => simp [intOf]; omega
                        · as_aux_lemma =>
                          have hv : (if i < k then wdAt (gl ds i) t else 0) = 0 := if_neg hik
                          rw [hv] at HVS
                          clear hv
                          have hiK : ¬ ((i : Int) < (k : Int)) := by omega
                          go_wp2_with fail
                          rw [HA.out]
                          refine (HEL.out _).mono ?_
                          rintro e w12 ⟨rfl, hC12⟩
                          have HC12 := hid (HC11.out.trans hC12)
                          have HT2 := hid (HT.out.keptNo hC12)
                          have HB12 := hid HC12.out.size
                          clear hC12 HEL HT HC11
                          go_wp2_with (first
                            | (at_builtin; (with_reducible refine wpList_appG (HT3.out.keptNo ((Chg.refl No w13).alloc (.cells #[.int .u16 0] 32))).o2 ⟨w13.heap.size, 0, none⟩ [.int .u16 0] ?_ (.int .u16 0) 1 1 2 ?_ ?_ ?_ ?_ ?_ ?_ ?_ ?_ ?_ ?_ ?_); exact (Own.lit1 w13 32 _).addCell; exact ⟨rfl, rfl⟩; rfl; exact Nat.one_pos; exact Try.underlying24; kernel_rfl; rfl; (intro u hu; simp at hu; subst hu; rfl); (unfold maxLen; omega); omega; (have := HB13.out; simp; omega); intro g2 r2 w15 hO15 hm15 hb15 hg15 hc15)
                            | (at_builtin; (with_reducible refine wpList_appG (HT2.out.keptNo ((Chg.refl No w12).alloc (.cells #[.int .u16 (el (P + i) : Int)] 32))).o1 ⟨w12.heap.size, 0, none⟩ [.int .u16 (el (P + i) : Int)] ?_ (.int .u16 0) 1 1 2 ?_ ?_ ?_ ?_ ?_ ?_ ?_ ?_ ?_ ?_ ?_); exact (Own.lit1 w12 32 _).addCell; exact ⟨rfl, rfl⟩; rfl; exact Nat.one_pos; exact Try.underlying24; kernel_rfl; rfl; (intro u hu; simp at hu; subst hu; rfl); (unfold maxLen; omega); omega; (have := HB12.out; simp; omega); intro g1 r1 w13 hO13 hm13 hb13 hg13 hc13
                               have hT13 := (HT2.out.keptNo ((Chg.refl No w12).alloc (.cells #[.int .u16 (el (P + i) : Int)] 32))).grow1 (n := i + 1) (by simp) hO13 hm13 hb13 hg13 hc13
                               have hC13 : Chg No w10 w13 := Chg.own1 (HC12.out.alloc _) (HT2.out.keptNo ((Chg.refl No w12).alloc (.cells #[.int .u16 (el (P + i) : Int)] 32))).o1 (Nat.le_refl _) hc13
                               rw [nv_snoc, ← HPS.out] at hT13
                               have HT3 := hid hT13
                               have HC13 := hid hC13
                               have HB13 := hid hC13.size
                               clear hT13 hC13 hO13 hm13 hb13 hg13 hc13))
                          have hT15 := (HT3.out.keptNo ((hid (Chg.refl No w13)).out.alloc (.cells #[.int .u16 0] 32))).grow2 (n := i + 1) (by simp) hO15 hm15 hb15 hg15 hc15
                          have hC15 : Chg No w10 w15 := Chg.own1 ((HC13.out.trans (hid (Chg.refl No w13)).out).alloc _) (HT3.out.keptNo ((hid (Chg.refl No w13)).out.alloc (.cells #[.int .u16 0] 32))).o2 (Nat.le_refl _) hc15
                          rw [show (Value.int .u16 0 : Value) = .int .u16 ((0 : Nat) : Int) from rfl, nv_snoc, ← HVS.out] at hT15
                          have HT15 := hid hT15
                          have HC15 := hid hC15
                          clear hT15 hC15 hO15 hm15 hb15 hg15 hc15
                          go_wp2_with fail
                          go_roundw
                          case rel => exact ⟨i + 1, by omega, by go_num, HT15.out, HC15.out⟩
                          case measure => simp [intOf]; omega
                      · as_aux_lemma =>
                        have hie : i = N := by omega
                        have hT := HT.out
                        rw [hie] at hT
                        rcases own_of_ownsRow hT.o1 with ⟨_, h0, _⟩ | ⟨g1, cap1, r1, hv1, hg1, hO1, _, _, _⟩
                        · omega
                        rcases own_of_ownsRow hT.o2 with ⟨_, h0, _⟩ | ⟨g2, cap2, r2, hv2, hg2, hO2, _, _, _⟩
                        · omega
                        subst hv1 hv2
                        have hIP := Interpolate_calls R0 N cap1 cap2 (some ⟨g1, 0, none⟩) (some ⟨g2, 0, none⟩) (ptl x N) (vtl k t ds N) w11 (HRG7.out.keptNo (HC10.out.trans HC11.out)) hO1.rn hO2.rn (ptl_length _ _) (vtl_length _ _ _ _) hN1 hN2 (ptl_lt _ _) (vtl_lt HDS.out _ _) (HPD.out N (by have := HPN.out; omega))
                        unfold IntPost at hIP
                        have HIP := hid hIP
                        have n1 : ¬ ((i : Int) < (N : Int)) := by omega
                        clear hT hO1 hO2 hIP hie HT
                        go_wp2_with fail
                        refine HIP.out.mono ?_
                        rintro e w13 ⟨q13, z13, cap13, rfl, hT13, hRn13, hC13⟩
                        have HC13 := hid (HC11.out.trans hC13)
                        have HRN := hid hRn13
                        have HTR := hid hT13
                        have hzN : z13 ≤ N := by
                          have := hT13.1
                          rwa [show (nwt (ptl x N) (vtl k t ds N) N).length = N from hN_length _ _ _ _] at this
                        have HZL : Hid (((nwt (ptl x N) (vtl k t ds N) N).take z13).length = z13) := hid (by
                          rw [List.length_take, show (nwt (ptl x N) (vtl k t ds N) N).length = N from hN_length _ _ _ _]; omega)
                        have HZB : Hid (∀ i, gn ((nwt (ptl x N) (vtl k t ds N) N).take z13) i < 65536) := hid (fun i => by
                          by_cases h : i < z13
                          · rw [gn_take' _ _ _ h]; exact nwt_lt _ _ _ _
                          · rw [gn_out _ _ (by rw [HZL.out]; omega)]; omega)
                        clear hT13 hRn13 hC13 HIP n1
                        go_wp2_with fail
                        go_loopw [20] (fun i wr => ∃ j : Nat, j ≤ x ∧ i = .int .i64 (j : Int) ∧ Chg No w13 wr) (fun i _ => x - (intOf i).toNat)
                        case atStart => exact ⟨0, by omega, rfl, Chg.refl _ _⟩
                        case round =>
                          obtain ⟨j, hj, rfl, hC14⟩ := hrel
                          obtain ⟨w14, rfl⟩ : ∃ w14 : World, w14 = wr := ⟨_, rfl⟩
                          have HC14 := hid hC14
                          clear hC14
                          by_cases hjx : j < x
                          · as_aux_lemma =>
                            have HEL := hid (Element_yes j (by omega))
                            obtain ⟨kj, hkj⟩ : ∃ kj, kj = k + j := ⟨_, rfl⟩
                            have EKJ : (k : Int) + (j : Int) = (kj : Int) := by omega
                            have EKW : IntKind.i64.wrap ((k : Int) + (j : Int)) = (kj : Int) := by rw [IntWalk.i64_in _ (by omega)]; omega
                            have n2 : kj < tt := by have := HTT.out; omega
                            have n3 : (kj : Int) < (tt : Int) := by omega
                            have n4 : (j : Int) < (x : Int) := by omega
                            have HKJ := hid hkj
                            clear hkj
                            go_wp2_with fail
                            refine (HEL.out _).mono ?_
                            rintro e w15 ⟨rfl, hC15⟩
                            have HC15 := hid (HC14.out.trans hC15)
                            have hCall : Chg No w9 w15 := ((HCE.out.trans HC13.out).trans HC14.out).trans hC15
                            obtain ⟨bs, os, qs, cs, he, hcs, hrs, _, _⟩ := (HLS.out.keptNo hCall) kj (by rw [List.length_append, par_length, HLK.out, ← HTT.out]; exact n2)
                            obtain ⟨rfl, rfl⟩ : Gs = bs ∧ 0 = os := by simpa using he
                            have hgl : gl (ds ++ par k x n ds) kj = parTo x n ds j k := by
                              have := gl_app_hi (a := ds) (b := par k x n ds) j
                              rw [HLK.out, ← HKJ.out] at this
                              rw [this, gl_par _ _ _ _ _ hjx]
                            rw [hgl, parTo_length, Nat.zero_add] at hcs
                            rw [hgl] at hrs
                            have hev : evn ((nwt (ptl x N) (vtl k t ds N) N).take z13) (el j) = wdAt (parTo x n ds j k) t := by
                              rw [evn_trim HTR.out]; exact HBT.out j hjx
                            have hrn15 : Rn w15 .u16 q13 ((nwt (ptl x N) (vtl k t ds N) N).take z13) := HRN.out.keptNo (HC14.out.trans hC15)
                            have hrg15 : Rng w15 R0 := HRG7.out.keptNo (HC10.out.trans (HC13.out.trans (HC14.out.trans hC15)))
                            have hE := fun M => pEval_calls R0 z13 cap13 (el j) q13 ((nwt (ptl x N) (vtl k t ds N) N).take z13) (w15.drewN M) (hrg15.keptNo ((Chg.refl No w15).drewN M)) (hrn15.keptNo ((Chg.refl No w15).drewN M)) HZL.out (by omega) HZB.out (el_lt _)
                            have hW := fun M => Word_calls qs n cs t (parTo x n ds j k) (w15.drewN M) (hrs.keptNo ((Chg.refl No w15).drewN M)) (parTo_length _ _ _ _ _) hn4 (parTo_lt _ _ _ _ _) (by have := HH.out; omega)
                            rw [hev] at hE
                            obtain ⟨V, hV⟩ : ∃ V, V = wdAt (parTo x n ds j k) t := ⟨_, rfl⟩
                            rw [← hV] at hE hW
                            obtain ⟨ej, hej⟩ : ∃ ej, ej = el j := ⟨_, rfl⟩
                            rw [← hej] at hE ⊢
                            have HE := hid hE
                            have HW := hid hW
                            have hVV : ((V : Int) != (V : Int)) = false := by simp
                            clear hE hW hV hej hev hrn15 hrg15 he hrs hgl hCall hC15 HEL
                            go_wp2_with fail
                            go_quiet ((first | (go_at_call 44; with_reducible exact Calls.quiet_of (HE.out _)) | (go_at_call 42; with_reducible exact Calls.quiet_of (HW.out _))))
                            go_wp2_with fail
                            go_roundw
                            case rel => exact ⟨j + 1, by omega, by go_num, HC15.out.drewN _⟩
                            case measure => simp [intOf]; omega
                          · as_aux_lemma =>
                            have n4 : ¬ ((j : Int) < (x : Int)) := by omega
                            have HC16 := hid (HCE.out.trans (HC13.out.trans HC14.out))
                            go_wp2_with fail
                            go_roundw
                            case rel => exact ⟨t + 1, by omega, by go_num, HC16.out⟩
                            case measure => simp [intOf]; omega
                  · as_aux_lemma =>
                    have d4 : decide ((t : Int) < (h : Int)) = false := by simp; omega
                    have HC16 := hid HC10.out
                    go_wp2_with fail
                    go_roundw
                    case rel => exact ⟨ci + 1, by omega, by go_num, HC16.out⟩
                    case measure => simp [intOf]; omega
              · as_aux_lemma =>
                have hie : ¬ (ci < 2) := hil
                go_wp2_with fail
                refine (HCO.out _).mono ?_
                rintro e w9 ⟨G', C', W', T', K', rfl, _, _, hC9⟩
                have HC9 := hid hC9
                clear hC9
                go_wp2_with fail
                go_ret
                exact ⟨rfl, (HC7.out.trans HC8.out).trans HC9.out⟩
          · as_aux_lemma =>
            have d3 : decide ((1024 : Int) < (N : Int)) = true := by simp; omega
            go_wp2_with fail
            go_ret
            exact ⟨rfl, HC2.out⟩
end Go.Proofs.Ytpnmmedjamkmeaa
