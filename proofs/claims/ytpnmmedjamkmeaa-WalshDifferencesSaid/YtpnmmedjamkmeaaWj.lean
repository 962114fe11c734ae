/- Walks: walsh.Locator and Products; the law's own comparison; the transform of four numbers. -/
import Derived.Test.YtpnmmedjamkmeaaWi
namespace Go.Proofs.Ytpnmmedjamkmeaa
open Go.RowKit

set_option maxRecDepth 10000 in
theorem Locator_range (p : Option Addr) (n c : Nat) (r : Int) (w : World) (hr : r < 0 ∨ 16 < r) :
    Calls Try.prog 10 #[.slice p n c, .int .i64 r] w fun e w' => e = .returned (.tuple #[.slice none 0 0, .int .i64 7]) ∧ Chg No w w' := by
  go_enter Try.func10, Try.ntmps10
  go_wp2_with fail
  refine (New_calls _).mono ?_
  rintro e w1 ⟨rfl, hT, hC⟩
  go_wp2_with fail
  refine (locator_range _ _ _ _ _ _ hr).mono ?_
  rintro e w2 ⟨rfl, hC2⟩
  go_wp2_with fail
  go_ret2
  exact ⟨rfl, hC.trans hC2⟩

set_option maxRecDepth 10000 in
theorem Locator_calls (r c : Nat) (p : Option Addr) (l : List Int) (w : World) (hr : r ≤ 16) (hl : Rd w .i64 p l) (hm : l.length ≤ maxLen) :
    Calls Try.prog 10 #[.slice p l.length c, .int .i64 (r : Int)] w (LocPost r l w) := by
  have H := hid (fun b w hT hl => locator_calls b r c p l w hT hr hl hm)
  have HL := hid hl
  clear hl
  go_enter Try.func10, Try.ntmps10
  go_wp2_with fail
  refine (New_calls _).mono ?_
  rintro e w1 ⟨rfl, hT, hC⟩
  have HT := hid hT
  clear hT
  go_wp2_with fail
  refine (H.out w.heap.size w1 HT.out (HL.out.keptNo hC)).mono ?_
  rintro e w2 hP
  rcases hP with ⟨hg, g, rfl, hO, hge, hC2⟩ | ⟨hb, rfl, hC2⟩
  · have HO := hid hO
    have HG := hid hg
    clear hO hg
    go_wp2_with fail
    go_ret2
    exact .inl ⟨HG.out, g, rfl, HO.out, Nat.le_trans hC.size hge, hC.trans hC2⟩
  · have HB := hid hb
    clear hb
    go_wp2_with fail
    go_ret2
    exact .inr ⟨HB.out, rfl, hC.trans hC2⟩

/-- What walsh.Products comes to. -/
def ProdPost (r : Nat) (l : List Int) (w : World) (e : Ending) (w' : World) : Prop :=
  (okAll l (2 ^ r) ∧ ∃ g, e = .returned (.tuple #[.slice (some ⟨g, 0, none⟩) (2 ^ r) (2 ^ r), .int .i64 0]) ∧ Own w' 32 g (nv .u16 ((convd r (marks l (2 ^ r)) (logList r)).map ex)) [] ∧ w.heap.size ≤ g ∧ Chg No w w') ∨
  (¬ okAll l (2 ^ r) ∧ e = .returned (.tuple #[.slice none 0 0, .int .i64 31]) ∧ Chg No w w')

set_option maxRecDepth 10000 in
theorem Products_range (p : Option Addr) (n c : Nat) (r : Int) (w : World) (hr : r < 0 ∨ 16 < r) :
    Calls Try.prog 8 #[.slice p n c, .int .i64 r] w fun e w' => e = .returned (.tuple #[.slice none 0 0, .int .i64 7]) ∧ Chg No w w' := by
  go_enter Try.func8, Try.ntmps8
  go_wp2_with fail
  refine (New_calls _).mono ?_
  rintro e w1 ⟨rfl, hT, hC⟩
  go_wp2_with fail
  refine (locator_range _ _ _ _ _ _ hr).mono ?_
  rintro e w2 ⟨rfl, hC2⟩
  go_wp2_with fail
  go_ret2
  exact ⟨rfl, hC.trans hC2⟩

set_option maxRecDepth 10000 in
set_option maxHeartbeats 1600000 in
theorem Products_calls (r c : Nat) (p : Option Addr) (l : List Int) (w : World) (hr : r ≤ 16) (hl : Rd w .i64 p l) (hm : l.length ≤ maxLen) :
    Calls Try.prog 8 #[.slice p l.length c, .int .i64 (r : Int)] w (ProdPost r l w) := by
  have H := hid (fun b w hT hl => locator_calls b r c p l w hT hr hl hm)
  have HL := hid hl
  have hN1 : 2 ^ r ≤ 65536 := Nat.pow_le_pow_right (by omega) hr
  have HLN : Hid ((convd r (marks l (2 ^ r)) (logList r)).length = 2 ^ r) := hid (by rw [convd_length]; exact marksTo_length _ _ _)
  have HSM : Hid (∀ j, gn (convd r (marks l (2 ^ r)) (logList r)) j < 65535) := hid (fun j => backed_small _ _ _)
  unfold LocPost at H
  unfold ProdPost
  generalize convd r (marks l (2 ^ r)) (logList r) = x at *
  generalize 2 ^ r = N at *
  clear hl
  go_enter Try.func8, Try.ntmps8
  go_wp2_with fail
  refine (New_calls _).mono ?_
  rintro e w1 ⟨rfl, hT, hC⟩
  have HT := hid hT
  clear hT
  go_wp2_with fail
  refine (H.out w.heap.size w1 HT.out (HL.out.keptNo hC)).mono ?_
  rintro e w2 hP
  rcases hP with ⟨hg, g, rfl, hO, hge, hC2⟩ | ⟨hb, rfl, hC2⟩
  · have HG := hid hg
    have hC3 := hC.trans hC2
    have hgl : w.heap.size < g := by have := TabAt.lt HT.out; omega
    have HT2 := hid (HT.out.keptNo hC2)
    clear hg H HL HT hC hC2
    go_wp2_with fail
    go_loopw [24] (fun i wr => ∃ k : Nat, k ≤ N ∧ i = .int .i64 (k : Int) ∧ Own wr 32 g (nv .u16 (mapTo ex k x)) [] ∧ Chg (Only g) w2 wr) (fun i _ => N - (intOf i).toNat)
    case atStart => exact ⟨0, by omega, rfl, by rw [mapTo_zero]; exact hO, Chg.refl _ _⟩
    case round =>
      obtain ⟨k, hk, rfl, hO4, hC4⟩ := hrel
      clear hO
      by_cases hlt : k < N
      · have hcell := hO4.nat (i := k) (by rw [mapTo_length, HLN.out]; exact hlt)
        rw [gn_mapTo _ _ _ _ (by rw [HLN.out]; exact hlt), if_neg (by omega)] at hcell
        have hst := mapTo_set ex k x (by rw [HLN.out]; exact hlt)
        have hyb := HSM.out k
        have HST := hid hst
        have HT4 := hid (show Tab wr w.heap.size from TabAt.kept HT2.out hC4 (by simp [Only]; omega))
        have HO4 := hid hO4
        clear hst hO4
        generalize gn x k = y at *
        go_wp2_with fail
        refine (Exp_calls _ _ _ HT4.out).mono ?_
        rintro e w5 ⟨rfl, hC5⟩
        have hO5 := HO4.out.keptNo hC5
        have hC6 : Chg (Only g) w2 w5 := hC4.transNo hC5
        have hold := hO5.nat (i := k) (by rw [mapTo_length, HLN.out]; exact hlt)
        have hf := hO5.frozen k
        have HO5 := hid hO5
        rw [rs_nat y hyb]
        clear hO5 hC5
        go_wp2_with fail
        go_roundw
        case rel => exact ⟨k + 1, by omega, by go_num, by rw [← HST.out]; exact HO5.out.setNat (by rw [mapTo_length, HLN.out]; exact hlt) _, hC6.setOnly _ _⟩
        case measure => simp [intOf]; omega
      · obtain rfl : k = N := by omega
        have HF : Hid (mapTo ex k x = x.map ex) := hid (by rw [← HLN.out]; exact mapTo_full _ _)
        have HO4 := hid hO4
        clear hO4
        go_wp2_with fail
        go_ret2
        exact .inl ⟨HG.out, g, rfl, by rw [← HF.out]; exact HO4.out, by omega, hC3.trans' (T := Only g) hC4 (fun i hi e => by simp only [Only] at e; omega)⟩
  · have HB := hid hb
    clear hb
    go_wp2_with fail
    go_ret2
    exact .inr ⟨HB.out, rfl, hC.trans hC2⟩

set_option maxRecDepth 10000 in
/-- The law's comparison: the same numbers? -/
theorem same_calls (p q : Option Addr) (c d : Nat) (a b : List Int) (w : World) (ha : Rd w .u16 p a) (hb : Rd w .u16 q b) (hm : a.length ≤ maxLen) :
    Calls Try.prog 31 #[.slice p a.length c, .slice q b.length d] w fun e w' => e = .returned (.bool (decide (a = b))) ∧ Chg No w w' := by
  unfold maxLen at hm
  by_cases hl : a.length = b.length
  · have ht : ((a.length : Int) != (b.length : Int)) = false := by rw [hl]; simp
    have HL := hid hl
    clear hl
    go_enter Try.func31, Try.ntmps31
    go_wp2_with fail
    go_loopw [13] (fun i wr => ∃ k : Nat, k ≤ a.length ∧ i = .int .i64 (k : Int) ∧ (∀ j, j < k → ga a j = ga b j) ∧ Chg No w wr) (fun i _ => a.length - (intOf i).toNat)
    case atStart => exact ⟨0, by omega, rfl, fun j h => by omega, Chg.refl _ _⟩
    case round =>
      obtain ⟨k, hk, rfl, hs, hC⟩ := hrel
      have HS := hid hs
      clear hs
      by_cases hlt : k < a.length
      · obtain ⟨b1, o1, rfl, hc1⟩ := (ha.keptNo hC) k hlt
        obtain ⟨b2, o2, rfl, hc2⟩ := (hb.keptNo hC) k (by rw [← HL.out]; exact hlt)
        have hlt2 : (k : Int) < (b.length : Int) := by rw [← HL.out]; omega
        by_cases he : ga a k = ga b k
        · have ht2 : (ga a k != ga b k) = false := by simpa using he
          have HE := hid he
          clear he
          go_wp2_with fail
          go_quiet (fail)
          go_wp2_with fail
          go_roundw
          case rel => exact ⟨k + 1, by omega, by go_num, fun j h => by
            by_cases e : j = k
            · subst e; exact HE.out
            · exact HS.out j (by omega), hC.drewN _⟩
          case measure => simp [intOf]; omega
        · have ht2 : (ga a k != ga b k) = true := by simpa using he
          have ht3 : (ga a k == ga b k) = false := by simpa using he
          have HE : Hid (decide (a = b) = false) := hid (by
            simp only [decide_eq_false_iff_not]; intro h; subst h; exact he rfl)
          clear he
          go_wp2_with fail
          go_quiet (fail)
          go_wp2_with fail
          go_ret
          exact ⟨by rw [HE.out]; rfl, hC.drewN _⟩
      · obtain rfl : k = a.length := by omega
        have HE : Hid (decide (a = b) = true) := hid (by
          simp only [decide_eq_true_eq]; exact ext_ga HL.out fun j hj => HS.out j hj)
        go_wp2_with fail
        go_ret
        exact ⟨by rw [HE.out]; rfl, hC⟩
  · have ht : ((a.length : Int) != (b.length : Int)) = true := by simp; omega
    have HE : Hid (decide (a = b) = false) := hid (by
      simp only [decide_eq_false_iff_not]; intro h; subst h; exact hl rfl)
    clear hl
    go_enter Try.func31, Try.ntmps31
    go_wp2_with fail
    go_ret
    exact ⟨by rw [HE.out]; rfl, Chg.refl _ _⟩
end Go.Proofs.Ytpnmmedjamkmeaa
