/- The walk of culletref18.Copies. -/
import Derived.Laws.BytesArg
import Derived.Laws.Strings
import Derived.Test.YtpnmmedjamkmeaaGreatGivesG4
import Derived.Test.YtpnmmedjamkmeaaGreatGivesG1
import Derived.Test.YtpnmmedjamkmeaaGreatGivesG3
set_option linter.unusedVariables false
set_option linter.unusedSimpArgs false
namespace Go.Proofs.YtpnmmedjamkmeaaGreat
open Go.RowKit

/-- A copy's rows. -/
def CopyPost (base : Nat) (w : World) (ls : List (List Nat)) (e : Ending) (w' : World) : Prop :=
  ∃ v xs, e = .returned v ∧ RowsV w' 35 5 .u8 base v xs ∧ xs.map Pc.d = ls ∧ Chg No w w'

theorem emptyOwn (W : World) (e : TypeId) : Own (W.alloc (.cells #[] e)) e W.heap.size (nv .u8 []) [] := heap_alloc_new W _
theorem map_take_succ {ls : List (List Nat)} {xs : List Pc} {i : Nat} (h : xs.map Pc.d = ls.take i) (hi : i < ls.length) {x : Pc} (hx : x.d = gl ls i) : (xs ++ [x]).map Pc.d = ls.take (i + 1) := by
  rw [List.map_append, h, List.take_add_one, List.getElem?_eq_getElem hi, List.map_cons, List.map_nil, hx, gl_get _ _ hi]; rfl
theorem len_of_map {ls : List (List Nat)} {xs : List Pc} {i : Nat} (h : xs.map Pc.d = ls.take i) (hi : i ≤ ls.length) : xs.length = i := by
  have := congrArg List.length h
  rw [List.length_map, List.length_take] at this
  omega

set_option maxRecDepth 20000 in
set_option maxHeartbeats 1600000 in
theorem Copies_calls (p : Option Addr) (c n : Nat) (ls : List (List Nat)) (w : World) (hl : Lr w .u8 p ls) (hn : ls.length = n) (hm : n * 24 ≤ 140737488355328) :
    Calls Tryz.prog 13 #[.slice p n c] w (CopyPost w.heap.size w ls) := by
  unfold CopyPost
  have HL := hid hl
  have HN := hid hn
  clear hl hn
  go_enter Tryz.func13, Tryz.ntmps13
  go_wp2_with fail
  go_loopw [3, 8] (fun v i wr => ∃ (j : Nat) (xs : List Pc), j ≤ n ∧ i = .int .i64 (j : Int) ∧ RowsV wr 35 5 .u8 w.heap.size v xs ∧ xs.map Pc.d = ls.take j ∧ Chg No w wr) (fun _ i _ => n - (intOf i).toNat)
  case atStart => exact ⟨0, [], by omega, rfl, .inl ⟨rfl, rfl⟩, by simp, Chg.refl _ _⟩
  case round =>
    obtain ⟨j, xs, hj, rfl, hR, hx, hC⟩ := hrel
    obtain ⟨w1, rfl⟩ : ∃ w1 : World, w1 = wr := ⟨_, rfl⟩
    have HX := hid hx
    have HR := hid hR
    have HC := hid hC
    have hxl := len_of_map hx (by rw [HN.out]; exact hj)
    have HS := hid (show w.heap.size ≤ w1.heap.size from hC.size)
    clear hx hR hC
    by_cases hlt : j < n
    · obtain ⟨b, off, q, cc, rfl, hcell, hrn, hml, _⟩ := (HL.out.keptNo HC.out) j (by rw [HN.out]; exact hlt)
      have HI : Hid (j < ls.length) := hid (by rw [HN.out]; exact hlt)
      obtain ⟨l, hll⟩ : ∃ l, l = gl ls j := ⟨_, rfl⟩
      rw [← hll] at hcell hrn hml
      have HLL := hid hll
      have HRN := hid hrn
      clear hll hrn
      by_cases hl0 : l.length = 0
      · obtain rfl : l = [] := List.eq_nil_of_length_eq_zero hl0
        have hR2 := HR.out.keptNo ((Chg.refl No w1).alloc (.cells #[] 5))
        have hOe := emptyOwn w1 5
        have hC2 := HC.out.alloc (.cells #[] 5)
        have HOE := hid hOe
        have HR2 := hid hR2
        have HC2 := hid hC2
        have HSZ : Hid (w1.heap.size < (w1.alloc (.cells #[] 5)).heap.size) := hid (by simp)
        clear hOe hR2 hC2
        go_wp2_with (first
          | (at_builtin; (with_reducible refine wpList_appNone 5 (some ⟨w1.heap.size, 0, none⟩) q 0 0 cc ?_ (Nat.le_refl _) ?_ ?_ ?_); exact ⟨rfl, rfl⟩; exact Tryz.underlying35; kernel_rfl; generalize (w1.alloc (.cells #[] 5) : World) = w2 at *)
          | (at_builtin; go_must ((with_reducible refine wpList_app (HR2.out.keptNo ((Chg.refl No w2).alloc (.cells #[.slice (some ⟨w1.heap.size, 0, none⟩) 0 0] 35))).owns ⟨w2.heap.size, 0, none⟩ [.slice (some ⟨w1.heap.size, 0, none⟩) 0 0] ?_ (.slice none 0 0) 1 1 24 ?_ ?_ ?_ ?_ ?_ ?_ ?_ ?_ ?_ ?_); exact (Own.lit1 w2 35 _).addCell; exact ⟨rfl, rfl⟩; rfl; exact Tryz.underlying22; kernel_rfl; rfl; (intro u hu; simp at hu; subst hu; rfl); (rw [hxl]; unfold maxLen; omega); (rw [hxl]; omega); (have := HC2.out.size; simp; omega); intro v3 W3 hO3 hg3)))
        have hR3 : RowsV W3 35 5 .u8 w.heap.size v3 (xs ++ [⟨w1.heap.size, [], []⟩]) :=
          (HR2.out.keptNo ((Chg.refl No w2).alloc _)).snoc (by decide) (x := ⟨w1.heap.size, [], []⟩) (HOE.out.alloc _) HS.out
            (fun y hy => Nat.ne_of_lt (HR.out.lt y hy)) (by simp) hO3 hg3
        have hC3 : Chg No w W3 := (HR2.out.keptNo ((Chg.refl No w2).alloc _)).chg (HC2.out.alloc _) (Nat.le_refl _) hg3
        have hx3 := map_take_succ HX.out HI.out (x := ⟨w1.heap.size, [], []⟩) HLL.out
        clear hO3 hg3
        go_roundw
        case rel => exact ⟨j + 1, _, by omega, by go_num, hR3, hx3, hC3⟩
        case measure => simp [intOf]; omega
      · obtain ⟨b', off', rfl, _⟩ := HRN.out 0 (by omega)
        have HRC : Hid (∀ jj u, (nv .u8 l)[jj]? = some u → w1.cell? ((⟨b', off', none⟩ : Addr).add jj) = some u) := hid (by
          intro jj u hu
          have hadd : (⟨b', off', none⟩ : Addr).add jj = ⟨b', off' + jj, none⟩ := by unfold Addr.add; split <;> simp_all
          have hjl : jj < l.length := by
            have := (List.getElem?_eq_some_iff.1 hu).1
            simpa using this
          obtain ⟨b2, off2, he, hc2⟩ := HRN.out jj hjl
          obtain ⟨rfl, rfl⟩ : b' = b2 ∧ off' = off2 := by simpa using he
          rw [hadd, hc2, ← nv_get? _ _ _ hjl, hu])
        have HRA : Hid (∀ jj u, (nv .u8 l)[jj]? = some u → (w1.alloc (.cells #[] 5)).cell? ((⟨b', off', none⟩ : Addr).add jj) = some u) := hid (fun jj u hu =>
          ((Chg.refl No w1).alloc (.cells #[] 5)).cell (HRC.out jj u hu) id)
        have HER := hid (emptyRow w1 5)
        have hR2 := HR.out.keptNo ((Chg.refl No w1).alloc (.cells #[] 5))
        have hC2 := HC.out.alloc (.cells #[] 5)
        have HR2 := hid hR2
        have HC2 := hid hC2
        have HSZ : Hid (w1.heap.size ≤ (w1.alloc (.cells #[] 5)).heap.size) := hid (by simp)
        clear hR2 hC2
        go_wp2_with (first
          | (at_builtin; (with_reducible refine wpList_app HER.out ⟨b', off', none⟩ (nv .u8 l) ?_ (.int .u8 0) l.length cc 1 ?_ ?_ ?_ ?_ ?_ ?_ ?_ ?_ ?_ ?_); exact HRA.out; exact ⟨rfl, rfl⟩; exact nv_length _ _; exact Tryz.underlying35; kernel_rfl; rfl; exact nv_one; (unfold maxLen; omega); omega; exact HSZ.out; intro v2 W2 hO2 hg2
             rcases own_of_ownsRow hO2 with ⟨_, h0, _⟩ | ⟨g2, cap2, rest2, hv2, hb2, hOg, hlg, hcg, hmg⟩
             exact absurd h0 (by omega)
             subst hv2
             rw [List.nil_append] at hOg
             have hC12 : Chg No w1 W2 := ((Chg.refl No w1).alloc (.cells #[] 5)).grown hg2 (fun k hk => .inr (by simp only [Value.ownBlock, Option.some.injEq] at hk; omega))
             have HC12 := hid hC12
             have HR3 := hid (HR.out.keptNo hC12)
             have HB2 := hid hb2
             have HCG := hid hcg
             have HHG := hid hlg
             clear hg2 hC12 hb2 hcg hlg
             have HOG := hid hOg
             clear hO2 hOg)
          | (at_builtin; go_must ((with_reducible refine wpList_app (HR3.out.keptNo ((Chg.refl No W2).alloc (.cells #[.slice (some ⟨g2, 0, none⟩) l.length cap2] 35))).owns ⟨W2.heap.size, 0, none⟩ [.slice (some ⟨g2, 0, none⟩) l.length cap2] ?_ (.slice none 0 0) 1 1 24 ?_ ?_ ?_ ?_ ?_ ?_ ?_ ?_ ?_ ?_); exact (Own.lit1 W2 35 _).addCell; exact ⟨rfl, rfl⟩; rfl; exact Tryz.underlying22; kernel_rfl; rfl; (intro u hu; simp at hu; subst hu; rfl); (rw [hxl]; unfold maxLen; omega); (rw [hxl]; omega); (have := HC12.out.size; have := HS.out; simp; omega); intro v3 W3 hO3 hg3)))
        have hHL : l.length = 0 + l.length := by omega
        have hR4 : RowsV W3 35 5 .u8 w.heap.size v3 (xs ++ [⟨g2, l, rest2⟩]) :=
          (HR3.out.keptNo ((Chg.refl No W2).alloc _)).snoc (by decide) (x := ⟨g2, l, rest2⟩) (HOG.out.alloc _) (Nat.le_trans HS.out HB2.out)
            (fun y hy => Nat.ne_of_lt (Nat.lt_of_lt_of_le (HR.out.lt y hy) HB2.out)) hml (by
              have e : (⟨g2, l, rest2⟩ : Pc).v = .slice (some ⟨g2, 0, none⟩) l.length cap2 := by
                have := HCG.out
                simp only [Pc.v]; rw [← this, Nat.zero_add]
              rw [e]; exact hO3) hg3
        have hC3 : Chg No w W3 := (HR3.out.keptNo ((Chg.refl No W2).alloc _)).chg ((HC.out.trans HC12.out).alloc _) (Nat.le_refl _) hg3
        have hx3 := map_take_succ HX.out HI.out (x := ⟨g2, l, rest2⟩) HLL.out
        clear hO3 hg3
        go_roundw
        case rel => exact ⟨j + 1, _, by omega, by go_num, hR4, hx3, hC3⟩
        case measure => simp [intOf]; omega
    · obtain rfl : j = n := by omega
      have HX2 : Hid (xs.map Pc.d = ls) := hid (by have := HX.out; rwa [← HN.out, List.take_length] at this)
      go_wp2_with fail
      go_ret
      exact ⟨_, xs, rfl, HR.out, HX2.out, HC.out⟩
end Go.Proofs.YtpnmmedjamkmeaaGreat

/- Walks: parameters, powers of two, small tests. -/
set_option linter.unusedVariables false
set_option linter.unusedSimpArgs false
namespace Go.Proofs.YtpnmmedjamkmeaaGreat
open Go.RowKit

/-- The exponent of the least power of two that is m or more. -/
def mu (m : Nat) : Nat := blen (m - 1)
/-- The least power of two that is m or more. -/
def p2 (m : Nat) : Nat := 2 ^ mu m
theorem le_p2 (m : Nat) : m ≤ p2 m := by
  have := blen_lt (x := m - 1)
  unfold p2 mu; omega
theorem mu_le {m t : Nat} (h : m ≤ 2 ^ t) : mu m ≤ t := by
  unfold mu
  by_cases h0 : m = 0
  · subst h0; show blen 0 ≤ t; have : blen 0 = 0 := rfl; omega
  · exact blen_le (by omega)
theorem mu_iff {m t : Nat} : mu m ≤ t ↔ m ≤ 2 ^ t :=
  ⟨fun h => Nat.le_trans (le_p2 m) (Nat.pow_le_pow_right (by omega) h), mu_le⟩
theorem mu_le16 {m : Nat} (h : m ≤ 65536) : mu m ≤ 16 := mu_le (t := 16) (by omega)
theorem p2_le {m : Nat} (h : m ≤ 65536) : p2 m ≤ 65536 := by
  have : 2 ^ mu m ≤ 2 ^ 16 := Nat.pow_le_pow_right (by omega) (mu_le16 h)
  unfold p2; omega
theorem p2_pos (m : Nat) : 1 ≤ p2 m := Nat.one_le_two_pow
/-- Are there codes of k data and m parity shards? -/
def prm (k : Nat) (m : Int) : Prop := 1 ≤ k ∧ 1 ≤ m ∧ k ≤ 65536 ∧ m ≤ 65536 ∧ p2 m.toNat + k ≤ 65536
instance (k : Nat) (m : Int) : Decidable (prm k m) := by unfold prm; infer_instance

theorem pow2_calls (n : Nat) (hn : n ≤ 65536) (w : World) :
    Calls Tryz.prog 88 #[.int .i64 (n : Int)] w fun e w' => e = .returned (.int .i64 (p2 n : Int)) ∧ w' = w := by
  have hmu := mu_le16 hn
  have HI := hid (fun t => @mu_iff n t)
  have HP := hid (show p2 n = 2 ^ mu n from rfl)
  generalize mu n = e at *
  generalize p2 n = P at *
  go_enter Tryz.func88, Tryz.ntmps88
  go_wp2_with fail
  go_loopw [3] (fun p wr => ∃ t : Nat, t ≤ e ∧ p = .int .i64 ((2 ^ t : Nat) : Int) ∧ wr = w) (fun p _ => n - (intOf p).toNat)
  case atStart => exact ⟨0, by omega, rfl, rfl⟩
  case round =>
    obtain ⟨t, ht, rfl, rfl⟩ := hrel
    have hb : 2 ^ t ≤ 2 ^ 16 := Nat.pow_le_pow_right (by omega) (by omega)
    have HS := hid (show 2 ^ (t + 1) = 2 ^ t * 2 from Nat.pow_succ 2 t)
    have hi := HI.out t
    have h1 : 1 ≤ 2 ^ t := Nat.one_le_two_pow
    by_cases hlt : t < e
    · have d1 : decide (2 ^ t < n) = true := by simp; omega
      have hlt2 : 2 ^ t < n := by simpa using d1
      generalize 2 ^ t = b at *
      have b0 : (0 : Int) ≤ (b : Int) := by omega
      have b1 : (b : Int) ≤ 65536 := by omega
      go_wp2_with fail
      go_roundw
      case rel => exact ⟨t + 1, by omega, by rw [HS.out]; go_num, by first | rfl | trivial⟩
      case measure => simp [intOf]; omega
    · obtain rfl : t = e := by omega
      have d1 : decide (2 ^ t < n) = false := by simp; omega
      rw [← HP.out] at *
      go_wp2_with fail
      go_ret
      exact ⟨rfl, rfl⟩
theorem Pow2_yes (n : Nat) (h1 : 1 ≤ n) (hn : n ≤ 65536) (w : World) :
    Calls Tryz.prog 61 #[.int .i64 (n : Int)] w fun e w' => e = .returned (.tuple #[.int .i64 (p2 n : Int), .int .i64 0]) ∧ w' = w := by
  have H := hid (pow2_calls n hn w)
  go_enter Tryz.func61, Tryz.ntmps61
  go_wp2_with fail
  refine H.out.mono ?_
  rintro e w1 ⟨rfl, rfl⟩
  go_wp2_with fail
  go_ret2
  exact ⟨rfl, rfl⟩
theorem refPower_calls (n : Nat) (hn : n ≤ 65536) (w : World) :
    Calls Tryz.prog 38 #[.int .i64 (n : Int)] w fun e w' => e = .returned (.tuple #[.int .i64 (p2 n : Int), .int .i64 (mu n : Int)]) ∧ w' = w := by
  have hmu := mu_le16 hn
  have HI := hid (fun t => @mu_iff n t)
  have HP := hid (show p2 n = 2 ^ mu n from rfl)
  generalize mu n = e at *
  generalize p2 n = P at *
  go_enter Tryz.func38, Tryz.ntmps38
  go_wp2_with fail
  go_loopw [4, 5] (fun p i wr => ∃ t : Nat, t ≤ e ∧ p = .int .i64 ((2 ^ t : Nat) : Int) ∧ i = .int .i64 (t : Int) ∧ wr = w) (fun p _ _ => n - (intOf p).toNat)
  case atStart => exact ⟨0, by omega, rfl, rfl, rfl⟩
  case round =>
    obtain ⟨t, ht, rfl, rfl, rfl⟩ := hrel
    have hb : 2 ^ t ≤ 2 ^ 16 := Nat.pow_le_pow_right (by omega) (by omega)
    have HS := hid (show 2 ^ (t + 1) = 2 ^ t * 2 from Nat.pow_succ 2 t)
    have hi := HI.out t
    have h1 : 1 ≤ 2 ^ t := Nat.one_le_two_pow
    by_cases hlt : t < e
    · have d1 : decide (2 ^ t < n) = true := by simp; omega
      have hlt2 : 2 ^ t < n := by simpa using d1
      generalize 2 ^ t = b at *
      have b0 : (0 : Int) ≤ (b : Int) := by omega
      have b1 : (b : Int) ≤ 65536 := by omega
      go_wp2_with fail
      go_roundw
      case rel => exact ⟨t + 1, by omega, by rw [HS.out]; go_num, by go_num, by first | rfl | trivial⟩
      case measure => simp [intOf]; omega
    · obtain rfl : t = e := by omega
      have d1 : decide (2 ^ t < n) = false := by simp; omega
      rw [← HP.out] at *
      go_wp2_with fail
      go_ret2
      exact ⟨rfl, rfl⟩
theorem family2_calls (w : World) :
    Calls Tryz.prog 87 #[.int .i64 2] w fun e w' => e = .returned (.bool true) ∧ w' = w := by
  go_enter Tryz.func87, Tryz.ntmps87
  go_wp2_with fail
  go_ret
  exact ⟨rfl, rfl⟩
theorem Params_yes (k m : Nat) (h : prm k m) (w : World) :
    Calls Tryz.prog 58 #[.int .i64 2, .int .i64 (k : Int), .int .i64 (m : Int)] w fun e w' => e = .returned (.int .i64 0) ∧ w' = w := by
  have hp := hid (show Calls _ _ _ _ _ from pow2_calls m (by have := h.2.2.2.1; omega) w)
  obtain ⟨h1, h2, h3, h4, h5⟩ := h
  rw [Int.toNat_natCast] at h5
  have HF := hid (family2_calls w)
  have d1 : decide ((k : Int) < 1) = false := by simp; omega
  have d2 : decide ((m : Int) < 1) = false := by simp; omega
  have d3 : decide (65536 < (k : Int)) = false := by simp; omega
  have d4 : decide (65536 < (m : Int)) = false := by simp; omega
  generalize p2 m = P at *
  have d5 : decide (65536 < (k : Int) + (P : Int)) = false := by simp; omega
  go_enter Tryz.func58, Tryz.ntmps58
  go_wp2_with fail
  refine HF.out.mono ?_
  rintro e w1 ⟨rfl, rfl⟩
  go_wp2_with fail
  refine hp.out.mono ?_
  rintro e w1 ⟨rfl, rfl⟩
  go_wp2_with fail
  go_ret
  exact ⟨rfl, rfl⟩
theorem refParams_calls (k : Nat) (m : Int) (w : World) :
    Calls Tryz.prog 19 #[.int .i64 (k : Int), .int .i64 m] w fun e w' => e = .returned (.bool (decide (prm k m))) ∧ w' = w := by
  by_cases hr : 1 ≤ k ∧ 1 ≤ m ∧ k ≤ 65536 ∧ m ≤ 65536
  · obtain ⟨h1, h2, h3, h4⟩ := hr
    obtain ⟨n, rfl⟩ : ∃ n : Nat, m = n := ⟨m.toNat, by omega⟩
    have hp := hid (refPower_calls n (by omega) w)
    have HD : Hid (decide (prm k n) = decide ((p2 n : Int) + (k : Int) ≤ 65536)) := hid (by
      apply decide_eq_decide.2
      unfold prm
      rw [Int.toNat_natCast]
      constructor
      · intro h; omega
      · intro h; exact ⟨h1, h2, h3, h4, by omega⟩)
    have hP := p2_le (m := n) (by omega)
    generalize p2 n = P at *
    have d1 : decide ((k : Int) < 1) = false := by simp; omega
    have d2 : decide ((n : Int) < 1) = false := by simp; omega
    have d3 : decide (65536 < (k : Int)) = false := by simp; omega
    have d4 : decide (65536 < (n : Int)) = false := by simp; omega
    go_enter Tryz.func19, Tryz.ntmps19
    go_wp2_with fail
    refine hp.out.mono ?_
    rintro e w1 ⟨rfl, rfl⟩
    go_wp2_with fail
    go_ret
    exact ⟨by rw [HD.out]; rfl, rfl⟩
  · have HD : Hid (decide (prm k m) = false) := hid (by
      apply decide_eq_false
      rintro ⟨a, b, c, d, _⟩
      exact hr ⟨a, b, c, d⟩)
    have hx : (decide ((k : Int) < 1) || (decide (m < 1) || (decide (65536 < (k : Int)) || decide (65536 < m)))) = true := by
      simp only [Bool.or_eq_true, decide_eq_true_eq]; omega
    clear hr
    go_enter Tryz.func19, Tryz.ntmps19
    by_cases a1 : (k : Int) < 1
    · have d1 : decide ((k : Int) < 1) = true := by simpa using a1
      clear a1
      go_wp2_with fail
      go_ret
      exact ⟨by rw [HD.out]; rfl, rfl⟩
    have d1 : decide ((k : Int) < 1) = false := by simpa using a1
    by_cases a2 : m < 1
    · have d2 : decide (m < 1) = true := by simpa using a2
      clear a1 a2
      go_wp2_with fail
      go_ret
      exact ⟨by rw [HD.out]; rfl, rfl⟩
    have d2 : decide (m < 1) = false := by simpa using a2
    by_cases a3 : 65536 < (k : Int)
    · have d3 : decide (65536 < (k : Int)) = true := by simpa using a3
      clear a1 a2 a3
      go_wp2_with fail
      go_ret
      exact ⟨by rw [HD.out]; rfl, rfl⟩
    have d3 : decide (65536 < (k : Int)) = false := by simpa using a3
    have d4 : decide (65536 < m) = true := by rw [d1, d2, d3] at hx; simpa using hx
    clear a1 a2 a3 hx
    go_wp2_with fail
    go_ret
    exact ⟨by rw [HD.out]; rfl, rfl⟩
theorem odd_no (n : Nat) (h : n % 2 = 0) (w : World) :
    Calls Tryz.prog 105 #[.int .i64 2, .int .i64 (n : Int)] w fun e w' => e = .returned (.bool false) ∧ w' = w := by
  have d1 : ((n : Int) % 2 == 1) = false := by rw [beq_eq_false_iff_ne]; omega
  clear h
  go_enter Tryz.func105, Tryz.ntmps105
  go_wp2_with fail
  go_ret
  exact ⟨rfl, rfl⟩
theorem counted_yes (k m n : Nat) (p : Option Addr) (c : Nat) (h : prm k m) (hn : n = k + m) (w : World) :
    Calls Tryz.prog 103 #[.int .i64 2, .int .i64 (k : Int), .int .i64 (m : Int), .slice p n c] w fun e w' => e = .returned (.int .i64 0) ∧ w' = w := by
  have H := hid (Params_yes k m h w)
  obtain ⟨h1, h2, h3, h4, h5⟩ := h
  have d1 : ((n : Int) != (k : Int) + (m : Int)) = false := by rw [bne_eq_false_iff_eq]; omega
  have d2 : ((n : Int) == (k : Int) + (m : Int)) = true := by rw [beq_iff_eq]; omega
  clear hn h5
  go_enter Tryz.func103, Tryz.ntmps103
  go_wp2_with fail
  refine H.out.mono ?_
  rintro e w1 ⟨rfl, rfl⟩
  go_wp2_with fail
  go_ret
  exact ⟨rfl, rfl⟩
theorem Len_calls (x : Nat) (h : x < 16777216) (w : World) :
    Calls Tryz.prog 115 #[.int .u64 (x : Int)] w fun e w' => e = .returned (.int .i64 (blen x : Int)) ∧ w' = w := by
  have H := hid (Len64_calls x h w)
  go_enter Tryz.func115, Tryz.ntmps115
  go_wp2_with fail
  refine H.out.mono ?_
  rintro e w1 ⟨rfl, rfl⟩
  go_wp2_with fail
  go_ret
  exact ⟨rfl, rfl⟩
end Go.Proofs.YtpnmmedjamkmeaaGreat

/- Walks: the law's comparisons, bytes.Equal, light. -/
set_option linter.unusedSimpArgs false
set_option linter.unusedVariables false
set_option linter.unusedSimpArgs false
namespace Go.Proofs.YtpnmmedjamkmeaaGreat
open Go.RowKit

/-- The law's comparison: the same numbers? -/
theorem equalRd (p q : Option Addr) (c d : Nat) (a b : List Int) (w : World) (ha : Rd w .u8 p a) (hb : Rd w .u8 q b) (hm : a.length ≤ maxLen) :
    Calls Tryz.prog 16 #[.slice p a.length c, .slice q b.length d] w fun e w' => e = .returned (.bool (decide (a = b))) ∧ (∃ m, w' = w.drewN m) := by
  unfold maxLen at hm
  by_cases hl : a.length = b.length
  · have ht : ((a.length : Int) != (b.length : Int)) = false := by rw [hl]; simp
    have HL := hid hl
    clear hl
    go_enter Tryz.func16, Tryz.ntmps16
    go_wp2_with fail
    go_loopw [13] (fun i wr => ∃ k : Nat, k ≤ a.length ∧ i = .int .i64 (k : Int) ∧ (∀ j, j < k → ga a j = ga b j) ∧ ∃ m, wr = w.drewN m) (fun i _ => a.length - (intOf i).toNat)
    case atStart => exact ⟨0, by omega, rfl, fun j h => by omega, 0, rfl⟩
    case round =>
      obtain ⟨k, hk, rfl, hs, hq⟩ := hrel
      have hC : Chg No w wr := by
        obtain ⟨mm, e⟩ := hq
        rw [e]; exact (Chg.refl _ _).drewN _
      have HD := hid hq
      clear hq
      have HS := hid hs
      clear hs
      by_cases hlt : k < a.length
      · obtain ⟨b1, o1, rfl, hc1⟩ := (ha.keptNo hC) k hlt
        obtain ⟨b2, o2, rfl, hc2⟩ := (hb.keptNo hC) k (by rw [← HL.out]; exact hlt)
        have hlt2 : (k : Int) < (b.length : Int) := by rw [← HL.out]; omega
        by_cases he : ga a k = ga b k
        · have ht2 : (ga a k != ga b k) = false := by simpa using he
          have HE := hid he
          clear he
          go_wp2_with fail
          go_quiet (fail)
          go_wp2_with fail
          go_roundw
          case rel => exact ⟨k + 1, by omega, by go_num, fun j h => by
            by_cases e : j = k
            · subst e; exact HE.out
            · exact HS.out j (by omega), by
            obtain ⟨mm, e⟩ := HD.out
            exact ⟨mm + nq, by rw [e, World.drewN_drewN]⟩⟩
          case measure => simp [intOf]; omega
        · have ht2 : (ga a k != ga b k) = true := by simpa using he
          have ht3 : (ga a k == ga b k) = false := by simpa using he
          have HE : Hid (decide (a = b) = false) := hid (by
            simp only [decide_eq_false_iff_not]; intro h; subst h; exact he rfl)
          clear he
          go_wp2_with fail
          go_quiet (fail)
          go_wp2_with fail
          go_ret
          exact ⟨by rw [HE.out]; rfl, by
            obtain ⟨mm, e⟩ := HD.out
            exact ⟨mm + nq, by rw [e, World.drewN_drewN]⟩⟩
      · obtain rfl : k = a.length := by omega
        have HE : Hid (decide (a = b) = true) := hid (by
          simp only [decide_eq_true_eq]; exact ext_ga HL.out fun j hj => HS.out j hj)
        go_wp2_with fail
        go_ret
        exact ⟨by rw [HE.out]; rfl, HD.out⟩
  · have ht : ((a.length : Int) != (b.length : Int)) = true := by simp; omega
    have HE : Hid (decide (a = b) = false) := hid (by
      simp only [decide_eq_false_iff_not]; intro h; subst h; exact hl rfl)
    clear hl
    go_enter Tryz.func16, Tryz.ntmps16
    go_wp2_with fail
    go_ret
    exact ⟨by rw [HE.out]; rfl, 0, rfl⟩

theorem ga_map (l : List Nat) (i : Nat) (h : i < l.length) : ga (l.map Int.ofNat) i = (gn l i : Int) := by simp [ga, gn, h]
theorem Rn.rd {w : World} {k : IntKind} {p : Option Addr} {l : List Nat} (h : Rn w k p l) : Rd w k p (l.map Int.ofNat) := by
  intro i hi
  rw [List.length_map] at hi
  obtain ⟨b, off, e, hc⟩ := h i hi
  exact ⟨b, off, e, by rw [hc, ga_map _ _ hi]⟩
theorem map_ofNat_inj {a b : List Nat} : a.map Int.ofNat = b.map Int.ofNat ↔ a = b := by
  constructor
  · intro h
    have hl : a.length = b.length := by simpa using congrArg List.length h
    refine ext_gn hl fun i hi => ?_
    have := ga_map a i hi
    rw [h, ga_map b i (by omega)] at this
    omega
  · intro h; rw [h]
theorem equal_calls (p q : Option Addr) (n m c d : Nat) (a b : List Nat) (w : World) (ha : Rn w .u8 p a) (hb : Rn w .u8 q b) (hn : a.length = n) (hm : b.length = m) (hx : n ≤ maxLen) :
    Calls Tryz.prog 16 #[.slice p n c, .slice q m d] w fun e w' => e = .returned (.bool (decide (a = b))) ∧ (∃ m, w' = w.drewN m) := by
  subst hn hm
  have := equalRd p q c d _ _ w ha.rd hb.rd (by simpa using hx)
  simp only [List.length_map] at this
  refine this.mono ?_
  rintro e w' ⟨rfl, h⟩
  refine ⟨?_, h⟩
  congr 2
  exact decide_eq_decide.2 map_ofNat_inj

theorem all_calls (p q : Option Addr) (n m c d : Nat) (a b : List (List Nat)) (w : World) (ha : Lr w .u8 p a) (hb : Lr w .u8 q b) (hn : a.length = n) (hm : b.length = m) (hx : n ≤ maxLen) :
    Calls Tryz.prog 12 #[.slice p n c, .slice q m d] w fun e w' => e = .returned (.bool (decide (a = b))) ∧ Chg No w w' := by
  unfold maxLen at hx
  have HA := hid hn
  have HB := hid hm
  by_cases hl : n = m
  · have ht : ((n : Int) != (m : Int)) = false := by rw [hl]; simp
    have HL := hid hl
    clear hl hn hm
    go_enter Tryz.func12, Tryz.ntmps12
    go_wp2_with fail
    go_loopw [13] (fun i wr => ∃ k : Nat, k ≤ n ∧ i = .int .i64 (k : Int) ∧ (∀ j, j < k → gl a j = gl b j) ∧ Chg No w wr) (fun i _ => n - (intOf i).toNat)
    case atStart => exact ⟨0, by omega, rfl, fun j h => by omega, Chg.refl _ _⟩
    case round =>
      obtain ⟨k, hk, rfl, hs, hC⟩ := hrel
      obtain ⟨w1, rfl⟩ : ∃ w1 : World, w1 = wr := ⟨_, rfl⟩
      have HS := hid hs
      clear hs
      by_cases hlt : k < n
      · obtain ⟨b1, o1, q1, c1, rfl, hc1, hr1, hl1, _⟩ := (ha.keptNo hC) k (by rw [HA.out]; exact hlt)
        obtain ⟨b2, o2, q2, c2, rfl, hc2, hr2, hl2, _⟩ := (hb.keptNo hC) k (by rw [HB.out, ← HL.out]; exact hlt)
        have hlt2 : (k : Int) < (m : Int) := by rw [← HL.out]; omega
        have HE := hid (fun w h1 h2 => equal_calls q1 q2 _ _ c1 c2 (gl a k) (gl b k) w h1 h2 rfl rfl (by unfold maxLen; omega))
        have HR1 := hid hr1
        have HR2 := hid hr2
        have HC := hid hC
        have HAB : Hid (gl a k ≠ gl b k → decide (a = b) = false) := hid (by
          intro hne
          simp only [decide_eq_false_iff_not]; intro h; subst h; exact hne rfl)
        clear hr1 hr2 hC
        obtain ⟨x, hx'⟩ : ∃ x, x = gl a k := ⟨_, rfl⟩
        obtain ⟨y, hy'⟩ : ∃ y, y = gl b k := ⟨_, rfl⟩
        rw [← hx', ← hy'] at HE HAB
        rw [← hx'] at HR1
        rw [← hy'] at HR2
        rw [← hx'] at hc1 hl1
        rw [← hy'] at hc2 hl2
        have HX := hid hx'
        have HY := hid hy'
        clear hx' hy'
        by_cases hxy : x = y
        · have hd : decide (x = y) = true := by simpa using hxy
          have HXY := hid hxy
          rw [hd] at HE
          clear hxy hd
          go_wp2_with fail
          go_quiet ((go_at_call 16; exact Calls.quiet_of (HE.out _ HR1.out HR2.out)))
          go_wp2_with fail
          go_roundw
          case rel => exact ⟨k + 1, by omega, by go_num, fun j h => by
            by_cases e : j = k
            · subst e; rw [← HX.out, ← HY.out]; exact HXY.out
            · exact HS.out j (by omega), HC.out.drewN _⟩
          case measure => simp [intOf]; omega
        · have hd : decide (x = y) = false := by simpa using hxy
          have HE2 := hid (HAB.out hxy)
          rw [hd] at HE
          clear hxy hd
          go_wp2_with fail
          go_quiet ((go_at_call 16; exact Calls.quiet_of (HE.out _ HR1.out HR2.out)))
          go_wp2_with fail
          go_ret
          exact ⟨by rw [HE2.out]; rfl, HC.out.drewN _⟩
      · obtain rfl : k = n := by omega
        have HE : Hid (decide (a = b) = true) := hid (by
          simp only [decide_eq_true_eq]; exact ext_gl (by rw [HA.out, HB.out, HL.out]) fun j hj => HS.out j (by rw [← HA.out]; exact hj))
        go_wp2_with fail
        go_ret
        exact ⟨by rw [HE.out]; rfl, hC⟩
  · have ht : ((n : Int) != (m : Int)) = true := by simp; omega
    have HE : Hid (decide (a = b) = false) := hid (by
      simp only [decide_eq_false_iff_not]; intro h; subst h; exact hl (hn.symm.trans hm))
    clear hl
    go_enter Tryz.func12, Tryz.ntmps12
    go_wp2_with fail
    go_ret
    exact ⟨by rw [HE.out]; rfl, Chg.refl _ _⟩
end Go.Proofs.YtpnmmedjamkmeaaGreat

/- Walks: bytes.Equal, light. -/
set_option linter.unusedSimpArgs false
set_option linter.unusedVariables false
set_option linter.unusedSimpArgs false
namespace Go.Proofs.YtpnmmedjamkmeaaGreat
open Go.RowKit

theorem str_inj {a b : List Nat} (ha : ∀ i, gn a i < 256) (hb : ∀ i, gn b i < 256) :
    (strOfNums (a.map Int.ofNat) = strOfNums (b.map Int.ofNat)) ↔ a = b := by
  constructor
  · intro h
    have h2 := congrArg (fun s => s.data.toList) h
    simp only [strOfNums_data, List.map_map] at h2
    have hl : a.length = b.length := by simpa using congrArg List.length h2
    refine ext_gn hl fun i hi => ?_
    have h3 := congrArg (fun l => l[i]?) h2
    simp only [List.getElem?_map, List.getElem?_eq_getElem hi, List.getElem?_eq_getElem (show i < b.length by omega), Option.map_some, Option.some.injEq, Function.comp] at h3
    have ha' := ha i
    have hb' := hb i
    rw [gn_get _ _ hi] at ha' ⊢
    rw [gn_get _ _ (show i < b.length by omega)] at hb' ⊢
    have h4 := congrArg UInt8.toNat h3
    simp only [Int.ofNat_eq_natCast, Int.toNat_natCast, UInt8.toNat_ofNat'] at h4
    omega
  · intro h; rw [h]
theorem Rn.at0 {w : World} {k : IntKind} {p : Option Addr} {l : List Nat} (h : Rn w k p l) (h0 : l.length ≠ 0) : ∃ b off, p = some ⟨b, off, none⟩ ∧ ∀ i, i < l.length → w.cell? ⟨b, off + i, none⟩ = some (.int k (gn l i : Int)) := by
  obtain ⟨b, off, rfl, _⟩ := h 0 (by omega)
  refine ⟨b, off, rfl, fun i hi => ?_⟩
  obtain ⟨b2, off2, he, hc⟩ := h i hi
  obtain ⟨rfl, rfl⟩ : b = b2 ∧ off = off2 := by simpa using he
  exact hc
theorem Equal_calls (p q : Option Addr) (n m c d : Nat) (a b : List Nat) (w : World) (ha : Rn w .u8 p a) (hb : Rn w .u8 q b) (hn : a.length = n) (hm : b.length = m) (h0 : n ≠ 0) (h1 : m ≠ 0)
    (hba : ∀ i, gn a i < 256) (hbb : ∀ i, gn b i < 256) :
    Calls Tryz.prog 42 #[.slice p n c, .slice q m d] w fun e w' => e = .returned (.bool (decide (a = b))) ∧ w' = w := by
  subst hn hm
  obtain ⟨b1, o1, rfl, hc1⟩ := ha.at0 h0
  obtain ⟨b2, o2, rfl, hc2⟩ := hb.at0 h1
  have e1 := run_convert_bytes_arg (P := Tryz.prog) w 35 5 Tryz.underlying35 Tryz.underlying5 b1 o1 a.length c (a.map Int.ofNat) (by simp) (fun i hi => by rw [hc1 i hi]; simp [gn, hi]) 9 Tryz.underlying9
  have e2 := run_convert_bytes_arg (P := Tryz.prog) w 35 5 Tryz.underlying35 Tryz.underlying5 b2 o2 b.length d (b.map Int.ofNat) (by simp) (fun i hi => by rw [hc2 i hi]; simp [gn, hi]) 9 Tryz.underlying9
  have HD : Hid (((strOfNums (a.map Int.ofNat)).toList == (strOfNums (b.map Int.ofNat)).toList) = decide (a = b)) := hid (by
    rw [Go.ByteArray.toList_eq, Go.ByteArray.toList_eq]
    by_cases h : a = b
    · rw [h]; simp
    · rw [decide_eq_false h, beq_eq_false_iff_ne]
      intro e
      refine h ((str_inj hba hbb).1 ?_)
      have e2 := Array.toList_inj.1 e
      cases hx : strOfNums (a.map Int.ofNat)
      cases hy : strOfNums (b.map Int.ofNat)
      rw [hx, hy] at e2
      cases e2
      rfl)
  clear hc1 hc2 ha hb hba hbb
  generalize strOfNums (a.map Int.ofNat) = s1 at *
  generalize strOfNums (b.map Int.ofNat) = s2 at *
  go_enter Tryz.func42, Tryz.ntmps42
  go_wp2_with fail
  go_ret
  exact ⟨by rw [← HD.out]; rfl, rfl⟩
theorem light_calls (k n : Nat) (m : Int) (h : prm k m) (hn : n ≤ 140737488355328) (w : World) :
    Calls Tryz.prog 20 #[.int .i64 (k : Int), .int .i64 m, .int .i64 (n : Int)] w fun e w' => ∃ t : Bool, e = .returned (.bool t) ∧ (t = true → n ≤ 4194304 ∧ k * m.toNat * (n + 64) ≤ 8388608 ∧ (k + m.toNat) * n ≤ 4194304) ∧ w' = w := by
  obtain ⟨a, b, c, d, _⟩ := h
  obtain ⟨x, rfl⟩ : ∃ x : Nat, m = x := ⟨m.toNat, by omega⟩
  rw [Int.toNat_natCast]
  by_cases h1 : n ≤ 4194304
  · have d1 : decide ((n : Int) ≤ 4194304) = true := by simp; omega
    have hkx : k * x ≤ 65536 * 65536 := Nat.mul_le_mul c (by omega)
    have hkxn : k * x * (n + 64) ≤ 65536 * 65536 * (4194304 + 64) := Nat.mul_le_mul hkx (by omega)
    have hs : (k + x) * n ≤ 131072 * 4194304 := Nat.mul_le_mul (by omega) h1
    have E1 : ((k : Int) * (x : Int)) = ((k * x : Nat) : Int) := by simp
    have E2 : (((k * x : Nat) : Int) * ((n : Int) + 64)) = ((k * x * (n + 64) : Nat) : Int) := by simp
    have E3 : (((k : Int) + (x : Int)) * (n : Int)) = (((k + x) * n : Nat) : Int) := by simp
    have W1 : IntKind.i64.wrap ((k : Int) * (x : Int)) = ((k * x : Nat) : Int) := by rw [E1]; exact IntWalk.i64_in _ (by omega)
    have W2 : IntKind.i64.wrap (((k * x : Nat) : Int) * ((n : Int) + 64)) = ((k * x * (n + 64) : Nat) : Int) := by rw [E2]; exact IntWalk.i64_in _ (by omega)
    have W3 : IntKind.i64.wrap (((k : Int) + (x : Int)) * (n : Int)) = (((k + x) * n : Nat) : Int) := by rw [E3]; exact IntWalk.i64_in _ (by omega)
    clear E1 E2 E3
    generalize k * x * (n + 64) = B at *
    generalize (k + x) * n = C at *
    generalize k * x = A at *
    by_cases h2 : B ≤ 8388608
    · have d2 : decide ((B : Int) ≤ 8388608) = true := by simp; omega
      go_enter Tryz.func20, Tryz.ntmps20
      go_wp2_with fail
      go_ret
      exact ⟨_, rfl, fun h => ⟨h1, h2, by have h := of_decide_eq_true h; omega⟩, rfl⟩
    · have d2 : decide ((B : Int) ≤ 8388608) = false := by simp; omega
      go_enter Tryz.func20, Tryz.ntmps20
      go_wp2_with fail
      go_ret
      exact ⟨false, rfl, fun h => Bool.noConfusion h, rfl⟩
  · have d1 : decide ((n : Int) ≤ 4194304) = false := by simp; omega
    go_enter Tryz.func20, Tryz.ntmps20
    go_wp2_with fail
    go_ret
    exact ⟨false, rfl, fun h => Bool.noConfusion h, rfl⟩
end Go.Proofs.YtpnmmedjamkmeaaGreat

/- A list that is filled from its beginning on. -/
set_option linter.unusedVariables false
set_option linter.unusedSimpArgs false
namespace Go.Proofs.YtpnmmedjamkmeaaGreat
def fillTo (f : Nat → Nat) (n k : Nat) : List Nat := (List.range n).map fun j => if j < k then f j else 0
theorem fillTo_length (f : Nat → Nat) (n k : Nat) : (fillTo f n k).length = n := by simp [fillTo]
theorem gn_fillTo (f : Nat → Nat) (n k j : Nat) (h : j < n) : gn (fillTo f n k) j = if j < k then f j else 0 := by simp [gn, fillTo, h]
theorem fillTo_zero (f : Nat → Nat) (n : Nat) : fillTo f n 0 = List.replicate n 0 := by
  apply List.ext_getElem (by simp [fillTo])
  intro j h1 h2
  simp [fillTo]
theorem fillTo_set (f : Nat → Nat) (n k : Nat) (h : k < n) : (fillTo f n k).set k (f k) = fillTo f n (k + 1) := by
  refine ext_gn (by simp [fillTo_length]) fun j hj => ?_
  simp only [List.length_set, fillTo_length] at hj
  rw [gn_set _ _ _ _ (by rw [fillTo_length]; exact h), gn_fillTo _ _ _ _ hj, gn_fillTo _ _ _ _ hj]
  by_cases e : j = k
  · subst e; rw [if_pos rfl, if_pos (by omega)]
  · rw [if_neg e]
    by_cases c : j < k
    · rw [if_pos c, if_pos (by omega)]
    · rw [if_neg c, if_neg (by omega)]
theorem fillTo_full (f : Nat → Nat) (l : List Nat) (h : ∀ j, j < l.length → gn l j = f j) : fillTo f l.length l.length = l := by
  refine ext_gn (fillTo_length _ _ _) fun j hj => ?_
  rw [fillTo_length] at hj
  rw [gn_fillTo _ _ _ _ hj, if_pos hj, h j hj]
end Go.Proofs.YtpnmmedjamkmeaaGreat

/- Walks of walsh: the transform in place. -/
set_option linter.unusedVariables false
set_option linter.unusedSimpArgs false
namespace Go.Proofs.YtpnmmedjamkmeaaGreat
open Go.RowKit

set_option maxRecDepth 10000 in
set_option maxHeartbeats 1600000 in
theorem turn_calls (g t : Nat) (l : List Nat) (w : World) (hO : Own w 88 g (nv .u16 l) []) (hl : l.length = 2 ^ t) (ht : t ≤ 16) (hb : ∀ j, gn l j < 65536) :
    Calls Tryz.prog 156 #[.slice (some ⟨g, 0, none⟩) l.length l.length] w fun e w' => e = .returned (.tuple #[]) ∧ Own w' 88 g (nv .u16 (stages t l)) [] ∧ Chg (Only g) w w' := by
  have hn : l.length ≤ 65536 := by rw [hl]; exact Nat.pow_le_pow_right (by omega) ht
  have HL := hid hl
  clear hl
  go_enter Tryz.func156, Tryz.ntmps156
  go_wp2_with fail
  go_loopw [2] (fun d wr => ∃ s : Nat, s ≤ t ∧ d = .int .i64 ((2 ^ s : Nat) : Int) ∧ Own wr 88 g (nv .u16 (stages s l)) [] ∧ Chg (Only g) w wr) (fun d _ => 65536 - (intOf d).toNat)
  case atStart => exact ⟨0, by omega, rfl, hO, Chg.refl _ _⟩
  case round =>
    obtain ⟨s, hs, rfl, hO1, hC1⟩ := hrel
    clear hO
    obtain ⟨w1, rfl⟩ : ∃ w1 : World, w1 = wr := ⟨_, rfl⟩
    by_cases hlt : s < t
    · have hd1 : 1 ≤ 2 ^ s := Nat.one_le_two_pow
      have hd2 : 2 * 2 ^ s ≤ l.length := by
        rw [HL.out, show 2 * 2 ^ s = 2 ^ (s + 1) from by rw [Nat.pow_succ]; omega]
        exact Nat.pow_le_pow_right (by omega) hlt
      have hdv : ∃ z, l.length = z * (2 * 2 ^ s) := ⟨2 ^ (t - (s + 1)), by
        rw [HL.out, show 2 * 2 ^ s = 2 ^ (s + 1) from by rw [Nat.pow_succ]; omega, ← Nat.pow_add]; congr 1; omega⟩
      have hsm := stages_small s l hb
      have hls := stages_length s l
      have hnx : stages (s + 1) l = stage (2 ^ s) (stages s l) := rfl
      have hp : 2 ^ (s + 1) = 2 * 2 ^ s := by rw [Nat.pow_succ]; omega
      have HN := hid hnx
      have HP := hid hp
      clear hnx hp
      generalize 2 ^ s = d at *
      generalize stages s l = l1 at *
      have hdl : decide (d < l.length) = true := by simp; omega
      have HLS := hid hls
      have HSM := hid hsm
      have HDV := hid hdv
      clear hls hsm hdv
      go_wp2_with fail
      go_loopw [3] (fun f wr => ∃ (a q : Nat) (l2 : List Nat), Hid (a = q * (2 * d)) ∧ a ≤ l.length ∧ f = .int .i64 (a : Int) ∧ Half d l1 l2 a 0 ∧ Own wr 88 g (nv .u16 l2) [] ∧ Chg (Only g) w wr) (fun f _ => l.length - (intOf f).toNat)
      case atStart => exact ⟨0, 0, l1, hid (by omega), by omega, by simp, Half.start d l1, hO1, hC1⟩
      case round =>
        obtain ⟨a, q, l2, HA, hq, rfl, hH, hO2, hC2⟩ := hrel
        clear hO1 hC1
        obtain ⟨w2, rfl⟩ : ∃ w2 : World, w2 = wr := ⟨_, rfl⟩
        by_cases hfl : a < l.length
        · have hfd : decide (a < l.length) = true := by simp; omega
          have ha2 : a + 2 * d ≤ l.length := by
            obtain ⟨z, hz⟩ := HDV.out
            have h1 : q * (2 * d) < z * (2 * d) := by rw [← hz, ← HA.out]; exact hfl
            have h2 : q < z := Nat.lt_of_mul_lt_mul_right h1
            have h3 : (q + 1) * (2 * d) ≤ z * (2 * d) := Nat.mul_le_mul_right _ h2
            rw [Nat.add_mul, Nat.one_mul, ← hz, ← HA.out] at h3
            exact h3
          go_wp2_with fail
          go_loopw [4, 5, 6] (fun i _ _ wr => ∃ (m : Nat) (l3 : List Nat), m ≤ d ∧ i = .int .i64 ((a + m : Nat) : Int) ∧ Half d l1 l3 a m ∧ Own wr 88 g (nv .u16 l3) [] ∧ Chg (Only g) w wr) (fun i _ _ _ => l.length - (intOf i).toNat)
          case atStart => exact ⟨0, l2, by omega, rfl, hH, hO2, hC2⟩
          case round =>
            obtain ⟨m, l3, hm, rfl, hH3, hO3, hC3⟩ := hrel
            clear hO2 hC2 hH
            obtain ⟨w3, rfl⟩ : ∃ w3 : World, w3 = wr := ⟨_, rfl⟩
            by_cases hml : m < d
            · have hid1 : decide (a + m < a + d) = true := by simp; omega
              obtain ⟨x, hx⟩ : ∃ x, x = gn l1 (a + m) := ⟨_, rfl⟩
              obtain ⟨y, hy⟩ : ∃ y, y = gn l1 (a + m + d) := ⟨_, rfl⟩
              have hx0 : x < 65536 := by rw [hx]; exact HSM.out _
              have hy0 : y < 65536 := by rw [hy]; exact HSM.out _
              have htr := Half.turn (d := d) (l := l1) (l' := l3) (q := q) (m := m) (by rw [← HA.out]; exact hH3) hml (by rw [← HA.out, HLS.out]; omega)
              rw [← HA.out, ← hx, ← hy] at htr
              obtain ⟨t1, t2, hH4⟩ := htr
              have hc1 := hO3.nat (i := a + m) (by rw [hH3.1, HLS.out]; omega)
              have hc2 := hO3.nat (i := a + m + d) (by rw [hH3.1, HLS.out]; omega)
              rw [t1] at hc1
              rw [t2] at hc2
              have hf := hO3.frozen (a + m)
              have hf3 := hO3.frozen (a + m + d)
              have HO3 := hid hO3
              have HC3 := hid hC3
              have hl3 : a + m + d < (nv .u16 l3).length := by rw [nv_length, hH3.1, HLS.out]; omega
              have HL3 := hid hl3
              have HH4 := hid hH4
              clear t1 t2 hx hy hO3 hC3 hl3 hH3 hH4
              go_wp2_with fail
              go_quiet (fail)
              go_wp2_with fail
              have e1 : ((x : Int) + (y : Int)) % 65535 = (((x + y) % 65535 : Nat) : Int) := by omega
              have e2 : ((x : Int) + 65535 - (y : Int)) % 65535 = (((x + 65535 - y) % 65535 : Nat) : Int) := by omega
              rw [e1, e2]
              go_roundw
              case rel => exact ⟨m + 1, _, by omega, by go_num, HH4.out, ((HO3.out.drewN nq).setNat (by have := HL3.out; simp at this; omega) _).setNat (by have := HL3.out; simp at this ⊢; omega) _,
                ((HC3.out.drewN nq).setOnly _ _).setOnly _ _⟩
              case measure => simp [intOf]; omega
            · obtain rfl : m = d := by omega
              have hid1 : decide (a + m < a + m) = false := by simp
              have hn := Half.next (d := m) (l := l1) (l' := l3) (q := q) (by rw [← HA.out]; exact hH3)
              have HE : Hid (a + 2 * m = (q + 1) * (2 * m)) := by rw [HA.out]; show _ = _; rw [Nat.add_mul, Nat.one_mul]
              rw [← HE.out] at hn
              go_wp2_with fail
              go_roundw
              case rel => exact ⟨a + 2 * m, q + 1, l3, HE, by omega, by go_num, hn, hO3, hC3⟩
              case measure => simp [intOf]; omega
        · have hfd : decide (a < l.length) = false := by simp; omega
          have hfin := hH.done (by rw [HLS.out]; omega)
          rw [hfin, ← HN.out] at hO2
          clear hfin
          go_wp2_with fail
          go_roundw
          case rel => exact ⟨s + 1, by omega, by rw [HP.out]; go_num, hO2, hC2⟩
          case measure => simp [intOf]; omega
    · obtain rfl : s = t := by omega
      rw [show 2 ^ s = l.length from HL.out.symm]
      go_wp2_with fail
      go_end0
      exact ⟨rfl, hO1, hC1⟩
end Go.Proofs.YtpnmmedjamkmeaaGreat

/- The call bits.Len at the powers of two up to 65536. -/
set_option linter.unusedVariables false
set_option linter.unusedSimpArgs false
namespace Go.Proofs.YtpnmmedjamkmeaaGreat
open Go.RowKit
set_option maxRecDepth 10000
theorem Len_0 (w : World) : Calls Tryz.prog 115 #[.int .u64 ((1 : Nat) : Int)] w fun e w' => e = .returned (.int .i64 ((1 : Nat) : Int)) ∧ w' = w := by
  go_enter Tryz.func115, Tryz.ntmps115
  go_wp2
  go_ret
  exact ⟨by kernel_rfl, rfl⟩
theorem Len_1 (w : World) : Calls Tryz.prog 115 #[.int .u64 ((2 : Nat) : Int)] w fun e w' => e = .returned (.int .i64 ((2 : Nat) : Int)) ∧ w' = w := by
  go_enter Tryz.func115, Tryz.ntmps115
  go_wp2
  go_ret
  exact ⟨by kernel_rfl, rfl⟩
theorem Len_2 (w : World) : Calls Tryz.prog 115 #[.int .u64 ((4 : Nat) : Int)] w fun e w' => e = .returned (.int .i64 ((3 : Nat) : Int)) ∧ w' = w := by
  go_enter Tryz.func115, Tryz.ntmps115
  go_wp2
  go_ret
  exact ⟨by kernel_rfl, rfl⟩
theorem Len_3 (w : World) : Calls Tryz.prog 115 #[.int .u64 ((8 : Nat) : Int)] w fun e w' => e = .returned (.int .i64 ((4 : Nat) : Int)) ∧ w' = w := by
  go_enter Tryz.func115, Tryz.ntmps115
  go_wp2
  go_ret
  exact ⟨by kernel_rfl, rfl⟩
theorem Len_4 (w : World) : Calls Tryz.prog 115 #[.int .u64 ((16 : Nat) : Int)] w fun e w' => e = .returned (.int .i64 ((5 : Nat) : Int)) ∧ w' = w := by
  go_enter Tryz.func115, Tryz.ntmps115
  go_wp2
  go_ret
  exact ⟨by kernel_rfl, rfl⟩
theorem Len_5 (w : World) : Calls Tryz.prog 115 #[.int .u64 ((32 : Nat) : Int)] w fun e w' => e = .returned (.int .i64 ((6 : Nat) : Int)) ∧ w' = w := by
  go_enter Tryz.func115, Tryz.ntmps115
  go_wp2
  go_ret
  exact ⟨by kernel_rfl, rfl⟩
theorem Len_6 (w : World) : Calls Tryz.prog 115 #[.int .u64 ((64 : Nat) : Int)] w fun e w' => e = .returned (.int .i64 ((7 : Nat) : Int)) ∧ w' = w := by
  go_enter Tryz.func115, Tryz.ntmps115
  go_wp2
  go_ret
  exact ⟨by kernel_rfl, rfl⟩
theorem Len_7 (w : World) : Calls Tryz.prog 115 #[.int .u64 ((128 : Nat) : Int)] w fun e w' => e = .returned (.int .i64 ((8 : Nat) : Int)) ∧ w' = w := by
  go_enter Tryz.func115, Tryz.ntmps115
  go_wp2
  go_ret
  exact ⟨by kernel_rfl, rfl⟩
theorem Len_8 (w : World) : Calls Tryz.prog 115 #[.int .u64 ((256 : Nat) : Int)] w fun e w' => e = .returned (.int .i64 ((9 : Nat) : Int)) ∧ w' = w := by
  go_enter Tryz.func115, Tryz.ntmps115
  go_wp2
  go_ret
  exact ⟨by kernel_rfl, rfl⟩
theorem Len_9 (w : World) : Calls Tryz.prog 115 #[.int .u64 ((512 : Nat) : Int)] w fun e w' => e = .returned (.int .i64 ((10 : Nat) : Int)) ∧ w' = w := by
  go_enter Tryz.func115, Tryz.ntmps115
  go_wp2
  go_ret
  exact ⟨by kernel_rfl, rfl⟩
theorem Len_10 (w : World) : Calls Tryz.prog 115 #[.int .u64 ((1024 : Nat) : Int)] w fun e w' => e = .returned (.int .i64 ((11 : Nat) : Int)) ∧ w' = w := by
  go_enter Tryz.func115, Tryz.ntmps115
  go_wp2
  go_ret
  exact ⟨by kernel_rfl, rfl⟩
theorem Len_11 (w : World) : Calls Tryz.prog 115 #[.int .u64 ((2048 : Nat) : Int)] w fun e w' => e = .returned (.int .i64 ((12 : Nat) : Int)) ∧ w' = w := by
  go_enter Tryz.func115, Tryz.ntmps115
  go_wp2
  go_ret
  exact ⟨by kernel_rfl, rfl⟩
theorem Len_12 (w : World) : Calls Tryz.prog 115 #[.int .u64 ((4096 : Nat) : Int)] w fun e w' => e = .returned (.int .i64 ((13 : Nat) : Int)) ∧ w' = w := by
  go_enter Tryz.func115, Tryz.ntmps115
  go_wp2
  go_ret
  exact ⟨by kernel_rfl, rfl⟩
theorem Len_13 (w : World) : Calls Tryz.prog 115 #[.int .u64 ((8192 : Nat) : Int)] w fun e w' => e = .returned (.int .i64 ((14 : Nat) : Int)) ∧ w' = w := by
  go_enter Tryz.func115, Tryz.ntmps115
  go_wp2
  go_ret
  exact ⟨by kernel_rfl, rfl⟩
theorem Len_14 (w : World) : Calls Tryz.prog 115 #[.int .u64 ((16384 : Nat) : Int)] w fun e w' => e = .returned (.int .i64 ((15 : Nat) : Int)) ∧ w' = w := by
  go_enter Tryz.func115, Tryz.ntmps115
  go_wp2
  go_ret
  exact ⟨by kernel_rfl, rfl⟩
theorem Len_15 (w : World) : Calls Tryz.prog 115 #[.int .u64 ((32768 : Nat) : Int)] w fun e w' => e = .returned (.int .i64 ((16 : Nat) : Int)) ∧ w' = w := by
  go_enter Tryz.func115, Tryz.ntmps115
  go_wp2
  go_ret
  exact ⟨by kernel_rfl, rfl⟩
theorem Len_16 (w : World) : Calls Tryz.prog 115 #[.int .u64 ((65536 : Nat) : Int)] w fun e w' => e = .returned (.int .i64 ((17 : Nat) : Int)) ∧ w' = w := by
  go_enter Tryz.func115, Tryz.ntmps115
  go_wp2
  go_ret
  exact ⟨by kernel_rfl, rfl⟩
theorem Len_pow (t n : Nat) (hn : n = 2 ^ t) (ht : t ≤ 16) (w : World) : Calls Tryz.prog 115 #[.int .u64 (n : Int)] w fun e w' => e = .returned (.int .i64 ((t + 1 : Nat) : Int)) ∧ w' = w := by
  subst hn
  have : t = 0 ∨ t = 1 ∨ t = 2 ∨ t = 3 ∨ t = 4 ∨ t = 5 ∨ t = 6 ∨ t = 7 ∨ t = 8 ∨ t = 9 ∨ t = 10 ∨ t = 11 ∨ t = 12 ∨ t = 13 ∨ t = 14 ∨ t = 15 ∨ t = 16 := by omega
  rcases this with rfl | rfl | rfl | rfl | rfl | rfl | rfl | rfl | rfl | rfl | rfl | rfl | rfl | rfl | rfl | rfl | rfl
  · exact Len_0 w
  · exact Len_1 w
  · exact Len_2 w
  · exact Len_3 w
  · exact Len_4 w
  · exact Len_5 w
  · exact Len_6 w
  · exact Len_7 w
  · exact Len_8 w
  · exact Len_9 w
  · exact Len_10 w
  · exact Len_11 w
  · exact Len_12 w
  · exact Len_13 w
  · exact Len_14 w
  · exact Len_15 w
  · exact Len_16 w
end Go.Proofs.YtpnmmedjamkmeaaGreat

/- Walks of walsh: back, the convolution. -/
set_option linter.unusedVariables false
set_option linter.unusedSimpArgs false
namespace Go.Proofs.YtpnmmedjamkmeaaGreat
open Go.RowKit

set_option maxRecDepth 10000 in
set_option maxHeartbeats 1600000 in
theorem back_calls (g t : Nat) (l : List Nat) (w : World) (hO : Own w 88 g (nv .u16 l) []) (hl : l.length = 2 ^ t) (ht : t ≤ 16) (hb : ∀ j, gn l j < 65536) :
    Calls Tryz.prog 157 #[.slice (some ⟨g, 0, none⟩) l.length l.length] w fun e w' => e = .returned (.tuple #[]) ∧ Own w' 88 g (nv .u16 (backed t l)) [] ∧ Chg (Only g) w w' := by
  have hn : l.length ≤ 65536 := by rw [hl]; exact Nat.pow_le_pow_right (by omega) ht
  have h1 := turn_calls g t l w hO hl ht hb
  have h2 := Len_pow t l.length hl ht
  have H1 := hid h1
  have H2 := hid h2
  clear h1 h2
  have HL := hid hl
  clear hl hO
  have hlt := stages_length t l
  have hls := stages_small t l hb
  have HLT := hid hlt
  have HLS := hid hls
  clear hlt hls
  go_enter Tryz.func157, Tryz.ntmps157
  go_wp2_with (first
    | (go_at_call 156; refine (H1.out).mono ?_; rintro e w1 ⟨rfl, hO1, hC1⟩; clear H1)
    | (go_at_call 115; refine (H2.out _).mono ?_; rintro e w2 ⟨rfl, rfl⟩; clear H2))
  rw [sc_int t]
  have hsc := sc_lt t
  have hs0 : (0 : Int) ≤ (sc t : Int) := by omega
  have HB : Hid (backed t l = (stages t l).map fun x => x * sc t % 65535) := hid rfl
  generalize sc t = c at *
  generalize stages t l = l1 at *
  have hs1 : (c : Int) < 65535 := by omega
  go_loopw [17] (fun i wr => ∃ k : Nat, k ≤ l.length ∧ i = .int .i64 (k : Int) ∧ Own wr 88 g (nv .u16 (mapTo (fun x => x * c % 65535) k l1)) [] ∧ Chg (Only g) w wr) (fun i _ => l.length - (intOf i).toNat)
  case atStart => exact ⟨0, by omega, rfl, by rw [mapTo_zero]; exact hO1, hC1⟩
  case round =>
    obtain ⟨k, hk, rfl, hO, hC⟩ := hrel
    clear hO1 hC1
    by_cases hlt : k < l.length
    · have hd : decide (k < l.length) = true := by simpa using hlt
      obtain ⟨x, hx⟩ : ∃ x, x = gn l1 k := ⟨_, rfl⟩
      have hxb : x < 65536 := by rw [hx]; exact HLS.out _
      have hx0 : (0 : Int) ≤ (x : Int) := by omega
      have hx1 : (x : Int) < 65536 := by omega
      have hcell := hO.nat (i := k) (by rw [mapTo_length, HLT.out]; exact hlt)
      rw [gn_mapTo _ _ _ _ (by rw [HLT.out]; exact hlt), if_neg (by omega), ← hx] at hcell
      have hf := hO.frozen k
      have hst := mapTo_set (fun x => x * c % 65535) k l1 (by rw [HLT.out]; exact hlt)
      rw [← hx] at hst
      have HST := hid hst
      have HO := hid hO
      have HC := hid hC
      have hp0 : (0 : Int) ≤ (x : Int) * (c : Int) := Int.mul_nonneg hx0 hs0
      have hp1 : (x : Int) * (c : Int) ≤ 65536 * 65535 := Int.mul_le_mul (by omega) (by omega) hs0 (by omega)
      have ev : ((x : Int) * (c : Int)) % 65535 = ((x * c % 65535 : Nat) : Int) := by simp
      have EV := hid ev
      clear hx hst hO hC hk ev
      go_wp2_with fail
      rw [EV.out]
      go_roundw
      case rel => exact ⟨k + 1, by simp at hd; omega, by go_num, by rw [← HST.out]; exact HO.out.setNat (by rw [mapTo_length, HLT.out]; simpa using hd) _, HC.out.setOnly _ _⟩
      case measure => simp at hd; simp [intOf]; omega
    · obtain rfl : k = l.length := by omega
      have HE : Hid (mapTo (fun x => x * c % 65535) l.length l1 = l1.map fun x => x * c % 65535) := by
        rw [← HLT.out]; exact mapTo_full _ _
      go_wp2_with fail
      go_end0
      exact ⟨rfl, by rw [HB.out, ← HE.out]; exact hO, hC⟩
end Go.Proofs.YtpnmmedjamkmeaaGreat

/- Walks of gf16.Basis and walsh.logs. -/
set_option linter.unusedVariables false
set_option linter.unusedSimpArgs false
namespace Go.Proofs.YtpnmmedjamkmeaaGreat
open Go.RowKit

theorem basisArr_nv : basisArr = (nv .u16 basisList ++ []).toArray := by rfl
theorem basisArr_size : basisArr.size = 16 := rfl

set_option maxRecDepth 10000 in
set_option maxHeartbeats 1600000 in
theorem Basis_full (w : World) :
    Calls Tryz.prog 62 #[] w fun e w' => ∃ g cap rest, 16 + List.length rest = cap ∧ e = .returned (.slice (some ⟨g, 0, none⟩) 16 cap) ∧ Own w' 88 g (nv .u16 basisList) rest ∧ w.heap.size ≤ g ∧ Chg No w w' := by
  go_enter Tryz.func62, Tryz.ntmps62
  go_wp2_with fail
  refine (basis_calls _).mono ?_
  rintro e w1 ⟨rfl, hC⟩
  go_wp2_with (first
    | ((with_reducible refine wpList_stRow w1.heap.size basisArr (heap_alloc_new w1 _) ?_ ?_ ?_ ?_ ?_); exact ⟨rfl, rfl⟩; kernel_rfl; simp [basisArr_size]; kernel_rfl
       intro W hW hC2 hs2
       have hO1 : Own W 139 w1.heap.size (nv .u16 basisList) [] := by unfold Own; rw [← basisArr_nv]; exact hW
       have hC3 : Chg No w W := hC.trans' (T := Only w1.heap.size) (((Chg.refl (Only w1.heap.size) w1).alloc _).trans hC2) (fun i hi e => by have := hC.size; simp only [Only] at e; omega)
       clear hW hC2 hs2 hC)
    | (at_builtin; go_must ((with_reducible refine wpList_app (emptyRow W 88) ⟨w1.heap.size, 0, none⟩ (nv .u16 basisList) ?_ (.int .u16 0) 16 16 2 ?_ ?_ ?_ ?_ ?_ ?_ ?_ ?_ ?_ ?_); exact (hO1.alloc (.cells #[] 88)).addCell; exact ⟨rfl, rfl⟩; rfl; exact Tryz.underlying58; kernel_rfl; rfl; exact nv_one; decide; decide; simp; intro v' W2 hR hG)))
  rcases own_of_ownsRow hR with ⟨rfl, h0, _⟩ | ⟨g, cap, rest, rfl, hb, hO, _, hcap, _⟩
  · simp at h0
  · have hC4 : Chg No w W2 := (hC3.alloc _).grown hG (fun k hk => by
      simp [Value.ownBlock] at hk; subst hk; exact .inr hC3.size)
    have hge : w.heap.size ≤ g := Nat.le_trans hC3.size hb
    have HCAP := hid hcap
    clear hR hG hC3 hO1 hcap
    go_wp2_with fail
    go_ret
    exact ⟨g, cap, rest, by simpa using HCAP.out, rfl, by simpa using hO, hge, hC4⟩
theorem Basis_calls (w : World) :
    Calls Tryz.prog 62 #[] w fun e w' => ∃ g cap rest, e = .returned (.slice (some ⟨g, 0, none⟩) 16 cap) ∧ Own w' 88 g (nv .u16 basisList) rest ∧ w.heap.size ≤ g ∧ Chg No w w' :=
  (Basis_full w).mono fun _ _ ⟨g, cap, rest, _, h⟩ => ⟨g, cap, rest, h⟩
end Go.Proofs.YtpnmmedjamkmeaaGreat

/- The walk of walsh.logs. -/
set_option linter.unusedVariables false
set_option linter.unusedSimpArgs false
namespace Go.Proofs.YtpnmmedjamkmeaaGreat
open Go.RowKit

theorem Own.gw {w : World} {e : TypeId} {g : Nat} {xs ys rest rest' : List Value} (h : Own w e g xs rest) (h1 : xs ++ rest = ys ++ rest') : Own w e g ys rest' := by
  unfold Own at h ⊢; rw [← h1]; exact h

theorem two_pow_int (r : Nat) (h : r ≤ 16) : wrap64 ((2 : Int) ^ r) = ((2 ^ r : Nat) : Int) := by
  have hb : 2 ^ r ≤ 2 ^ 16 := Nat.pow_le_pow_right (by omega) h
  have e : ((2 : Int) ^ r) = ((2 ^ r : Nat) : Int) := by simp
  rw [e]
  generalize 2 ^ r = m at hb
  unfold wrap64; omega

set_option maxRecDepth 10000 in
set_option maxHeartbeats 4000000 in
theorem logs_calls (b r : Nat) (w : World) (hT : Tab w b) (hr : r ≤ 16) :
    Calls Tryz.prog 151 #[.pointer (some ⟨b, 0, none⟩), .int .i64 (r : Int)] w fun e w' => ∃ g, e = .returned (.slice (some ⟨g, 0, none⟩) (2 ^ r) (2 ^ r)) ∧ Own w' 88 g (nv .u16 (logList r)) [] ∧ w.heap.size ≤ g ∧ Chg No w w' := by
  have hb0 := TabAt.lt hT
  have hN0 : 1 ≤ 2 ^ r := Nat.one_le_two_pow
  have hN1 : 2 ^ r ≤ 65536 := Nat.pow_le_pow_right (by omega) hr
  have hsh := two_pow_int r hr
  have HP := hid (fun (i : Nat) (h : i < r) => (show 2 * 2 ^ i ≤ 2 ^ r from by
    rw [← Nat.pow_succ']; exact Nat.pow_le_pow_right (by omega) h))
  have HL : Hid (logList r = logTo (2 ^ r) (2 ^ r)) := hid rfl
  have HE : Hid (∀ i, i = r → 2 ^ i = 2 ^ r) := hid (fun i h => by rw [h])
  generalize 2 ^ r = N at *
  have hr0 : (0 : Int) ≤ (r : Int) := by omega
  have hr1 : (r : Int) ≤ 16 := by omega
  have HS := hid hsh
  clear hsh
  have tokA : True := trivial
  go_enter Tryz.func151, Tryz.ntmps151
  go_wp2_with (first | (rw [HS.out]) | (at_make; (first
    | (have tok1 := tokA; go_must ((with_reducible refine wpList_mk1 88 (.int .u16 0) 2 N N ?_ ?_ ?_ ?_ ?_ ?_ ?_ ?_); exact ⟨rfl, rfl⟩; exact Tryz.underlying58; kernel_rfl; rfl; omega; omega; (unfold maxLen; omega); intro W1 hO1 hC1 hs1; clear tokA tok1; have tokB : True := trivial))
    | (have tok1 := tokB; go_must ((with_reducible refine wpList_mk1 88 (.int .u16 0) 2 1 N ?_ ?_ ?_ ?_ ?_ ?_ ?_ ?_); exact ⟨rfl, rfl⟩; exact Tryz.underlying58; kernel_rfl; rfl; omega; omega; (unfold maxLen; omega); intro W2 hO2 hC2 hs2; clear tokB tok1)))))
  refine (Basis_calls _).mono ?_
  rintro e W3 ⟨gb, cap, rest, rfl, hB, hgb, hC3⟩
  have hO1' : Own W3 88 w.heap.size (nv .u16 (logTo N 1)) [] := by
    have := (hO1.keptNo hC2).keptNo hC3
    rw [logTo_one, nv_replicate]
    simpa using this
  have hO2' : Own W3 88 W1.heap.size (nv .u16 (els 1)) (List.replicate (N - 1) (.int .u16 0)) := hO2.keptNo hC3
  have hC : Chg No w W3 := (hC1.trans hC2).trans hC3
  have hg2 : w.heap.size < W1.heap.size := hs1
  have hg3 : W1.heap.size < gb := Nat.lt_of_lt_of_le hs2 hgb
  generalize W1.heap.size = g2 at *
  clear hO1 hO2 hC1 hC2 hC3 hs1 hs2 hgb
  have HB := hid hB
  have HO1 := hid hO1'
  clear hB hO1'
  go_wp2_with fail
  go_loopw [6, 22] (fun v i wr => ∃ k : Nat, k ≤ r ∧ i = .int .i64 (k : Int) ∧ v = .slice (some ⟨g2, 0, none⟩) (2 ^ k) N ∧ Own wr 88 g2 (nv .u16 (els (2 ^ k))) (List.replicate (N - 2 ^ k) (.int .u16 0)) ∧ Chg (Only g2) W3 wr) (fun _ i _ => r - (intOf i).toNat)
  case atStart => exact ⟨0, by omega, rfl, rfl, hO2', Chg.refl _ _⟩
  case round =>
    obtain ⟨k, hk, rfl, rfl, hO2, hC2⟩ := hrel
    clear hO2'
    obtain ⟨w4, rfl⟩ : ∃ w4 : World, w4 = wr := ⟨_, rfl⟩
    by_cases hlt : k < r
    · have hM := HP.out k hlt
      have HT := hid (fun j (h : j < 2 ^ k) => el_top (i := k) h (by omega))
      have hS2 := two_pow_int k (by omega)
      have hM0 : 1 ≤ 2 ^ k := Nat.one_le_two_pow
      have HM : Hid (2 ^ (k + 1) = 2 * 2 ^ k) := hid (by rw [Nat.pow_succ]; omega)
      generalize 2 ^ k = M at *
      have HS2 := hid hS2
      clear hS2
      have hbc := (HB.out.kept hC2 (by simp [Only]; omega)).nat (i := k) (by simp [basisList]; omega)
      have hgn : gn basisList k = bas k := rfl
      have HGN := hid hgn
      rw [hgn] at hbc
      have hbl := bas_lt k
      clear hgn
      generalize bas k = bk at *
      go_wp2_with (rw [HS2.out])
      go_loopw [6, 30] (fun v i wr => ∃ j : Nat, j ≤ M ∧ i = .int .i64 (j : Int) ∧ v = .slice (some ⟨g2, 0, none⟩) (M + j) N ∧ Own wr 88 g2 (nv .u16 (els (M + j))) (List.replicate (N - (M + j)) (.int .u16 0)) ∧ Chg (Only g2) W3 wr) (fun _ i _ => M - (intOf i).toNat)
      case atStart => exact ⟨0, by omega, rfl, rfl, hO2, hC2⟩
      case round =>
        obtain ⟨j, hj, rfl, rfl, hO3, hC3⟩ := hrel
        clear hO2 hC2
        obtain ⟨w5, rfl⟩ : ∃ w5 : World, w5 = wr := ⟨_, rfl⟩
        by_cases hjl : j < M
        · have hcj := hO3.nat (i := j) (by rw [els_length]; omega)
          rw [gn_els _ _ (by omega)] at hcj
          have hel := HT.out j hjl
          have hes := els_succ (M + j)
          rw [hel] at hes
          have hlx := el_lt j
          have hbc5 := (HB.out.kept hC3 (by simp [Only]; omega)).nat (i := k) (by simp [basisList]; omega)
          have HC3 := hid hC3
          have HES := hid hes
          clear hel hes hC3 hbc
          generalize el j = x at *
          have hxor := Go.u16_xor_nat x bk hlx hbl
          have gnb : gn basisList k = bk := HGN.out
          rw [gnb] at hbc5
          clear gnb
          have HO3 := hid hO3
          clear hO3
          go_wp2_with (at_builtin; go_must ((with_reducible refine wpList_appRoom (HO3.out.alloc (.cells #[.int .u16 ((x ^^^ bk : Nat) : Int)] 88)) ⟨w5.heap.size, 0, none⟩ [.int .u16 ((x ^^^ bk : Nat) : Int)] ?_ (M + j) N 1 1 ?_ ?_ ?_ ?_ ?_ ?_ ?_ ?_ ?_); exact (Own.lit1 w5 88 (.int .u16 ((x ^^^ bk : Nat) : Int))).addCell; exact ⟨rfl, rfl⟩; (simp [els_length]); rfl; (simp; omega); (simp; omega); exact Tryz.underlying58; kernel_rfl; (intro u hu; simp at hu; subst hu; rfl); intro W6 hO6 hC6))
          have hO7 : Own W6 88 g2 (nv .u16 (els (M + (j + 1)))) (List.replicate (N - (M + (j + 1))) (.int .u16 0)) := by
            rw [show M + (j + 1) = M + j + 1 from rfl, HES.out]
            refine hO6.gw ?_
            rw [nv_append, List.drop_replicate, show N - (M + j) - 1 = N - (M + j + 1) from by omega]
            rfl
          have hC7 : Chg (Only g2) W3 W6 := HC3.out.allocOnly (.inl rfl) hC6
          go_roundw
          case rel => exact ⟨j + 1, by omega, by go_num, rfl, hO7, hC7⟩
          case measure => simp [intOf]; omega
        · obtain rfl : j = M := by omega
          have h2 : j + j = 2 * j := by omega
          rw [h2] at hO3 ⊢
          go_wp2_with fail
          go_roundw
          case rel => exact ⟨k + 1, by omega, by go_num, by rw [HM.out], by rw [HM.out]; exact hO3, hC3⟩
          case measure => simp [intOf]; omega
    · obtain rfl : k = r := by omega
      have hN := HE.out k rfl
      rw [hN] at hO2 ⊢
      have HO1b : Own w4 88 w.heap.size (nv .u16 (logTo N 1)) [] := HO1.out.kept hC2 (by simp [Only]; omega)
      have HCw : Chg No w w4 := hC.trans' (T := Only g2) hC2 (fun i hi e => by simp only [Only] at e; omega)
      have HTb : Tab w4 b := hT.keptNo HCw
      have HO2 := hid hO2
      clear hO2 hC2 HB HO1 HP HE hC hT hN
      go_wp2_with fail
      go_loopw [11] (fun i wr => ∃ j : Nat, 1 ≤ j ∧ j ≤ N ∧ i = .int .i64 (j : Int) ∧ Own wr 88 w.heap.size (nv .u16 (logTo N j)) [] ∧ Chg (Only w.heap.size) w4 wr) (fun i _ => N - (intOf i).toNat)
      case atStart => exact ⟨1, by omega, by omega, rfl, HO1b, Chg.refl _ _⟩
      case round =>
        obtain ⟨j, hj1, hj2, rfl, hO, hC⟩ := hrel
        clear HO1b
        obtain ⟨w5, rfl⟩ : ∃ w5 : World, w5 = wr := ⟨_, rfl⟩
        have hOw := HO2.out.kept hC (by simp [Only]; omega)
        by_cases hjl : j < N
        · have hT5 : Tab w5 b := TabAt.kept HTb hC (by simp [Only]; omega)
          have hcj := hOw.nat (i := j) (by rw [els_length]; exact hjl)
          rw [gn_els _ _ hjl] at hcj
          have hst := logTo_set N j hjl hj1
          have hlx := el_lt j
          have HST := hid hst
          have HO := hid hO
          have HC := hid hC
          have HT5 := hid hT5
          clear hst hO hC hT5 hOw
          generalize el j = x at *
          have hlz := lgz_lt x
          go_wp2_with fail
          refine (Log_any b x _ HT5.out hlx).mono ?_
          rintro e w6 ⟨er, rfl, hC6⟩
          have hO6 := HO.out.keptNo hC6
          have hC7 : Chg (Only w.heap.size) w4 w6 := HC.out.transNo hC6
          have hold := hO6.nat (i := j) (by rw [logTo_length]; exact hjl)
          have hf := hO6.frozen j
          have HO6 := hid hO6
          clear hC6 hO6
          go_wp2_with fail
          go_roundw
          case rel => exact ⟨j + 1, by omega, by omega, by go_num, by rw [← HST.out]; exact HO6.out.setNat (by rw [logTo_length]; exact hjl) _, hC7.setOnly _ _⟩
          case measure => simp [intOf]; omega
        · obtain rfl : j = N := by omega
          go_wp2_with fail
          go_ret
          exact ⟨w.heap.size, rfl, by rw [HL.out]; exact hO, Nat.le_refl _, HCw.trans' (T := Only w.heap.size) hC (fun i hi e => by simp only [Only] at e; omega)⟩
end Go.Proofs.YtpnmmedjamkmeaaGreat
