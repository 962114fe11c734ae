/- Walks of gf16's tables. -/
import Derived.Test.YtpnmmedjamkmeaaGreatProg
import Derived.Deep.Upon
import Derived.Deep.AppendSrc
import Derived.Test.YtpnmmedjamkmeaaGreatGivesG1
import Derived.Test.YtpnmmedjamkmeaaGreatGivesG2
import Derived.Test.YtpnmmedjamkmeaaGreatGivesG3
set_option linter.unusedVariables false
set_option linter.unusedSimpArgs false
namespace Go.Proofs.YtpnmmedjamkmeaaGreat
open Go.RowKit

/-- The cells of gf16's tables when n rounds of their making are done. -/
def tabAt (n : Nat) (arr : Array Value) : Prop :=
  arr.size = 131071 ∧ (∀ i, i < 65535 → arr[i]? = some (.int .u16 ((if i < n then ex i else 0 : Nat) : Int))) ∧ ∀ x, x < 65536 → arr[65535 + x]? = some (.int .u16 (lgTo n x : Int))
def TabAt (n : Nat) (w : World) (b : Nat) : Prop := ∃ arr, w.heap[b]? = some (.cells arr 136 (0, 0)) ∧ tabAt n arr
def Tab (w : World) (b : Nat) : Prop := TabAt 65535 w b

theorem TabAt.lt {n : Nat} {w : World} {b : Nat} (h : TabAt n w b) : b < w.heap.size := by
  obtain ⟨arr, h, _⟩ := h
  exact (Array.getElem?_eq_some_iff.1 h).1
theorem TabAt.kept {n : Nat} {w w' : World} {b : Nat} {S : Nat → Prop} (h : TabAt n w b) (hc : Chg S w w') (hs : ¬ S b) : TabAt n w' b := by
  obtain ⟨arr, h, r⟩ := h
  exact ⟨arr, hc.kept h hs, r⟩
theorem Tab.keptNo {w w' : World} {b : Nat} (h : Tab w b) (hc : Chg No w w') : Tab w' b := TabAt.kept h hc id
theorem TabAt.frozen {n : Nat} {w : World} {b : Nat} (h : TabAt n w b) (i : Nat) : w.frozen? ⟨b, i, none⟩ = false := by
  obtain ⟨arr, h, r⟩ := h
  simp only [World.frozen?, h]
  simp
theorem TabAt.exCell {n : Nat} {w : World} {b : Nat} (h : TabAt n w b) {i : Nat} (hi : i < 65535) : w.cell? ⟨b, i, none⟩ = some (.int .u16 ((if i < n then ex i else 0 : Nat) : Int)) := by
  obtain ⟨arr, h, _, h1, _⟩ := h
  simp [World.cell?, h, h1 i hi]
theorem Tab.exCell {w : World} {b : Nat} (h : Tab w b) {i : Nat} (hi : i < 65535) : w.cell? ⟨b, i, none⟩ = some (.int .u16 (ex i : Int)) := by
  rw [TabAt.exCell h hi, if_pos hi]
theorem TabAt.lgCell {n : Nat} {w : World} {b : Nat} (h : TabAt n w b) {x : Nat} (hx : x < 65536) : w.cell? ⟨b, 65535 + x, none⟩ = some (.int .u16 (lgTo n x : Int)) := by
  obtain ⟨arr, h, _, _, h1⟩ := h
  simp [World.cell?, h, h1 x hx]
theorem Tab.lgCell {w : World} {b : Nat} (h : Tab w b) {x : Nat} (hx : x < 65536) : w.cell? ⟨b, 65535 + x, none⟩ = some (.int .u16 (lg x : Int)) := TabAt.lgCell h hx
theorem heap_setCell_arr {w : World} {b : Nat} {arr : Array Value} {e : TypeId} (h : w.heap[b]? = some (.cells arr e (0, 0))) (i : Nat) (v : Value) :
    (w.setCell ⟨b, i, none⟩ v).heap[b]? = some (.cells (arr.setIfInBounds i v) e (0, 0)) := by
  simp only [World.setCell, Array.getElem?_modify, if_true, h, Option.map_some, Option.isSome_none, Bool.false_eq_true, if_false]
/-- One round of the making: both tables written. -/
theorem TabAt.next {n : Nat} {w : World} {b : Nat} (h : TabAt n w b) (hn : n < 65535) :
    TabAt (n + 1) ((w.setCell ⟨b, n, none⟩ (.int .u16 (ex n : Int))).setCell ⟨b, 65535 + ex n, none⟩ (.int .u16 (n : Int))) b := by
  obtain ⟨arr, h, hs, h1, h2⟩ := h
  have hx := ex_lt n
  refine ⟨_, heap_setCell_arr (heap_setCell_arr h _ _) _ _, by simp [hs], fun i hi => ?_, fun x hx' => ?_⟩
  · rw [Array.getElem?_setIfInBounds_ne (by omega)]
    by_cases e : i = n
    · subst e
      rw [Array.getElem?_setIfInBounds_self_of_lt (by omega), if_pos (by omega)]
    · rw [Array.getElem?_setIfInBounds_ne (by omega), h1 i hi]
      congr 3
      by_cases hin : i < n
      · rw [if_pos hin, if_pos (by omega)]
      · rw [if_neg hin, if_neg (by omega)]
  · by_cases e : x = ex n
    · subst e
      rw [Array.getElem?_setIfInBounds_self_of_lt (by simp; omega)]
      simp [lgTo]
    · rw [Array.getElem?_setIfInBounds_ne (by omega), Array.getElem?_setIfInBounds_ne (by omega), h2 x hx']
      simp [lgTo, e]

def isz : Value → Bool
  | .int .u16 n => n == 0
  | _ => false
theorem isz_eq {v : Value} (h : isz v = true) : v = .int .u16 0 := by
  unfold isz at h
  split at h
  · simp at h; rw [h]
  · cases h
theorem zeroTab : Tryz.zeroCells136.toList.all isz = true := by kernel_rfl
theorem tabAt_zero : tabAt 0 Tryz.zeroCells136 := by
  have hs : Tryz.zeroCells136.size = 131071 := Tryz.zeroCells136_size
  have hz : ∀ i, i < 131071 → Tryz.zeroCells136[i]? = some (.int .u16 0) := by
    intro i hi
    rw [Array.getElem?_eq_getElem (by rw [hs]; exact hi)]
    have := List.all_eq_true.1 zeroTab (Tryz.zeroCells136[i]'(by rw [hs]; exact hi)) (Array.mem_toList_iff.2 (Array.getElem_mem _))
    rw [isz_eq this]
  refine ⟨hs, fun i hi => ?_, fun x hx => ?_⟩
  · rw [hz i (by omega)]; simp
  · rw [hz _ (by omega)]; simp [lgTo]

theorem lt_setCell {w : World} {a : Addr} {v : Value} {k : Nat} (h : k < w.heap.size) : k < (w.setCell a v).heap.size := by simpa [World.setCell] using h

set_option maxRecDepth 400000 in
set_option maxHeartbeats 800000 in
theorem New_calls (w : World) :
    Calls Tryz.prog 59 #[] w fun e w' => e = .returned (.pointer (some ⟨w.heap.size, 0, none⟩)) ∧ Tab w' w.heap.size ∧ Chg No w w' := by
  go_enter Tryz.func59, Tryz.ntmps59
  go_wp2
  go_loopw [2, 6] (fun x j wr => ∃ n : Nat, n ≤ 65535 ∧ j = .int .i64 n ∧ x = .int .i64 (ex n : Int) ∧ TabAt n wr w.heap.size ∧ Chg No w wr) (fun _ j _ => 65535 - (intOf j).toNat)
  case atStart => exact ⟨0, by omega, rfl, rfl, ⟨_, heap_alloc_new w _, tabAt_zero⟩, (Chg.refl _ _).alloc _⟩
  case round =>
    obtain ⟨n, hn, rfl, rfl, hT, hC⟩ := hrel
    by_cases hlt : n < 65535
    · have hx := ex_lt n
      have n0 : (0 : Int) ≤ (n : Int) := by omega
      have n1 : (n : Int) < 65535 := by omega
      have x0 : (0 : Int) ≤ (ex n : Int) := by omega
      have x1 : (ex n : Int) < 65536 := by omega
      have hcell := hT.exCell hlt
      have hfr := hT.frozen n
      have hcell2 := hT.lgCell hx
      have hfr2 := hT.frozen (65535 + ex n)
      have hx1 : ex (n + 1) = if 2 * ex n > 65535 then (2 * ex n) ^^^ 65581 else 2 * ex n := rfl
      have HX := hid hx1
      clear hx1
      have hxor := i64_xor_nat (2 * ex n) 65581 (by omega) (by omega)
      have HT := hid hT
      by_cases hbig : 65535 < 2 * ex n
      · have ht : decide ((65535 : Int) < (ex n : Int) * 2) = true := by simp; omega
        have hval : Value.int IntKind.i64 (bits BinOp.xor IntKind.i64 ((ex n : Int) * 2) 65581) = Value.int IntKind.i64 (ex (n + 1) : Int) := by
          rw [HX.out, if_pos hbig, ← hxor]; congr 2; omega
        have HV := hid hval
        clear hbig hlt hxor hval
        go_wp2_with (first
          | ((with_reducible refine wpList_st ⟨w.heap.size, n, none⟩ (.int .u16 (ex n : Int)) hcell hfr ?_ ?_ ?_ ?_); exact ⟨rfl, rfl⟩; kernel_rfl; rfl; intro W1 hW1
             have hcell3 : W1.cell? ⟨w.heap.size, 65535 + ex n, none⟩ = some (.int .u16 (lgTo n (ex n) : Int)) := by
               rw [hW1, World.cell?_setCell_other _ _ _ _ (by simp)]; exact hcell2
             have hfr3 : W1.frozen? ⟨w.heap.size, 65535 + ex n, none⟩ = false := by rw [hW1, World.frozen?_setCell]; exact hfr2
             have HW1 := hid hW1
             clear hW1 hcell hfr hcell2 hfr2)
          | ((with_reducible refine wpList_st ⟨w.heap.size, 65535 + ex n, none⟩ (.int .u16 (n : Int)) hcell3 hfr3 ?_ ?_ ?_ ?_); exact ⟨rfl, rfl⟩; kernel_rfl; rfl; intro W2 hW2
             have hT2 : TabAt (n + 1) W2 w.heap.size := by rw [hW2, HW1.out]; exact HT.out.next (by omega)
             have hC2 : Chg No w W2 := by rw [hW2, HW1.out]; exact (hC.setCell (.inr (Nat.le_refl _)) _).setCell (.inr (Nat.le_refl _)) _
             clear hW2 hcell3 hfr3 HW1))
        go_roundw
        case rel => exact ⟨n + 1, by omega, by go_num, HV.out, hT2, hC2⟩
        case measure => simp [intOf]; omega
      · have ht : decide ((65535 : Int) < (ex n : Int) * 2) = false := by simp; omega
        have hval : Value.int IntKind.i64 ((ex n : Int) * 2) = Value.int IntKind.i64 (ex (n + 1) : Int) := by
          rw [HX.out, if_neg hbig]; congr 1; omega
        have HV := hid hval
        clear hbig hlt hxor hval
        go_wp2_with (first
          | ((with_reducible refine wpList_st ⟨w.heap.size, n, none⟩ (.int .u16 (ex n : Int)) hcell hfr ?_ ?_ ?_ ?_); exact ⟨rfl, rfl⟩; kernel_rfl; rfl; intro W1 hW1
             have hcell3 : W1.cell? ⟨w.heap.size, 65535 + ex n, none⟩ = some (.int .u16 (lgTo n (ex n) : Int)) := by
               rw [hW1, World.cell?_setCell_other _ _ _ _ (by simp)]; exact hcell2
             have hfr3 : W1.frozen? ⟨w.heap.size, 65535 + ex n, none⟩ = false := by rw [hW1, World.frozen?_setCell]; exact hfr2
             have HW1 := hid hW1
             clear hW1 hcell hfr hcell2 hfr2)
          | ((with_reducible refine wpList_st ⟨w.heap.size, 65535 + ex n, none⟩ (.int .u16 (n : Int)) hcell3 hfr3 ?_ ?_ ?_ ?_); exact ⟨rfl, rfl⟩; kernel_rfl; rfl; intro W2 hW2
             have hT2 : TabAt (n + 1) W2 w.heap.size := by rw [hW2, HW1.out]; exact HT.out.next (by omega)
             have hC2 : Chg No w W2 := by rw [hW2, HW1.out]; exact (hC.setCell (.inr (Nat.le_refl _)) _).setCell (.inr (Nat.le_refl _)) _
             clear hW2 hcell3 hfr3 HW1))
        go_roundw
        case rel => exact ⟨n + 1, by omega, by go_num, HV.out, hT2, hC2⟩
        case measure => simp [intOf]; omega
    · obtain rfl : n = 65535 := by omega
      go_wp2
      go_ret
      exact ⟨rfl, hT, hC⟩
end Go.Proofs.YtpnmmedjamkmeaaGreat

/- Walks of gf16's table lookups. -/
set_option linter.unusedVariables false
set_option linter.unusedSimpArgs false
namespace Go.Proofs.YtpnmmedjamkmeaaGreat
open Go.RowKit

/-- n modulo 65535. -/
def rs (n : Int) : Nat := (n % 65535).toNat
theorem rs_lt (n : Int) : rs n < 65535 := by unfold rs; omega
theorem rs_nat (n : Nat) (h : n < 65535) : rs (n : Int) = n := by unfold rs; omega

theorem residue_rs (n : Int) (w : World) : Calls Tryz.prog 125 #[.int .i64 n] w fun e w' => e = .returned (.int .i64 (rs n : Int)) ∧ w' = w :=
  (residue_calls n w).mono fun e w' ⟨he, hw⟩ => ⟨by rw [he]; exact ret_int (by unfold rs; omega), hw⟩

set_option maxRecDepth 10000 in
theorem Exp_q (b : Nat) (n : Int) (w : World) (hT : Tab w b) :
    Calls Tryz.prog 96 #[.pointer (some ⟨b, 0, none⟩), .int .i64 n] w fun e w' => e = .returned (.int .u16 (ex (rs n) : Int)) ∧ ∃ m, w' = w.drewN m := by
  have hm := rs_lt n
  have h0 : (0 : Int) ≤ (rs n : Int) := by omega
  have h1 : (rs n : Int) < 65535 := by omega
  have hc := hT.exCell hm
  clear hT hm
  go_enter Tryz.func96, Tryz.ntmps96
  go_wp2
  go_quiet ((go_at_call 125; exact Calls.quiet_of_same (residue_rs _ _)))
  go_wp2
  go_ret
  exact ⟨rfl, nq, rfl⟩
theorem Exp_calls (b : Nat) (n : Int) (w : World) (hT : Tab w b) :
    Calls Tryz.prog 96 #[.pointer (some ⟨b, 0, none⟩), .int .i64 n] w fun e w' => e = .returned (.int .u16 (ex (rs n) : Int)) ∧ Chg No w w' :=
  (Exp_q b n w hT).mono fun e w' ⟨he, m, hw⟩ => ⟨he, hw ▸ (Chg.refl _ _).drewN _⟩

set_option maxRecDepth 10000 in
theorem Log_calls (b x : Nat) (w : World) (hT : Tab w b) (hx : x < 65536) (hx0 : x ≠ 0) :
    Calls Tryz.prog 158 #[.pointer (some ⟨b, 0, none⟩), .int .u16 (x : Int)] w fun e w' => e = .returned (.tuple #[.int .i64 (lg x : Int), .int .i64 0]) ∧ Chg No w w' := by
  have ht : ((x : Int) == 0) = false := by simpa using hx0
  have h0 : (0 : Int) ≤ (x : Int) := by omega
  have h1 : (x : Int) < 65536 := by omega
  have hc := hT.lgCell hx
  have hl := lg_lt x
  have hl0 : (0 : Int) ≤ (lg x : Int) := by omega
  have hl1 : (lg x : Int) < 65535 := by omega
  clear hT hx0 hx hl
  go_enter Tryz.func158, Tryz.ntmps158
  go_wp2
  go_ret2
  exact ⟨rfl, Chg.refl _ _⟩

set_option maxRecDepth 10000 in
theorem Log_zero (b : Nat) (w : World) :
    Calls Tryz.prog 158 #[.pointer (some ⟨b, 0, none⟩), .int .u16 (0 : Int)] w fun e w' => e = .returned (.tuple #[.int .i64 0, .int .i64 20]) ∧ Chg No w w' := by
  go_enter Tryz.func158, Tryz.ntmps158
  go_wp2
  go_ret2
  exact ⟨rfl, Chg.refl _ _⟩
theorem Log_any (b x : Nat) (w : World) (hT : Tab w b) (hx : x < 65536) :
    Calls Tryz.prog 158 #[.pointer (some ⟨b, 0, none⟩), .int .u16 (x : Int)] w fun e w' => ∃ er : Int, e = .returned (.tuple #[.int .i64 (lgz x : Int), .int .i64 er]) ∧ Chg No w w' := by
  unfold lgz
  by_cases h : x = 0
  · subst h
    exact (Log_zero b w).mono fun e w' ⟨he, hw⟩ => ⟨20, he, hw⟩
  · rw [if_neg h]
    exact (Log_calls b x w hT hx h).mono fun e w' ⟨he, hw⟩ => ⟨0, he, hw⟩

/-- The product by the tables. -/
def tmul (a b : Nat) : Nat := if a = 0 ∨ b = 0 then 0 else ex ((lg a + lg b) % 65535)
theorem tmul_lt (a b : Nat) : tmul a b < 65536 := by
  unfold tmul
  split
  · omega
  · exact ex_lt _

set_option maxRecDepth 10000 in
theorem Mul_zeroL (b y : Nat) (w : World) :
    Calls Tryz.prog 102 #[.pointer (some ⟨b, 0, none⟩), .int .u16 (0 : Int), .int .u16 (y : Int)] w fun e w' => e = .returned (.int .u16 0) ∧ ∃ m, w' = w.drewN m := by
  go_enter Tryz.func102, Tryz.ntmps102
  go_wp2
  go_ret
  exact ⟨rfl, 0, rfl⟩
set_option maxRecDepth 10000 in
theorem Mul_zeroR (b x : Nat) (w : World) (hx0 : x ≠ 0) :
    Calls Tryz.prog 102 #[.pointer (some ⟨b, 0, none⟩), .int .u16 (x : Int), .int .u16 (0 : Int)] w fun e w' => e = .returned (.int .u16 0) ∧ ∃ m, w' = w.drewN m := by
  have ht : ((x : Int) == 0) = false := by simpa using hx0
  go_enter Tryz.func102, Tryz.ntmps102
  go_wp2
  go_ret
  exact ⟨rfl, 0, rfl⟩
set_option maxRecDepth 10000 in
theorem Mul_pos (b x y : Nat) (w : World) (hT : Tab w b) (hx : x < 65536) (hx0 : x ≠ 0) (hy : y < 65536) (hy0 : y ≠ 0) :
    Calls Tryz.prog 102 #[.pointer (some ⟨b, 0, none⟩), .int .u16 (x : Int), .int .u16 (y : Int)] w fun e w' => e = .returned (.int .u16 (ex ((lg x + lg y) % 65535) : Int)) ∧ ∃ m, w' = w.drewN m := by
  have ht : ((x : Int) == 0) = false := by simpa using hx0
  have ht2 : ((y : Int) == 0) = false := by simpa using hy0
  have hc := hT.lgCell hx
  have hc2 := hT.lgCell hy
  have hlx := lg_lt x
  have hly := lg_lt y
  have hm : (lg x + lg y) % 65535 < 65535 := by omega
  have hc3 := hT.exCell hm
  have b1 : (0 : Int) ≤ (x : Int) := by omega
  have b2 : (x : Int) < 65536 := by omega
  have b3 : (0 : Int) ≤ (y : Int) := by omega
  have b4 : (y : Int) < 65536 := by omega
  have b5 : (0 : Int) ≤ (lg x : Int) := by omega
  have b6 : (lg x : Int) < 65535 := by omega
  have b7 : (0 : Int) ≤ (lg y : Int) := by omega
  have b8 : (lg y : Int) < 65535 := by omega
  have b9 : (0 : Int) ≤ ((lg x : Int) + (lg y : Int)) % 65535 := by omega
  have b10 : ((lg x : Int) + (lg y : Int)) % 65535 < 65535 := by omega
  have e1 : (((lg x : Int) + (lg y : Int)) % 65535).toNat = (lg x + lg y) % 65535 := by omega
  have e2 : IntKind.i64.wrap ((lg x : Int) + (lg y : Int)) = (lg x : Int) + (lg y : Int) := IntWalk.i64_in _ (by omega)
  have e3 : ((lg x : Int) + (lg y : Int)).tmod 65535 = ((lg x : Int) + (lg y : Int)) % 65535 := Int.tmod_eq_emod_of_nonneg (by omega)
  clear hT hx hx0 hy hy0 hlx hly hm
  go_enter Tryz.func102, Tryz.ntmps102
  go_wp2
  go_quiet (fail)
  go_wp2
  go_ret
  exact ⟨rfl, nq, rfl⟩
theorem Mul_q (b x y : Nat) (w : World) (hT : Tab w b) (hx : x < 65536) (hy : y < 65536) :
    Calls Tryz.prog 102 #[.pointer (some ⟨b, 0, none⟩), .int .u16 (x : Int), .int .u16 (y : Int)] w fun e w' => e = .returned (.int .u16 (tmul x y : Int)) ∧ ∃ m, w' = w.drewN m := by
  unfold tmul
  by_cases hx0 : x = 0
  · subst hx0
    rw [if_pos (.inl rfl)]
    exact Mul_zeroL b y w
  · by_cases hy0 : y = 0
    · subst hy0
      rw [if_pos (.inr rfl)]
      exact Mul_zeroR b x w hx0
    · rw [if_neg (by simp [hx0, hy0])]
      exact Mul_pos b x y w hT hx hx0 hy hy0
theorem Mul_calls (b x y : Nat) (w : World) (hT : Tab w b) (hx : x < 65536) (hy : y < 65536) :
    Calls Tryz.prog 102 #[.pointer (some ⟨b, 0, none⟩), .int .u16 (x : Int), .int .u16 (y : Int)] w fun e w' => e = .returned (.int .u16 (tmul x y : Int)) ∧ Chg No w w' :=
  (Mul_q b x y w hT hx hy).mono fun e w' ⟨he, m, hw⟩ => ⟨he, hw ▸ (Chg.refl _ _).drewN _⟩
end Go.Proofs.YtpnmmedjamkmeaaGreat

/- Walks: ring.InvMod, gf16.Inv, Div; the tables' Inv, Div. -/
set_option linter.unusedVariables false
set_option linter.unusedSimpArgs false
namespace Go.Proofs.YtpnmmedjamkmeaaGreat
open Go.RowKit

/-- What holds of the two pairs while InvMod goes on. -/
def InvRel (a X Y S T : Nat) : Prop :=
  X < 131072 ∧ Y < 65536 ∧ S < 65536 ∧ T < 65536 ∧ fe X = gmul S a ∧ fe Y = gmul T a ∧ (∀ d, Dv d X → Dv d Y → Dv d 65581) ∧ blen Y < blen X ∧ (X < 65536 ∨ Y ≠ 0)
theorem InvRel.start {a : Nat} (ha : a < 65536) (h0 : a ≠ 0) : InvRel a 65581 a 0 1 := by
  refine ⟨by omega, ha, by omega, by omega, by rw [fe_poly, zero_gmul], by rw [fe_self ha, one_gmul ha], fun d h _ => h, ?_, .inr h0⟩
  rw [blen_poly]
  have := blen_le (k := 16) (x := a) ha
  omega
theorem InvRel.next {a X Y S T q r : Nat} (ha : a < 65536) (h : InvRel a X Y S T) (hq : q < 131072) (he : X = cm q Y ^^^ r) (hl : blen r < blen Y) :
    InvRel a Y r T (S ^^^ gmul (fe q) (fe T)) := by
  obtain ⟨h1, h2, h3, h4, h5, h6, h7, h8, h9⟩ := h
  have hY := blen_le (k := 16) (x := Y) h2
  have hr : r < 65536 := Nat.lt_of_lt_of_le (blen_lt (x := r)) (show 2 ^ blen r ≤ 2 ^ 16 from Nat.pow_le_pow_right (by omega) (by omega))
  refine ⟨by omega, hr, h4, xor_lt16 h3 (gmul_lt (fe_lt q) _), h6, ?_, fun d hd hd' => h7 d ?_ hd, hl, .inl h2⟩
  · have e : fe r = fe X ^^^ fe (cm q Y) := by
      rw [he, fe_xor, Nat.xor_comm, ← Nat.xor_assoc, Nat.xor_self, Nat.zero_xor]
    rw [e, h5, fe_cm (by omega) 17 (by omega) q hq, h6, fe_self h4]
    have e2 : gmul (S ^^^ gmul (fe q) T) a = gmul S a ^^^ gmul (gmul (fe q) T) a := (add_left a).add _ _ h3 (gmul_lt (fe_lt q) _)
    rw [e2]
    congr 1
    rw [gmul_comm (gmul_lt h4 a) (fe_lt q), ← gmul_assoc (fe_lt q) h4 ha]
  · rw [he]; exact (hd.cm q).xor hd'
theorem InvRel.done {a X S T : Nat} (h : InvRel a X 0 S T) : X = 1 ∧ gmul S a = 1 ∧ S < 65536 := by
  obtain ⟨h1, h2, h3, h4, h5, h6, h7, h8, h9⟩ := h
  have hX : X < 65536 := by rcases h9 with h | h; exact h; exact absurd rfl h
  have hX0 : X ≠ 0 := by intro e; subst e; omega
  have := dv_one hX hX0 (h7 X (Dv.self X) (Dv.zero X))
  subst this
  exact ⟨rfl, by rw [← h5, fe_self (by omega)], h3⟩

set_option maxRecDepth 20000 in
set_option maxHeartbeats 3200000 in
theorem InvMod_calls (a : Nat) (ha : a < 65536) (h0 : a ≠ 0) (w : World) :
    Calls Tryz.prog 154 #[.int .u64 (a : Int), .int .u64 65581] w fun e w' => e = .returned (.tuple #[.int .u64 (ginv a : Int), .int .i64 0]) ∧ w' = w := by
  have H1 := hid (isModulus_calls w)
  have H2 := hid (divMod_calls a 65581 (by omega) (by omega) (by omega) w)
  have H3 := hid (fun a b (ha : a < 131072) (hb : b < 131072) (h : b ≠ 0) => divMod_calls a b ha hb h w)
  have H4 := hid (fun a b (ha : a < 131072) (hb : b < 131072) => mulMod_calls a b ha hb w)
  have HS := hid (InvRel.start ha h0)
  have hpb := blen_poly
  have HPB := hid hpb
  clear hpb
  have HF := hid (fe_self ha)
  have HU := hid (fun b hb h => inv_unique (a := a) (b := b) ha hb h)
  go_enter Tryz.func154, Tryz.ntmps154
  go_wp2_with fail
  refine H1.out.mono ?_
  rintro e w1 ⟨rfl, rfl⟩
  go_wp2_with fail
  refine H2.out.mono ?_
  rintro e w2 ⟨q1, r1, rfl, hq1, hr1, he1, hl1, rfl⟩
  rw [HPB.out] at hl1
  have e1 := rem_poly hq1 he1 hl1
  rw [HF.out] at e1
  subst e1
  clear he1 hl1 H1 H2
  go_wp2_with fail
  go_loopw [7, 8, 9, 10] (fun y x s t wr => ∃ X Y S T : Nat, y = .int .u64 (Y : Int) ∧ x = .int .u64 (X : Int) ∧ s = .int .u64 (S : Int) ∧ t = .int .u64 (T : Int) ∧ InvRel r1 X Y S T ∧ wr = w2) (fun y _ _ _ _ => blen (intOf y).toNat)
  case atStart => exact ⟨65581, r1, 0, 1, rfl, rfl, rfl, rfl, HS.out, rfl⟩
  case round =>
    obtain ⟨X, Y, S, T, rfl, rfl, rfl, rfl, hR, rfl⟩ := hrel
    have HR := hid hR
    obtain ⟨hX, hY, hS, hT, _⟩ := hR
    by_cases hY0 : Y = 0
    · subst hY0
      obtain ⟨hx1, hs1, hs2⟩ := HR.out.done
      subst hx1
      have hsg := HU.out S hs2 hs1
      have HSG := hid hsg
      have hfs := fe_self hs2
      have HFS := hid hfs
      clear hsg hs1 hfs
      go_wp2_with fail
      refine (H3.out S 65581 (by omega) (by omega) (by omega)).mono ?_
      rintro e w3 ⟨q3, r3, rfl, hq3, hr3, he3, hl3, rfl⟩
      rw [HPB.out] at hl3
      have e3 := rem_poly hq3 he3 hl3
      rw [HFS.out] at e3
      subst e3
      clear he3 hl3
      go_wp2_with fail
      go_ret2
      exact ⟨by rw [HSG.out]; rfl, rfl⟩
    · have ht : ((Y : Int) != 0) = true := by simpa using hY0
      go_wp2_with fail
      refine (H3.out X Y hX (by omega) hY0).mono ?_
      rintro e w3 ⟨q3, r3, rfl, hq3, hr3, he3, hl3, rfl⟩
      have hnx := HR.out.next ha hq3 he3 hl3
      have hT2 := hnx.2.2.2.1
      have HNX := hid hnx
      have HL := hid hl3
      clear hnx he3 hl3
      go_wp2_with fail
      refine (H4.out q3 T hq3 (by omega)).mono ?_
      rintro e w4 ⟨rfl, rfl⟩
      have hgl : gmul (fe q3) (fe T) < 65536 := gmul_lt (fe_lt _) _
      generalize gmul (fe q3) (fe T) = m at *
      have hxor := Go.u64_xor_nat S m (by omega) (by omega)
      go_wp2_with fail
      go_roundw
      case rel => exact ⟨Y, r3, T, S ^^^ m, rfl, rfl, rfl, rfl, HNX.out, by first | rfl | trivial⟩
      case measure => simp only [intOf, Int.toNat_natCast]; exact HL.out
end Go.Proofs.YtpnmmedjamkmeaaGreat

/- Walks: gf16.Inv, Div; the tables' Inv, Div; planes.New, refuses, word. -/
set_option linter.unusedVariables false
set_option linter.unusedSimpArgs false
namespace Go.Proofs.YtpnmmedjamkmeaaGreat
open Go.RowKit

theorem tmul_eq {a b : Nat} (ha : a < 65536) (hb : b < 65536) : tmul a b = gmul a b := tmul_gmul ha hb
/-- The quotient (b not 0). -/
def gdiv (a b : Nat) : Nat := gmul a (ginv b)
theorem gdiv_lt {a : Nat} (ha : a < 65536) (b : Nat) : gdiv a b < 65536 := gmul_lt ha _

theorem gInv_calls (a : Nat) (ha : a < 65536) (h0 : a ≠ 0) (w : World) :
    Calls Tryz.prog 142 #[.int .u16 (a : Int)] w fun e w' => e = .returned (.tuple #[.int .u16 (ginv a : Int), .int .i64 0]) ∧ w' = w := by
  have ht : ((a : Int) == 0) = false := by simpa using h0
  have H := hid (InvMod_calls a ha h0 w)
  have hg := ginv_lt a
  clear h0
  go_enter Tryz.func142, Tryz.ntmps142
  go_wp2_with fail
  refine H.out.mono ?_
  rintro e w1 ⟨rfl, rfl⟩
  go_wp2_with fail
  go_ret2
  exact ⟨rfl, rfl⟩
theorem gDiv_calls (a b : Nat) (ha : a < 65536) (hb : b < 65536) (h0 : b ≠ 0) (w : World) :
    Calls Tryz.prog 116 #[.int .u16 (a : Int), .int .u16 (b : Int)] w fun e w' => e = .returned (.tuple #[.int .u16 (gdiv a b : Int), .int .i64 0]) ∧ w' = w := by
  have H := hid (gInv_calls b hb h0 w)
  have H2 := hid (gMul_calls a (ginv b) ha (ginv_lt b) w)
  clear h0
  go_enter Tryz.func116, Tryz.ntmps116
  go_wp2_with fail
  refine H.out.mono ?_
  rintro e w1 ⟨rfl, rfl⟩
  go_wp2_with fail
  refine H2.out.mono ?_
  rintro e w2 ⟨rfl, rfl⟩
  go_wp2_with fail
  go_ret2
  exact ⟨rfl, rfl⟩

set_option maxRecDepth 10000 in
theorem tInv_q (t a : Nat) (ha : a < 65536) (h0 : a ≠ 0) (w : World) (hT : Tab w t) :
    Calls Tryz.prog 124 #[.pointer (some ⟨t, 0, none⟩), .int .u16 (a : Int)] w fun e w' => e = .returned (.tuple #[.int .u16 (ginv a : Int), .int .i64 0]) ∧ ∃ m, w' = w.drewN m := by
  have ht : ((a : Int) == 0) = false := by simpa using h0
  have hc := hT.lgCell ha
  have hl := lg_lt a
  obtain ⟨m, hm⟩ : ∃ m, m = (65535 - lg a) % 65535 := ⟨_, rfl⟩
  have hm2 : m < 65535 := by omega
  have hc3 := hT.exCell hm2
  have b1 : (0 : Int) ≤ (a : Int) := by omega
  have b2 : (a : Int) < 65536 := by omega
  have b5 : (0 : Int) ≤ (lg a : Int) := by omega
  have b6 : (lg a : Int) < 65535 := by omega
  have b9 : (0 : Int) ≤ (m : Int) := by omega
  have b10 : (m : Int) < 65535 := by omega
  have e2 : IntKind.i64.wrap (65535 - (lg a : Int)) = 65535 - (lg a : Int) := IntWalk.i64_in _ (by omega)
  have e3 : (65535 - (lg a : Int)).tmod 65535 = (m : Int) := by
    rw [Int.tmod_eq_emod_of_nonneg (by omega)]; omega
  have e4 : ginv a = ex m := by rw [hm]; rfl
  rw [e4]
  clear hT ha h0 hl hm hm2 e4
  go_enter Tryz.func124, Tryz.ntmps124
  go_wp2
  go_quiet (fail)
  go_wp2
  go_ret2
  exact ⟨rfl, nq, rfl⟩
theorem tDiv_q (t a b : Nat) (ha : a < 65536) (hb : b < 65536) (h0 : b ≠ 0) (w : World) (hT : Tab w t) :
    Calls Tryz.prog 95 #[.pointer (some ⟨t, 0, none⟩), .int .u16 (a : Int), .int .u16 (b : Int)] w fun e w' => e = .returned (.tuple #[.int .u16 (gdiv a b : Int), .int .i64 0]) ∧ ∃ m, w' = w.drewN m := by
  have H := hid (tInv_q t b hb h0 w hT)
  have H2 := hid (fun w hT => Mul_q t a (ginv b) w hT ha (ginv_lt b))
  have HT := hid hT
  have HE := hid (tmul_eq ha (ginv_lt b))
  clear h0 hT
  go_enter Tryz.func95, Tryz.ntmps95
  go_wp2_with fail
  refine H.out.mono ?_
  rintro e w1 ⟨rfl, m, rfl⟩
  go_wp2_with fail
  refine (H2.out (w.drewN m) HT.out).mono ?_
  rintro e w2 ⟨rfl, m2, rfl⟩
  rw [HE.out]
  go_wp2_with fail
  go_ret2
  exact ⟨rfl, m + m2, rfl⟩

/-- A kernel of layer 8: it holds one mark. -/
def Kern (w : World) (b : Nat) : Prop := w.heap[b]? = some (.cells #[.bool true] 138 (0, 0))
theorem pNew_calls (w : World) :
    Calls Tryz.prog 60 #[] w fun e w' => e = .returned (.pointer (some ⟨w.heap.size, 0, none⟩)) ∧ Kern w' w.heap.size ∧ Chg No w w' := by
  go_enter Tryz.func60, Tryz.ntmps60
  go_wp2_with fail
  go_ret
  exact ⟨rfl, heap_alloc_new w _, (Chg.refl _ _).alloc _⟩
theorem refuses_ok (b n c1 c2 : Nat) (p q : Option Addr) (w : World) (hn : n % 2 = 0) (hm : n ≤ maxLen) :
    Calls Tryz.prog 118 #[.pointer (some ⟨b, 0, none⟩), .slice p n c1, .slice q n c2] w fun e w' => e = .returned (.int .i64 0) ∧ w' = w := by
  unfold maxLen at hm
  have ht : ((n : Int) % 2 != 0) = false := by rw [bne_eq_false_iff_eq]; omega
  have ht2 : ((n : Int) % 2 == 0) = true := by rw [beq_iff_eq]; omega
  have ht3 : ((n : Int) != (n : Int)) = false := by simp
  clear hn
  go_enter Tryz.func118, Tryz.ntmps118
  go_wp2_with fail
  go_ret
  exact ⟨rfl, rfl⟩
/-- The word that two bytes make. -/
def wd (lo hi : Nat) : Nat := lo + 256 * hi
theorem wd_lt {lo hi : Nat} (h1 : lo < 256) (h2 : hi < 256) : wd lo hi < 65536 := by unfold wd; omega
theorem word_calls (a b : Nat) (ha : a < 256) (hb : b < 256) (w : World) :
    Calls Tryz.prog 121 #[.int .u8 (a : Int), .int .u8 (b : Int)] w fun e w' => e = .returned (.int .u16 (wd a b : Int)) ∧ w' = w := by
  have hor : bits BinOp.or IntKind.u16 (a : Int) ((b : Int) * 256) = ((wd a b : Nat) : Int) := by
    have e : ((b : Int) * 256) = ((b * 256 : Nat) : Int) := by omega
    rw [e, Go.u16_or_nat a (b * 256) (by omega) (by omega)]
    unfold wd
    have := Nat.two_pow_add_eq_or_of_lt (i := 8) (show a < 2 ^ 8 by omega) b
    rw [show (2 : Nat) ^ 8 * b = b * 256 from by omega] at this
    rw [Nat.or_comm, ← this]
    congr 1; omega
  go_enter Tryz.func121, Tryz.ntmps121
  go_wp2_with fail
  go_ret
  exact ⟨rfl, rfl⟩
end Go.Proofs.YtpnmmedjamkmeaaGreat

/- Walks: planes.of and times: the sixteenfold tables of one factor. -/
set_option linter.unusedVariables false
set_option linter.unusedSimpArgs false
namespace Go.Proofs.YtpnmmedjamkmeaaGreat
open Go.RowKit

/-- The i-th cell of a factor's quarters. -/
def qv (c i : Nat) : Nat := gmul c (i % 16 * 16 ^ (i / 16))
/-- The first M cells of the quarters, then zeros. -/
def quart (c M : Nat) : List Nat := (List.range 64).map fun i => if i < M then qv c i else 0
@[simp] theorem quart_length (c M : Nat) : (quart c M).length = 64 := by simp [quart]
theorem gn_quart (c M i : Nat) (h : i < 64) : gn (quart c M) i = if i < M then qv c i else 0 := by
  rw [gn_get _ _ (by simpa using h)]; simp [quart]
theorem quart_next (c M : Nat) (h : M < 64) : (quart c M).set M (qv c M) = quart c (M + 1) := by
  apply ext_gn (by simp)
  intro i hi
  rw [List.length_set, quart_length] at hi
  rw [gn_set _ _ _ _ (by simpa using h), gn_quart _ _ _ hi, gn_quart _ _ _ hi]
  by_cases e : i = M
  · subst e; simp
  · rw [if_neg e]
    by_cases h1 : i < M
    · rw [if_pos h1, if_pos (by omega)]
    · rw [if_neg h1, if_neg (by omega)]
theorem qv_zero (c n : Nat) : qv c (16 * n) = 0 := by
  unfold qv
  rw [show 16 * n % 16 = 0 from by omega, Nat.zero_mul, gmul_zero]
theorem quart_skip (c n : Nat) : quart c (16 * n + 1) = quart c (16 * n) := by
  apply ext_gn (by simp)
  intro i hi
  rw [quart_length] at hi
  rw [gn_quart _ _ _ hi, gn_quart _ _ _ hi]
  by_cases e : i = 16 * n
  · subst e; rw [qv_zero]; simp
  · by_cases h1 : i < 16 * n
    · rw [if_pos h1, if_pos (by omega)]
    · rw [if_neg h1, if_neg (by omega)]
theorem qv_lt {c : Nat} (hc : c < 65536) (i : Nat) : qv c i < 65536 := gmul_lt hc _
theorem mul_pow_xor (a b n : Nat) : (a ^^^ b) * 16 ^ n = a * 16 ^ n ^^^ b * 16 ^ n := by
  have e : ∀ x, x * 16 ^ n = x <<< (4 * n) := fun x => by rw [Nat.shiftLeft_eq, Nat.pow_mul]
  rw [e, e, e]
  apply Nat.eq_of_testBit_eq
  intro i
  simp only [Nat.testBit_shiftLeft, Nat.testBit_xor]
  cases decide (i ≥ 4 * n) <;> simp
theorem word_bound {x n : Nat} (hx : x < 16) (hn : n < 4) : x * 16 ^ n < 65536 := by
  have : (16 : Nat) ^ n ≤ 16 ^ 3 := Nat.pow_le_pow_right (by omega) (by omega)
  have h2 : x * 16 ^ n ≤ 15 * 16 ^ 3 := Nat.mul_le_mul (by omega) this
  omega
theorem qv_sum {c n p low : Nat} (hn : n < 4) (hp : p < 4) (hl : low < 2 ^ p) :
    gmul c (2 ^ p * 16 ^ n) ^^^ qv c (16 * n + low) = qv c (16 * n + 2 ^ p + low) := by
  have h2 : 2 ^ p ≤ 2 ^ 3 := Nat.pow_le_pow_right (by omega) (by omega)
  unfold qv
  rw [show (16 * n + low) % 16 = low from by omega, show (16 * n + low) / 16 = n from by omega,
    show (16 * n + 2 ^ p + low) % 16 = 2 ^ p + low from by omega, show (16 * n + 2 ^ p + low) / 16 = n from by omega]
  have e : 2 ^ p + low = 2 ^ p ^^^ low := by
    have := Nat.two_pow_add_eq_or_of_lt hl 1
    rw [Nat.mul_one] at this
    rw [this]
    apply Nat.eq_of_testBit_eq
    intro i
    simp only [Nat.testBit_or, Nat.testBit_xor, Nat.testBit_two_pow]
    by_cases hi : p = i
    · subst hi; simp [Nat.testBit_lt_two_pow hl]
    · simp [hi]
  rw [e, mul_pow_xor, (add_right c).2 _ _ (word_bound (by omega) hn) (word_bound (by omega) hn)]
/-- A word's product by the four tables. -/
theorem qv_word {c x : Nat} (hx : x < 65536) :
    ((qv c (x % 16) ^^^ qv c (16 + x / 16 % 16)) ^^^ qv c (32 + x / 256 % 16)) ^^^ qv c (48 + x / 4096) = gmul c x := by
  unfold qv
  rw [show x % 16 % 16 = x % 16 from by omega, show x % 16 / 16 = 0 from by omega,
    show (16 + x / 16 % 16) % 16 = x / 16 % 16 from by omega, show (16 + x / 16 % 16) / 16 = 1 from by omega,
    show (32 + x / 256 % 16) % 16 = x / 256 % 16 from by omega, show (32 + x / 256 % 16) / 16 = 2 from by omega,
    show (48 + x / 4096) % 16 = x / 4096 from by omega, show (48 + x / 4096) / 16 = 3 from by omega]
  have join : ∀ a b n, a < 2 ^ n → a ^^^ b * 2 ^ n = a + b * 2 ^ n := by
    intro a b n ha
    have := Nat.two_pow_add_eq_or_of_lt ha b
    rw [Nat.mul_comm b, Nat.add_comm a, this]
    apply Nat.eq_of_testBit_eq
    intro i
    rw [Nat.testBit_or, Nat.testBit_xor]
    by_cases h : i < n
    · have : (2 ^ n * b).testBit i = false := by
        rw [Nat.testBit_two_pow_mul]; simp; omega
      simp [this]
    · have : a.testBit i = false := Nat.testBit_lt_two_pow (Nat.lt_of_lt_of_le ha (Nat.pow_le_pow_right (by omega) (by omega)))
      simp [this]
  rw [← (add_right c).2 _ _ (by omega) (by omega), ← (add_right c).2 _ _ _ (by omega), ← (add_right c).2 _ _ _ (by omega)]
  · have e1 := join (x % 16) (x / 16 % 16) 4 (by omega)
    have e2 := join (x % 16 + x / 16 % 16 * 2 ^ 4) (x / 256 % 16) 8 (by omega)
    have e3 := join (x % 16 + x / 16 % 16 * 2 ^ 4 + x / 256 % 16 * 2 ^ 8) (x / 4096) 12 (by omega)
    congr 1
    show (((x % 16 * 1) ^^^ (x / 16 % 16 * 2 ^ 4)) ^^^ (x / 256 % 16 * 2 ^ 8)) ^^^ (x / 4096 * 2 ^ 12) = x
    rw [Nat.mul_one, e1, e2, e3]; omega
  · have e1 := join (x % 16) (x / 16 % 16) 4 (by omega)
    have e2 := join (x % 16 + x / 16 % 16 * 2 ^ 4) (x / 256 % 16) 8 (by omega)
    show ((x % 16 * 1) ^^^ (x / 16 % 16 * 2 ^ 4)) ^^^ (x / 256 % 16 * 2 ^ 8) < _
    rw [Nat.mul_one, e1, e2]; omega
  · have e1 := join (x % 16) (x / 16 % 16) 4 (by omega)
    show (x % 16 * 1) ^^^ (x / 16 % 16 * 2 ^ 4) < _
    rw [Nat.mul_one, e1]; omega
/-- A factor's quarters lie in a block. -/
def Qs (w : World) (g c M : Nat) : Prop := Own w 181 g (nv .u16 (quart c M)) []

theorem build0 : (List.replicate 64 (Value.int .u16 0)) = nv .u16 (quart 0 0) := by kernel_rfl
theorem quart_zero (c : Nat) : quart c 0 = quart 0 0 := by simp [quart]
set_option maxRecDepth 20000 in
set_option maxHeartbeats 1600000 in
theorem of_calls (c : Nat) (hc : c < 65536) (w : World) :
    Calls Tryz.prog 119 #[.int .u16 (c : Int)] w fun e w' => e = .returned (.pointer (some ⟨w.heap.size, 0, none⟩)) ∧ Qs w' w.heap.size c 64 ∧ Chg No w w' := by
  have HM := hid (fun x (hx : x < 65536) w => gMul_calls c x hc hx w)
  have HQ0 := hid (quart_zero c)
  have HSK := hid (quart_skip c)
  have HQN := hid (quart_next c)
  have HQS := hid (fun n p low => @qv_sum c n p low)
  have HQL := hid (qv_lt hc)
  have HML := hid (gmul_lt hc)
  go_enter Tryz.func119, Tryz.ntmps119
  go_wp2_with fail
  have hQ : Qs (w.alloc (.cells (List.replicate 64 (Value.int .u16 0)).toArray 181)) w.heap.size c 0 := by
    unfold Qs
    rw [HQ0.out, ← build0]
    have := Own.made w 181 (List.replicate 64 (Value.int .u16 0)) []
    rwa [List.append_nil] at this
  have hC : Chg No w (w.alloc (.cells (List.replicate 64 (Value.int .u16 0)).toArray 181)) := (Chg.refl _ _).alloc _
  generalize hw1 : (w.alloc _ : World) = w1
  have hw2 : w.alloc (.cells (List.replicate 64 (Value.int .u16 0)).toArray 181) = w1 := hw1
  rw [hw2] at hQ hC
  clear hw1 hw2
  generalize (Value.agg _ : Value) = v8
  go_loopw [10] (fun i wr => ∃ n : Nat, n ≤ 4 ∧ i = .int .i64 (n : Int) ∧ Qs wr w.heap.size c (16 * n) ∧ Chg No w wr) (fun i _ => 4 - (intOf i).toNat)
  case atStart => exact ⟨0, by omega, rfl, hQ, hC⟩
  case round =>
    obtain ⟨n, hn, rfl, hQ1, hC1⟩ := hrel
    clear hQ hC
    obtain ⟨w2, rfl⟩ : ∃ w2 : World, w2 = wr := ⟨_, rfl⟩
    by_cases hn4 : n < 4
    · have n0 : (0 : Int) ≤ (n : Int) := by omega
      have n1 : (n : Int) < 4 := by omega
      unfold Qs at hQ1
      rw [← HSK.out] at hQ1
      have HQ1 := hid hQ1
      have HC1 := hid hC1
      clear hQ1 hC1
      go_wp2_with fail
      go_loopw [5] (fun b wr => ∃ p : Nat, p ≤ 4 ∧ b = .int .i64 ((2 ^ p : Nat) : Int) ∧ Qs wr w.heap.size c (16 * n + 2 ^ p) ∧ Chg No w wr) (fun b _ => 16 - (intOf b).toNat)
      case atStart => exact ⟨0, by omega, rfl, HQ1.out, HC1.out⟩
      case round =>
        obtain ⟨p, hp, rfl, hQ2, hC2⟩ := hrel
        clear HQ1 HC1
        obtain ⟨w3, rfl⟩ : ∃ w3 : World, w3 = wr := ⟨_, rfl⟩
        by_cases hp4 : p < 4
        · have hb8 : 2 ^ p ≤ 2 ^ 3 := Nat.pow_le_pow_right (by omega) (by omega)
          have hb1 : 1 ≤ 2 ^ p := Nat.one_le_two_pow
          have HP1 := hid (show 2 ^ (p + 1) = 2 * 2 ^ p by rw [Nat.pow_succ, Nat.mul_comm])
          have HWB := hid (word_bound (x := 2 ^ p) (n := n) (by omega) hn4)
          have HS := hid (fun low => HQS.out n p low hn4 hp4)
          have EW : IntKind.u16.wrap (((2 ^ p : Nat) : Int) * 2 ^ (4 * n)) = ((2 ^ p * 16 ^ n : Nat) : Int) := by
            have : (((2 ^ p : Nat) : Int) * 2 ^ (4 * n)) = ((2 ^ p * 16 ^ n : Nat) : Int) := by
              rw [show (16 : Nat) ^ n = 2 ^ (4 * n) from by rw [Nat.pow_mul]]; simp
            rw [this]
            exact IntWalk.u16_in _ (by have := HWB.out; omega)
          have HEW := hid EW
          clear EW HQS
          generalize 2 ^ p = b at *
          have d1 : decide ((b : Int) < 16) = true := by simp; omega
          have b0 : (0 : Int) ≤ (b : Int) := by omega
          have b9 : (b : Int) ≤ 8 := by omega
          have HQ2 := hid hQ2
          have HC2 := hid hC2
          clear hQ2 hC2
          go_wp2_with fail
          rw [HEW.out]
          refine (HM.out _ HWB.out _).mono ?_
          rintro e w4 ⟨rfl, rfl⟩
          go_wp2_with fail
          go_loopw [25] (fun l wr => ∃ low : Nat, low ≤ b ∧ l = .int .i64 (low : Int) ∧ Qs wr w.heap.size c (16 * n + b + low) ∧ Chg No w wr) (fun l _ => b - (intOf l).toNat)
          case atStart => exact ⟨0, by omega, rfl, HQ2.out, HC2.out⟩
          case round =>
            obtain ⟨low, hlw, rfl, hQ3, hC3⟩ := hrel
            obtain ⟨w5, rfl⟩ : ∃ w5 : World, w5 = wr := ⟨_, rfl⟩
            by_cases hlt : low < b
            · have d2 : decide (low < b) = true := by simpa using hlt
              have l0 : (0 : Int) ≤ (low : Int) := by omega
              have l1 : (low : Int) < (b : Int) := by omega
              have HX := hid (HS.out low hlt)
              unfold Qs at hQ3
              have h1 : 16 * n + low < 64 := by omega
              have h2 : 16 * n + b + low < 64 := by omega
              have c1 := hQ3.nat (i := 16 * n + low) (by simp; omega)
              rw [gn_quart _ _ _ h1, if_pos (by omega), show 16 * n + low = n * 16 + low from by omega] at c1
              have c2 := hQ3.nat (i := 16 * n + b + low) (by simp; omega)
              obtain ⟨sm, hsm⟩ : ∃ sm, sm = b + low := ⟨_, rfl⟩
              rw [show 16 * n + b + low = n * 16 + sm from by omega] at c2
              have hf := hQ3.frozen (n * 16 + sm)
              have l2 : (low : Int) < 16 := by omega
              have EA : IntKind.i64.wrap ((b : Int) + (low : Int)) = (sm : Int) := by rw [IntWalk.i64_in _ (by omega)]; omega
              have l3 : (0 : Int) ≤ (sm : Int) := by omega
              have l4 : (sm : Int) < 16 := by omega
              have HE := hid (show 16 * n + b + low = n * 16 + sm from by omega)
              clear hsm
              have HN := hid (HQN.out (16 * n + b + low) h2)
              have HO := hid hQ3
              have HC3 := hid hC3
              rw [show 16 * n + low = n * 16 + low from by omega] at HX
              have hql := HQL.out (n * 16 + low)
              have hml := HML.out (b * 16 ^ n)
              clear hQ3 hC3
              generalize gmul c (b * 16 ^ n) = pr at *
              generalize qv c (n * 16 + low) = qq at *
              go_wp2_with fail
              go_still_tail 17, (by kernel_rfl)
              go_wp2_with fail
              rw [Go.u16_xor_nat _ _ hml hql]
              go_roundw
              case rel => exact ⟨low + 1, by omega, by go_num, by
                unfold Qs
                rw [show 16 * n + b + (low + 1) = 16 * n + b + low + 1 from by omega, ← HN.out, ← HX.out, HE.out]
                have hO := HO.out
                rw [HE.out] at hO
                exact (hO.setNat (by simp; have := HE.out; omega) _).drew, (HC3.out.setCell (p := ⟨w.heap.size, n * 16 + sm, none⟩) (.inr (Nat.le_refl _)) _).drew⟩
              case measure => simp [intOf]; omega
            · obtain rfl : low = b := by omega
              go_wp2_with fail
              go_roundw
              case rel => exact ⟨p + 1, by omega, by rw [HP1.out]; go_num, by
                rw [HP1.out, show 16 * n + 2 * low = 16 * n + low + low from by omega]; exact hQ3, hC3⟩
              case measure => simp [intOf]; omega
        · obtain rfl : p = 4 := by omega
          go_wp2_with fail
          go_roundw
          case rel => exact ⟨n + 1, by omega, by go_num, by exact hQ2, hC2⟩
          case measure => simp [intOf]; omega
    · obtain rfl : n = 4 := by omega
      go_wp2_with fail
      go_ret
      exact ⟨rfl, hQ1, hC1⟩

theorem u16_and15 (x : Nat) (hx : x < 65536) : bits BinOp.and IntKind.u16 (x : Int) 15 = ((x % 16 : Nat) : Int) := by
  rw [show (15 : Int) = ((15 : Nat) : Int) from rfl, Go.u16_and_nat _ _ hx (by omega)]
  congr 1
  exact Nat.and_two_pow_sub_one_eq_mod x 4
set_option maxRecDepth 20000 in
theorem times_q (g c x : Nat) (hc : c < 65536) (hx : x < 65536) (w : World) (hQ : Qs w g c 64) :
    Calls Tryz.prog 120 #[.pointer (some ⟨g, 0, none⟩), .int .u16 (x : Int)] w fun e w' => e = .returned (.int .u16 (gmul c x : Int)) ∧ ∃ m, w' = w.drewN m := by
  unfold Qs at hQ
  have HX := hid (@qv_word c x hx)
  have hq : ∀ i, i < 64 → w.cell? ⟨g, i, none⟩ = some (.int .u16 (qv c i : Int)) := fun i hi => by
    have := hQ.nat (i := i) (by simpa using hi)
    rwa [gn_quart _ _ _ hi, if_pos hi] at this
  have E0 : bits BinOp.and IntKind.u16 (x : Int) 15 = ((x % 16 : Nat) : Int) := u16_and15 x hx
  have E1 : bits BinOp.and IntKind.u16 ((x : Int) / 16) 15 = ((x / 16 % 16 : Nat) : Int) := u16_and15 (x / 16) (by omega)
  have E2 : bits BinOp.and IntKind.u16 ((x : Int) / 256) 15 = ((x / 256 % 16 : Nat) : Int) := u16_and15 (x / 256) (by omega)
  have E3 : (x : Int) / 4096 = ((x / 4096 : Nat) : Int) := by omega
  obtain ⟨a0, h0⟩ : ∃ a0, x % 16 = a0 := ⟨_, rfl⟩
  obtain ⟨a1, h1⟩ : ∃ a0, x / 16 % 16 = a0 := ⟨_, rfl⟩
  obtain ⟨a2, h2⟩ : ∃ a0, x / 256 % 16 = a0 := ⟨_, rfl⟩
  obtain ⟨a3, h3⟩ : ∃ a0, x / 4096 = a0 := ⟨_, rfl⟩
  rw [h0] at E0 HX
  rw [h1] at E1 HX
  rw [h2] at E2 HX
  rw [h3] at E3 HX
  have c1 := hq a0 (by omega)
  have c2 := hq (16 + a1) (by omega)
  have c3 := hq (32 + a2) (by omega)
  have c4 := hq (48 + a3) (by omega)
  have q1 := qv_lt hc a0
  have q2 := qv_lt hc (16 + a1)
  have q3 := qv_lt hc (32 + a2)
  have q4 := qv_lt hc (48 + a3)
  have b0 : (0 : Int) ≤ (a0 : Int) := by omega
  have b0' : (a0 : Int) < 16 := by omega
  have b1 : (0 : Int) ≤ (a1 : Int) := by omega
  have b1' : (a1 : Int) < 16 := by omega
  have b2 : (0 : Int) ≤ (a2 : Int) := by omega
  have b2' : (a2 : Int) < 16 := by omega
  have b3 : (0 : Int) ≤ (a3 : Int) := by omega
  have b3' : (a3 : Int) < 16 := by omega
  clear h0 h1 h2 h3
  generalize qv c a0 = y0 at *
  generalize qv c (16 + a1) = y1 at *
  generalize qv c (32 + a2) = y2 at *
  generalize qv c (48 + a3) = y3 at *
  have x0 : (0 : Int) ≤ (x : Int) := by omega
  have x1 : (x : Int) < 65536 := by omega
  clear hQ hq
  go_enter Tryz.func120, Tryz.ntmps120
  go_wp2_with fail
  go_quiet (fail)
  go_wp2_with fail
  rw [Go.u16_xor_nat _ _ q1 q2, Go.u16_xor_nat _ _ (Nat.xor_lt_two_pow (n := 16) q1 q2) q3, Go.u16_xor_nat _ _ (Nat.xor_lt_two_pow (n := 16) (Nat.xor_lt_two_pow (n := 16) q1 q2) q3) q4, HX.out]
  go_ret
  exact ⟨rfl, nq, rfl⟩
end Go.Proofs.YtpnmmedjamkmeaaGreat

/- The walk of planes.MulAdd. -/
set_option linter.unusedVariables false
set_option linter.unusedSimpArgs false
namespace Go.Proofs.YtpnmmedjamkmeaaGreat
open Go.RowKit

/-- What a slice's elements read as: numbers. -/
def Rn (w : World) (k : IntKind) (p : Option Addr) (l : List Nat) : Prop :=
  ∀ i, i < l.length → ∃ b off, p = some ⟨b, off, none⟩ ∧ w.cell? ⟨b, off + i, none⟩ = some (.int k (gn l i : Int))
theorem Rn.kept {w w' : World} {S : Nat → Prop} {k : IntKind} {p : Option Addr} {l : List Nat} (h : Rn w k p l) (hc : Chg S w w') (hs : ∀ a, p = some a → ¬ S a.block) : Rn w' k p l := by
  intro i hi
  obtain ⟨b, off, rfl, hcell⟩ := h i hi
  exact ⟨b, off, rfl, hc.cell hcell (hs ⟨b, off, none⟩ rfl)⟩
theorem Rn.keptNo {w w' : World} {k : IntKind} {p : Option Addr} {l : List Nat} (h : Rn w k p l) (hc : Chg No w w') : Rn w' k p l := h.kept hc fun _ _ h => h
theorem Own.rn {w : World} {e : TypeId} {g : Nat} {k : IntKind} {l : List Nat} {rest : List Value} (h : Own w e g (nv k l) rest) : Rn w k (some ⟨g, 0, none⟩) l :=
  fun i hi => ⟨g, 0, rfl, by simpa using h.nat hi⟩

/-- The i-th byte of c times the words of s. -/
def mb (c : Nat) (s : List Nat) (i : Nat) : Nat :=
  if i % 2 = 0 then gmul c (wd (gn s i) (gn s (i + 1))) % 256 else gmul c (wd (gn s (i - 1)) (gn s i)) / 256
/-- d and c times s added to its first k bytes. -/
def maddTo (c : Nat) (s d : List Nat) (k : Nat) : List Nat := (List.range d.length).map fun i => if i < k then gn d i ^^^ mb c s i else gn d i
def madd (c : Nat) (s d : List Nat) : List Nat := maddTo c s d d.length
@[simp] theorem maddTo_length (c : Nat) (s d : List Nat) (k : Nat) : (maddTo c s d k).length = d.length := by simp [maddTo]
@[simp] theorem madd_length (c : Nat) (s d : List Nat) : (madd c s d).length = d.length := by simp [madd]
theorem gn_maddTo (c : Nat) (s d : List Nat) (k i : Nat) (h : i < d.length) : gn (maddTo c s d k) i = if i < k then gn d i ^^^ mb c s i else gn d i := by
  rw [gn_get _ _ (by simpa using h)]; simp [maddTo]
theorem maddTo_zero (c : Nat) (s d : List Nat) : maddTo c s d 0 = d := by
  apply ext_gn (by simp)
  intro i hi
  rw [gn_maddTo _ _ _ _ _ (by simpa using hi)]; simp
theorem maddTo_next (c : Nat) (s d : List Nat) (k : Nat) (h : k < d.length) : (maddTo c s d k).set k (gn d k ^^^ mb c s k) = maddTo c s d (k + 1) := by
  apply ext_gn (by simp)
  intro i hi
  rw [List.length_set, maddTo_length] at hi
  rw [gn_set _ _ _ _ (by simpa using h), gn_maddTo _ _ _ _ _ hi, gn_maddTo _ _ _ _ _ hi]
  by_cases e : i = k
  · subst e; simp
  · rw [if_neg e]
    by_cases h1 : i < k
    · rw [if_pos h1, if_pos (by omega)]
    · rw [if_neg h1, if_neg (by omega)]
theorem mb_lt {c : Nat} (hc : c < 65536) (s : List Nat) (i : Nat) : mb c s i < 256 := by
  unfold mb
  split
  · omega
  · have := gmul_lt hc (wd (gn s (i - 1)) (gn s i)); omega

/-- How planes.MulAdd is called. -/
structure MulAddAt (w : World) (b c g n : Nat) (p : Option Addr) (s d : List Nat) (rest : List Value) : Prop where
  hn : n % 2 = 0
  hm : n ≤ maxLen
  hc : c < 65536
  ld : d.length = n
  ls : s.length = n
  bd : ∀ i, gn d i < 256
  bs : ∀ i, gn s i < 256
  ho : Own w 5 g (nv .u8 d) rest
  hr : Rn w .u8 p s
  ne : ∀ a, p = some a → a.block ≠ g

set_option maxRecDepth 20000 in
set_option maxHeartbeats 1600000 in
theorem MulAdd_calls (b c g n cap1 cap2 : Nat) (p : Option Addr) (s d : List Nat) (rest : List Value) (w : World) (H : MulAddAt w b c g n p s d rest) :
    Calls Tryz.prog 91 #[.pointer (some ⟨b, 0, none⟩), .int .u16 (c : Int), .slice (some ⟨g, 0, none⟩) n cap1, .slice p n cap2] w fun e w' => e = .returned (.int .i64 0) ∧ Own w' 5 g (nv .u8 (madd c s d)) rest ∧ Chg (Only g) w w' := by
  have H := hid H
  have HR := hid (refuses_ok b n cap1 cap2 (some ⟨g, 0, none⟩) p w H.out.hn H.out.hm)
  have HO := hid (of_calls c H.out.hc w)
  have hmx := H.out.hm
  unfold maxLen at hmx
  go_enter Tryz.func91, Tryz.ntmps91
  go_wp2_with fail
  refine HR.out.mono ?_
  rintro e w1 ⟨rfl, rfl⟩
  go_wp2_with fail
  refine HO.out.mono ?_
  rintro e w2 ⟨rfl, hQ, hC⟩
  have HQ := hid hQ
  have HC := hid hC
  clear hQ hC HR HO
  obtain ⟨q, hq⟩ : ∃ q, q = w1.heap.size := ⟨_, rfl⟩
  have hgq : g < q := by rw [hq]; exact H.out.ho.lt
  have hqq : q ≤ w1.heap.size := by omega
  rw [← hq] at HQ ⊢
  clear hq
  go_wp2_with fail
  go_loopw [11] (fun i wr => ∃ k : Nat, k ≤ n ∧ k % 2 = 0 ∧ i = .int .i64 (k : Int) ∧ Own wr 5 g (nv .u8 (maddTo c s d k)) rest ∧ Chg (Only g) w2 wr) (fun i _ => n - (intOf i).toNat)
  case atStart => exact ⟨0, by omega, by omega, rfl, by rw [maddTo_zero]; exact H.out.ho.keptNo HC.out, Chg.refl _ _⟩
  case round =>
    obtain ⟨k, hk, hk2, rfl, hO, hCW⟩ := hrel
    obtain ⟨w3, rfl⟩ : ∃ w3 : World, w3 = wr := ⟨_, rfl⟩
    by_cases hlt : k < n
    · have hk1 : k + 1 < n := by have := H.out.hn; omega
      obtain ⟨bb, off, rfl, c1⟩ := H.out.hr k (by rw [H.out.ls]; omega)
      obtain ⟨bb', off', he, c2⟩ := H.out.hr (k + 1) (by rw [H.out.ls]; omega)
      obtain ⟨rfl, rfl⟩ : bb = bb' ∧ off = off' := by simpa using he
      have hbg : bb ≠ g := H.out.ne _ rfl
      have c1 := hCW.cell (HC.out.cell c1 id) (by simpa [Only] using hbg)
      have c2 := hCW.cell (HC.out.cell c2 id) (by simpa [Only] using hbg)
      clear he
      have c3 := hO.nat (i := k) (by rw [maddTo_length, H.out.ld]; omega)
      rw [gn_maddTo _ _ _ _ _ (by rw [H.out.ld]; omega), if_neg (by omega)] at c3
      have f3 := hO.frozen k
      have hQ3 : Qs w3 q c 64 := (show Own _ _ _ _ _ from HQ.out).kept hCW (by simp [Only]; omega)
      have HW := hid (word_calls (gn s k) (gn s (k + 1)) (H.out.bs _) (H.out.bs _))
      have HT := hid (times_q q c (wd (gn s k) (gn s (k + 1))) H.out.hc (wd_lt (H.out.bs _) (H.out.bs _)))
      have HQ3 := hid hQ3
      have HO3 := hid hO
      have HC3 := hid hCW
      have hgl := gmul_lt H.out.hc (wd (gn s k) (gn s (k + 1)))
      have HB1 : Hid (mb c s k = gmul c (wd (gn s k) (gn s (k + 1))) % 256) := hid (by unfold mb; rw [if_pos hk2])
      have HB2 : Hid (mb c s (k + 1) = gmul c (wd (gn s k) (gn s (k + 1))) / 256) := hid (by unfold mb; rw [if_neg (by omega), Nat.add_sub_cancel])
      clear hQ3 hO hCW
      go_wp2_with fail
      go_quiet (first
        | (go_at_call 121; exact Calls.quiet_of_same (HW.out _))
        | (go_at_call 120; exact Calls.quiet_of (HT.out _ HQ3.out)))
      generalize gmul c (wd (gn s k) (gn s (k + 1))) = x at *
      obtain ⟨w4, hw4⟩ : ∃ w4, w4 = w3.drewN nq := ⟨_, rfl⟩
      have hO4 : Own w4 5 g (nv .u8 (maddTo c s d k)) rest := by rw [hw4]; exact HO3.out.drewN _
      have hC4 : Chg (Only g) w2 w4 := by rw [hw4]; exact HC3.out.drewN _
      rw [← hw4]
      have hld := H.out.ld
      have k0 : (0 : Int) ≤ (k : Int) := by omega
      have k1 : (k : Int) + 1 < (n : Int) := by omega
      have c3 := hO4.nat (i := k) (by rw [maddTo_length]; omega)
      rw [gn_maddTo _ _ _ _ _ (by omega), if_neg (by omega)] at c3
      have f3 := hO4.frozen k
      have HO4 := hid hO4
      have HC4 := hid hC4
      clear hw4 hO4 hC4
      have HD1 := hid (H.out.bd k)
      have HD2 := hid (H.out.bd (k + 1))
      have HN1 := hid (maddTo_next c s d k (by omega))
      have HN2 := hid (maddTo_next c s d (k + 1) (by omega))
      have HG2 := hid (gn_maddTo c s d (k + 1) (k + 1) (by omega))
      have HV1 : Hid (bits BinOp.xor IntKind.u8 (gn d k : Int) ((x : Int) % 256) = ((gn d k ^^^ mb c s k : Nat) : Int)) := hid (by
        rw [HB1.out, ← Go.u8_xor_nat _ _ (H.out.bd k) (by omega)]; rfl)
      have HV2 : Hid (bits BinOp.xor IntKind.u8 (gn d (k + 1) : Int) ((x : Int) / 256) = ((gn d (k + 1) ^^^ mb c s (k + 1) : Nat) : Int)) := hid (by
        rw [HB2.out, ← Go.u8_xor_nat _ _ (H.out.bd (k + 1)) (by omega)]; rfl)
      generalize gn d k = d0 at *
      generalize gn d (k + 1) = d1 at *
      have x0 : (0 : Int) ≤ (x : Int) := by omega
      have x1 : (x : Int) < 65536 := by omega
      have x2 : (x : Int) / 256 % 256 = (x : Int) / 256 := by omega
      go_wp2_with (first
        | ((with_reducible refine wpList_st ⟨g, k, none⟩ (.int .u8 (bits BinOp.xor IntKind.u8 (d0 : Int) ((x : Int) % 256))) c3 f3 ?_ ?_ ?_ ?_); exact ⟨rfl, rfl⟩; kernel_rfl; rfl; intro W1 hW1
           have hO5 : Own W1 5 g (nv .u8 (maddTo c s d (k + 1))) rest := by
             rw [hW1, HV1.out, ← HN1.out]; exact HO4.out.setNat (by rw [maddTo_length]; omega) _
           have hC5 : Chg (Only g) w2 W1 := by rw [hW1]; exact HC4.out.setCell (p := ⟨g, k, none⟩) (.inl rfl) _
           clear hW1 c3 f3
           have c4 := hO5.nat (i := k + 1) (by rw [maddTo_length]; omega)
           rw [HG2.out, if_neg (by omega)] at c4
           have f4 := hO5.frozen (k + 1)
           have HO5 := hid hO5
           have HC5 := hid hC5
           clear hO5 hC5)
        | ((with_reducible refine wpList_st ⟨g, k + 1, none⟩ (.int .u8 (bits BinOp.xor IntKind.u8 (d1 : Int) ((x : Int) / 256))) c4 f4 ?_ ?_ ?_ ?_); exact ⟨rfl, rfl⟩; kernel_rfl; rfl; intro W2 hW2
           have hO6 : Own W2 5 g (nv .u8 (maddTo c s d (k + 1 + 1))) rest := by
             rw [hW2, HV2.out, ← HN2.out]; exact HO5.out.setNat (by rw [maddTo_length]; omega) _
           have hC6 : Chg (Only g) w2 W2 := by rw [hW2]; exact HC5.out.setCell (p := ⟨g, k + 1, none⟩) (.inl rfl) _
           clear hW2 c4 f4))
      go_roundw
      case rel => exact ⟨k + 1 + 1, by omega, by omega, by go_num, hO6, hC6⟩
      case measure => simp [intOf]; omega
    · obtain rfl : k = n := by omega
      go_wp2_with fail
      go_ret
      refine ⟨rfl, ?_, ?_⟩
      · unfold madd; rw [H.out.ld]; exact hO
      · exact (show Chg (Only g) w1 w2 from HC.out.no).trans hCW
end Go.Proofs.YtpnmmedjamkmeaaGreat

/- Memory words: lists of rows, read (Lr) and owned (Rws). -/
set_option linter.unusedSimpArgs false
set_option linter.unusedVariables false
set_option linter.unusedSimpArgs false
namespace Go.Proofs.YtpnmmedjamkmeaaGreat
open Go.RowKit

/-- A list's element, under a name that simp does not open. -/
def gl (l : List (List Nat)) (i : Nat) : List Nat := l.getD i []
theorem gl_get (l : List (List Nat)) (i : Nat) (h : i < l.length) : gl l i = l[i] := by simp [gl, h]
theorem ext_gl {a b : List (List Nat)} (h : a.length = b.length) (hg : ∀ i, i < a.length → gl a i = gl b i) : a = b := by
  apply List.ext_getElem h
  intro i h1 h2
  have := hg i h1
  rwa [gl_get _ _ h1, gl_get _ _ h2] at this

/-- What a slice of slices reads as, its elements' pointers among it. -/
def Lr (w : World) (k : IntKind) (p : Option Addr) (ls : List (List Nat)) : Prop :=
  ∀ i, i < ls.length → ∃ b off q c, p = some ⟨b, off, none⟩ ∧ w.cell? ⟨b, off + i, none⟩ = some (.slice q (gl ls i).length c) ∧ Rn w k q (gl ls i) ∧ (gl ls i).length ≤ 140737488355328 ∧ (gl ls i).length ≤ c
theorem Lr.keptNo {w w' : World} {k : IntKind} {p : Option Addr} {ls : List (List Nat)} (h : Lr w k p ls) (hc : Chg No w w') : Lr w' k p ls := by
  intro i hi
  obtain ⟨b, off, q, c, rfl, h1, h2, h3⟩ := h i hi
  exact ⟨b, off, q, c, rfl, hc.cell h1 id, h2.keptNo hc, h3⟩

/-- A row: its block, its numbers, the room behind them. -/
structure Pc where
  b : Nat
  d : List Nat
  r : List Value
def Pc.v (x : Pc) : Value := .slice (some ⟨x.b, 0, none⟩) x.d.length (x.d.length + x.r.length)
/-- A slice of rows, all in blocks of their own. -/
structure Rws (w : World) (eo ei : TypeId) (k : IntKind) (G : Nat) (xs : List Pc) (r0 : List Value) : Prop where
  out : Own w eo G (xs.map Pc.v) r0
  inn : ∀ x ∈ xs, Own w ei x.b (nv k x.d) x.r
  dis : (xs.map Pc.b).Nodup
  ne : ∀ x ∈ xs, x.b ≠ G
  len : ∀ x ∈ xs, x.d.length ≤ 140737488355328

section
variable {w w' : World} {eo ei : TypeId} {k : IntKind} {G : Nat} {xs : List Pc} {r0 : List Value} {S : Nat → Prop}
theorem Rws.kept (h : Rws w eo ei k G xs r0) (hc : Chg S w w') (hG : ¬ S G) (hx : ∀ x ∈ xs, ¬ S x.b) : Rws w' eo ei k G xs r0 :=
  ⟨h.out.kept hc hG, fun x m => (h.inn x m).kept hc (hx x m), h.dis, h.ne, h.len⟩
theorem Rws.keptNo (h : Rws w eo ei k G xs r0) (hc : Chg No w w') : Rws w' eo ei k G xs r0 := h.kept hc id fun _ _ => id
theorem Rws.blk (h : Rws w eo ei k G xs r0) {x : Pc} (m : x ∈ xs) : x.b < w.heap.size := (h.inn x m).lt
theorem Rws.cell (h : Rws w eo ei k G xs r0) {i : Nat} (hi : i < xs.length) : w.cell? ⟨G, i, none⟩ = some xs[i].v := by
  have := h.out.cell (i := i) (by simpa using hi)
  rw [this]; simp
theorem Rws.lr (h : Rws w eo ei k G xs r0) : Lr w k (some ⟨G, 0, none⟩) (xs.map Pc.d) := by
  intro i hi
  rw [List.length_map] at hi
  have hm : xs[i] ∈ xs := List.getElem_mem hi
  have hg : gl (xs.map Pc.d) i = xs[i].d := by rw [gl_get _ _ (by simpa using hi)]; simp
  refine ⟨G, 0, some ⟨xs[i].b, 0, none⟩, xs[i].d.length + xs[i].r.length, rfl, ?_, ?_, ?_, by rw [hg]; omega⟩
  · rw [Nat.zero_add, h.cell hi, hg]; rfl
  · rw [hg]; exact (h.inn _ hm).rn
  · rw [hg]; exact h.len _ hm
theorem Rws.other (h : Rws w eo ei k G xs r0) {i j : Nat} (hi : i < xs.length) (hj : j < xs.length) (e : i ≠ j) : xs[i].b ≠ xs[j].b := by
  intro he
  have := (List.getElem_inj h.dis (i := i) (j := j) (h₀ := by simpa using hi) (h₁ := by simpa using hj)).1 (by simpa using he)
  exact e this
/-- One row is written anew, its length kept. -/
theorem Rws.upd (h : Rws w eo ei k G xs r0) {i : Nat} (hi : i < xs.length) {d' : List Nat} (hl : d'.length = xs[i].d.length) (hc : Chg (Only xs[i].b) w w')
    (ho : Own w' ei xs[i].b (nv k d') xs[i].r) : Rws w' eo ei k G (xs.set i { xs[i] with d := d' }) r0 := by
  have hm : xs[i] ∈ xs := List.getElem_mem hi
  have hv : (xs.set i { xs[i] with d := d' }).map Pc.v = xs.map Pc.v := by
    apply List.ext_getElem (by simp)
    intro j h1 h2
    rw [List.getElem_map, List.getElem_map, List.getElem_set]
    split
    · subst_vars; simp [Pc.v, hl]
    · rfl
  have hb : (xs.set i { xs[i] with d := d' }).map Pc.b = xs.map Pc.b := by
    apply List.ext_getElem (by simp)
    intro j h1 h2
    rw [List.getElem_map, List.getElem_map, List.getElem_set]
    split
    · subst_vars; rfl
    · rfl
  refine ⟨?_, ?_, by rw [hb]; exact h.dis, ?_, ?_⟩
  · rw [hv]; exact h.out.kept hc fun e => h.ne _ hm e.symm
  · intro x hx
    obtain ⟨j, hj, rfl⟩ := List.getElem_of_mem hx
    rw [List.length_set] at hj
    rw [List.getElem_set]
    split
    · subst_vars; exact ho
    · rename_i hne
      exact (h.inn _ (List.getElem_mem hj)).kept hc fun e => h.other hj hi (fun e2 => hne e2.symm) e
  · intro x hx
    obtain ⟨j, hj, rfl⟩ := List.getElem_of_mem hx
    rw [List.length_set] at hj
    rw [List.getElem_set]
    split
    · exact h.ne xs[i] hm
    · exact h.ne _ (List.getElem_mem hj)
  · intro x hx
    obtain ⟨j, hj, rfl⟩ := List.getElem_of_mem hx
    rw [List.length_set] at hj
    rw [List.getElem_set]
    split
    · show d'.length ≤ _; rw [hl]; exact h.len xs[i] hm
    · exact h.len _ (List.getElem_mem hj)
end
end Go.Proofs.YtpnmmedjamkmeaaGreat

/- The walk of culletref18.Copies. -/
set_option linter.unusedSimpArgs false
set_option linter.unusedVariables false
set_option linter.unusedSimpArgs false
namespace Go.Proofs.YtpnmmedjamkmeaaGreat
open Go.RowKit

/-- append of nothing. -/
theorem wpList_appNone {P : Program} {w : World} {ops : Array Oper} {tl : List Oper} {a : Act} {Q : Exit → Act → World → Prop} {s x : Operand} {t ty : TypeId} {d : Tmp} {pos : String} {after : Array Edge}
    (e : TypeId) (p q : Option Addr) (n cap c : Nat) (he : a.eval s = .slice p n cap ∧ a.eval x = .slice q 0 c) (hle : n ≤ cap)
    (ht : P.underlying t = some (.slice e)) (hi : (P.info? e).map (·.size) = some 1)
    (hK : wpList P ops Q tl (a.put (some d) (.slice p n cap)) w) :
    wpList P ops Q ({ dst := some d, op := .call { callee := .builtin .append, args := #[s, x], argTypes := #[t, t] }, type := ty, pos := pos, after := after, guard := none } :: tl) a w := by
  refine wpList_plain rfl fun K hK' => ?_
  obtain ⟨i, hi', hs⟩ : ∃ i, P.info? e = some i ∧ i.size = 1 := by
    cases hx : P.info? e with
    | none => simp [hx] at hi
    | some i => simp [hx] at hi; exact ⟨i, rfl, hi⟩
  have hsrc : Src P i.size t (.slice q 0 c) 0 [] w := by
    cases q with
    | none => exact Src.ofNil w ht c
    | some ad => exact Src.ofSlice w ht ad 0 c [] (by simp) (fun j u h => by simp at h) (fun u h => by cases h)
  have hr := run_append_nothing (P := P) w t t ty e i ht hi' p n cap hle _ hsrc
  unfold Oper.wp execOp
  simp only [resolve, invoke, builtin, Sem.run_bind, Sem.run_pure, Result.andThen_ok, List.map_toArray, List.map_cons, List.map_nil, he.1, he.2, hr]
  exact hK' _ _ hK

/-- The value of a slice of rows that the code has made since base. -/
def RowsV (w : World) (eo ei : TypeId) (k : IntKind) (base : Nat) (v : Value) (xs : List Pc) : Prop :=
  (v = .slice none 0 0 ∧ xs = []) ∨
  ∃ G r0, v = .slice (some ⟨G, 0, none⟩) xs.length (xs.length + r0.length) ∧ Rws w eo ei k G xs r0 ∧ base ≤ G ∧ xs.length + r0.length ≤ maxLen ∧ ∀ x ∈ xs, base ≤ x.b
section
variable {w W : World} {eo ei : TypeId} {k : IntKind} {base : Nat} {v v' : Value} {xs : List Pc} {S : Nat → Prop}
theorem RowsV.keptNo (h : RowsV w eo ei k base v xs) (hc : Chg No w W) : RowsV W eo ei k base v xs := by
  rcases h with h | ⟨G, r0, h1, h2, h3, h4, h5⟩
  · exact .inl h
  · exact .inr ⟨G, r0, h1, h2.keptNo hc, h3, h4, h5⟩
theorem RowsV.kept (h : RowsV w eo ei k base v xs) (hc : Chg S w W) (hS : ∀ i, S i → i < base) : RowsV W eo ei k base v xs := by
  rcases h with h | ⟨G, r0, h1, h2, h3, h4, h5⟩
  · exact .inl h
  · exact .inr ⟨G, r0, h1, h2.kept hc (fun s => by have := hS _ s; omega) (fun x m s => by have := hS _ s; have := h5 x m; omega), h3, h4, h5⟩
theorem RowsV.owns (h : RowsV w eo ei k base v xs) : w.ownsRow base eo 1 v xs.length (xs.map Pc.v) := by
  rcases h with ⟨rfl, rfl⟩ | ⟨G, r0, rfl, h2, h3, h4, h5⟩
  · exact ⟨rfl, .inl ⟨rfl, rfl⟩⟩
  · exact ownsRow_of_own h2.out h3 (by simp) rfl h4
/-- A row more. -/
theorem RowsV.snoc (h : RowsV w eo ei k base v xs) (hne : eo ≠ ei) {x : Pc} (hx : Own w ei x.b (nv k x.d) x.r) (hxb : base ≤ x.b) (hxn : ∀ y ∈ xs, y.b ≠ x.b) (hxl : x.d.length ≤ 140737488355328)
    (ho : W.ownsRow base eo 1 v' (xs.length + 1) (xs.map Pc.v ++ [x.v])) (hg : w.grownBy W v.ownBlock) : RowsV W eo ei k base v' (xs ++ [x]) := by
  have hcon : ∀ {w : World} {b : Nat} {ys zs : List Value} {y : Pc}, Own w eo b ys zs → Own w ei y.b (nv k y.d) y.r → y.b ≠ b := by
    intro w b ys zs y h1 h2 e
    unfold Own at h1 h2
    rw [e, h1] at h2
    simp only [Option.some.injEq, Obj.cells.injEq] at h2
    exact hne h2.2.1
  have hxW : Own W ei x.b (nv k x.d) x.r := (hg.block x.b hx.lt (by
    intro e
    rcases h with ⟨rfl, _⟩ | ⟨G, r0, rfl, h2, _⟩
    · simp [Value.ownBlock] at e
    · simp only [Value.ownBlock, Option.some.injEq] at e
      exact hcon h2.out hx e)).trans hx
  have hys : ∀ y ∈ xs, Own W ei y.b (nv k y.d) y.r ∧ base ≤ y.b ∧ y.d.length ≤ 140737488355328 := by
    intro y hy
    rcases h with ⟨rfl, rfl⟩ | ⟨G, r0, rfl, h2, h3, h4, h5⟩
    · cases hy
    · refine ⟨(hg.block y.b (h2.inn y hy).lt (by
        intro e
        simp only [Value.ownBlock, Option.some.injEq] at e
        exact h2.ne y hy e)).trans (h2.inn y hy), h5 y hy, h2.len y hy⟩
  have hnd : (xs.map Pc.b).Nodup := by
    rcases h with ⟨rfl, rfl⟩ | ⟨G, r0, rfl, h2, h3, h4, h5⟩
    · simp
    · exact h2.dis
  rcases own_of_ownsRow ho with ⟨_, h0, _⟩ | ⟨g, cap, rest, rfl, hb, hO, hl, hc, hm⟩
  · omega
  · refine .inr ⟨g, rest, ?_, ⟨by rw [List.map_append]; exact hO, ?_, ?_, ?_, ?_⟩, hb, ?_, ?_⟩
    · rw [← hc]; simp
    · intro y hy
      rcases List.mem_append.1 hy with hy | hy
      · exact (hys y hy).1
      · rw [List.mem_singleton.1 hy]; exact hxW
    · rw [List.map_append, List.nodup_append]
      refine ⟨hnd, by simp, ?_⟩
      intro a ha b hb'
      simp only [List.map_cons, List.map_nil, List.mem_singleton] at hb'
      obtain ⟨y, hy, rfl⟩ := List.mem_map.1 ha
      rw [hb']
      exact hxn y hy
    · intro y hy
      rcases List.mem_append.1 hy with hy | hy
      · exact hcon hO (hys y hy).1
      · rw [List.mem_singleton.1 hy]; exact hcon hO hxW
    · intro y hy
      rcases List.mem_append.1 hy with hy | hy
      · exact (hys y hy).2.2
      · rw [List.mem_singleton.1 hy]; exact hxl
    · simp at hc ⊢; omega
    · intro y hy
      rcases List.mem_append.1 hy with hy | hy
      · exact (hys y hy).2.1
      · rw [List.mem_singleton.1 hy]; exact hxb
theorem RowsV.lt (h : RowsV w eo ei k base v xs) : ∀ y ∈ xs, y.b < w.heap.size := by
  intro y hy
  rcases h with ⟨rfl, rfl⟩ | ⟨G, r0, rfl, h2, h3, h4, h5⟩
  · cases hy
  · exact h2.blk hy
theorem RowsV.chg {w0 : World} (h : RowsV w eo ei k base v xs) (hc : Chg No w0 w) (hb : w0.heap.size ≤ base) (hg : w.grownBy W v.ownBlock) : Chg No w0 W :=
  hc.grown hg fun i hi => by
    rcases h with ⟨rfl, _⟩ | ⟨G, r0, rfl, h2, h3, _⟩
    · simp [Value.ownBlock] at hi
    · simp only [Value.ownBlock, Option.some.injEq] at hi
      right; omega
end
end Go.Proofs.YtpnmmedjamkmeaaGreat
