/- Walks of gf16's tables. -/
import Derived.Test.YtpnmmedjamkmeaaProg
import Derived.Test.YtpnmmedjamkmeaaLib
import Derived.Test.YtpnmmedjamkmeaaPl
import Derived.Test.YtpnmmedjamkmeaaWa
namespace Go.Proofs.Ytpnmmedjamkmeaa
open Go.RowKit

/-- The cells of gf16's tables when n rounds of their making are done. -/
def tabAt (n : Nat) (arr : Array Value) : Prop :=
  arr.size = 131071 ∧ (∀ i, i < 65535 → arr[i]? = some (.int .u16 ((if i < n then ex i else 0 : Nat) : Int))) ∧ ∀ x, x < 65536 → arr[65535 + x]? = some (.int .u16 (lgTo n x : Int))
def TabAt (n : Nat) (w : World) (b : Nat) : Prop := ∃ arr, w.heap[b]? = some (.cells arr 73 (0, 0)) ∧ tabAt n arr
def Tab (w : World) (b : Nat) : Prop := TabAt 65535 w b

theorem TabAt.lt {n : Nat} {w : World} {b : Nat} (h : TabAt n w b) : b < w.heap.size := by
  obtain ⟨arr, h, _⟩ := h
  exact (Array.getElem?_eq_some_iff.1 h).1
theorem TabAt.kept {n : Nat} {w w' : World} {b : Nat} {S : Nat → Prop} (h : TabAt n w b) (hc : Chg S w w') (hs : ¬ S b) : TabAt n w' b := by
  obtain ⟨arr, h, r⟩ := h
  exact ⟨arr, hc.kept h hs, r⟩
theorem Tab.keptNo {w w' : World} {b : Nat} (h : Tab w b) (hc : Chg No w w') : Tab w' b := TabAt.kept h hc id
theorem TabAt.frozen {n : Nat} {w : World} {b : Nat} (h : TabAt n w b) (i : Nat) : w.frozen? ⟨b, i, none⟩ = false := by
  obtain ⟨arr, h, r⟩ := h
  simp only [World.frozen?, h]
  simp
theorem TabAt.exCell {n : Nat} {w : World} {b : Nat} (h : TabAt n w b) {i : Nat} (hi : i < 65535) : w.cell? ⟨b, i, none⟩ = some (.int .u16 ((if i < n then ex i else 0 : Nat) : Int)) := by
  obtain ⟨arr, h, _, h1, _⟩ := h
  simp [World.cell?, h, h1 i hi]
theorem Tab.exCell {w : World} {b : Nat} (h : Tab w b) {i : Nat} (hi : i < 65535) : w.cell? ⟨b, i, none⟩ = some (.int .u16 (ex i : Int)) := by
  rw [TabAt.exCell h hi, if_pos hi]
theorem TabAt.lgCell {n : Nat} {w : World} {b : Nat} (h : TabAt n w b) {x : Nat} (hx : x < 65536) : w.cell? ⟨b, 65535 + x, none⟩ = some (.int .u16 (lgTo n x : Int)) := by
  obtain ⟨arr, h, _, _, h1⟩ := h
  simp [World.cell?, h, h1 x hx]
theorem Tab.lgCell {w : World} {b : Nat} (h : Tab w b) {x : Nat} (hx : x < 65536) : w.cell? ⟨b, 65535 + x, none⟩ = some (.int .u16 (lg x : Int)) := TabAt.lgCell h hx
theorem heap_setCell_arr {w : World} {b : Nat} {arr : Array Value} {e : TypeId} (h : w.heap[b]? = some (.cells arr e (0, 0))) (i : Nat) (v : Value) :
    (w.setCell ⟨b, i, none⟩ v).heap[b]? = some (.cells (arr.setIfInBounds i v) e (0, 0)) := by
  simp only [World.setCell, Array.getElem?_modify, if_true, h, Option.map_some, Option.isSome_none, Bool.false_eq_true, if_false]
/-- One round of the making: both tables written. -/
theorem TabAt.next {n : Nat} {w : World} {b : Nat} (h : TabAt n w b) (hn : n < 65535) :
    TabAt (n + 1) ((w.setCell ⟨b, n, none⟩ (.int .u16 (ex n : Int))).setCell ⟨b, 65535 + ex n, none⟩ (.int .u16 (n : Int))) b := by
  obtain ⟨arr, h, hs, h1, h2⟩ := h
  have hx := ex_lt n
  refine ⟨_, heap_setCell_arr (heap_setCell_arr h _ _) _ _, by simp [hs], fun i hi => ?_, fun x hx' => ?_⟩
  · rw [Array.getElem?_setIfInBounds_ne (by omega)]
    by_cases e : i = n
    · subst e
      rw [Array.getElem?_setIfInBounds_self_of_lt (by omega), if_pos (by omega)]
    · rw [Array.getElem?_setIfInBounds_ne (by omega), h1 i hi]
      congr 3
      by_cases hin : i < n
      · rw [if_pos hin, if_pos (by omega)]
      · rw [if_neg hin, if_neg (by omega)]
  · by_cases e : x = ex n
    · subst e
      rw [Array.getElem?_setIfInBounds_self_of_lt (by simp; omega)]
      simp [lgTo]
    · rw [Array.getElem?_setIfInBounds_ne (by omega), Array.getElem?_setIfInBounds_ne (by omega), h2 x hx']
      simp [lgTo, e]

def isz : Value → Bool
  | .int .u16 n => n == 0
  | _ => false
theorem isz_eq {v : Value} (h : isz v = true) : v = .int .u16 0 := by
  unfold isz at h
  split at h
  · simp at h; rw [h]
  · cases h
theorem zeroTab : Try.zeroCells73.toList.all isz = true := by kernel_rfl
theorem tabAt_zero : tabAt 0 Try.zeroCells73 := by
  have hs : Try.zeroCells73.size = 131071 := Try.zeroCells73_size
  have hz : ∀ i, i < 131071 → Try.zeroCells73[i]? = some (.int .u16 0) := by
    intro i hi
    rw [Array.getElem?_eq_getElem (by rw [hs]; exact hi)]
    have := List.all_eq_true.1 zeroTab (Try.zeroCells73[i]'(by rw [hs]; exact hi)) (Array.mem_toList_iff.2 (Array.getElem_mem _))
    rw [isz_eq this]
  refine ⟨hs, fun i hi => ?_, fun x hx => ?_⟩
  · rw [hz i (by omega)]; simp
  · rw [hz _ (by omega)]; simp [lgTo]

theorem lt_setCell {w : World} {a : Addr} {v : Value} {k : Nat} (h : k < w.heap.size) : k < (w.setCell a v).heap.size := by simpa [World.setCell] using h

set_option maxRecDepth 400000 in
set_option maxHeartbeats 800000 in
theorem New_calls (w : World) :
    Calls Try.prog 11 #[] w fun e w' => e = .returned (.pointer (some ⟨w.heap.size, 0, none⟩)) ∧ Tab w' w.heap.size ∧ Chg No w w' := by
  go_enter Try.func11, Try.ntmps11
  go_wp2
  go_loopw [2, 6] (fun x j wr => ∃ n : Nat, n ≤ 65535 ∧ j = .int .i64 n ∧ x = .int .i64 (ex n : Int) ∧ TabAt n wr w.heap.size ∧ Chg No w wr) (fun _ j _ => 65535 - (intOf j).toNat)
  case atStart => exact ⟨0, by omega, rfl, rfl, ⟨_, heap_alloc_new w _, tabAt_zero⟩, (Chg.refl _ _).alloc _⟩
  case round =>
    obtain ⟨n, hn, rfl, rfl, hT, hC⟩ := hrel
    by_cases hlt : n < 65535
    · have hx := ex_lt n
      have n0 : (0 : Int) ≤ (n : Int) := by omega
      have n1 : (n : Int) < 65535 := by omega
      have x0 : (0 : Int) ≤ (ex n : Int) := by omega
      have x1 : (ex n : Int) < 65536 := by omega
      have hcell := hT.exCell hlt
      have hfr := hT.frozen n
      have hcell2 := hT.lgCell hx
      have hfr2 := hT.frozen (65535 + ex n)
      have hx1 : ex (n + 1) = if 2 * ex n > 65535 then (2 * ex n) ^^^ 65581 else 2 * ex n := rfl
      have HX := hid hx1
      clear hx1
      have hxor := i64_xor_nat (2 * ex n) 65581 (by omega) (by omega)
      have HT := hid hT
      by_cases hbig : 65535 < 2 * ex n
      · have ht : decide ((65535 : Int) < (ex n : Int) * 2) = true := by simp; omega
        have hval : Value.int IntKind.i64 (bits BinOp.xor IntKind.i64 ((ex n : Int) * 2) 65581) = Value.int IntKind.i64 (ex (n + 1) : Int) := by
          rw [HX.out, if_pos hbig, ← hxor]; congr 2; omega
        have HV := hid hval
        clear hbig hlt hxor hval
        go_wp2_with (first
          | ((with_reducible refine wpList_st ⟨w.heap.size, n, none⟩ (.int .u16 (ex n : Int)) hcell hfr ?_ ?_ ?_ ?_); exact ⟨rfl, rfl⟩; kernel_rfl; rfl; intro W1 hW1
             have hcell3 : W1.cell? ⟨w.heap.size, 65535 + ex n, none⟩ = some (.int .u16 (lgTo n (ex n) : Int)) := by
               rw [hW1, World.cell?_setCell_other _ _ _ _ (by simp)]; exact hcell2
             have hfr3 : W1.frozen? ⟨w.heap.size, 65535 + ex n, none⟩ = false := by rw [hW1, World.frozen?_setCell]; exact hfr2
             have HW1 := hid hW1
             clear hW1 hcell hfr hcell2 hfr2)
          | ((with_reducible refine wpList_st ⟨w.heap.size, 65535 + ex n, none⟩ (.int .u16 (n : Int)) hcell3 hfr3 ?_ ?_ ?_ ?_); exact ⟨rfl, rfl⟩; kernel_rfl; rfl; intro W2 hW2
             have hT2 : TabAt (n + 1) W2 w.heap.size := by rw [hW2, HW1.out]; exact HT.out.next (by omega)
             have hC2 : Chg No w W2 := by rw [hW2, HW1.out]; exact (hC.setCell (.inr (Nat.le_refl _)) _).setCell (.inr (Nat.le_refl _)) _
             clear hW2 hcell3 hfr3 HW1))
        go_roundw
        case rel => exact ⟨n + 1, by omega, by go_num, HV.out, hT2, hC2⟩
        case measure => simp [intOf]; omega
      · have ht : decide ((65535 : Int) < (ex n : Int) * 2) = false := by simp; omega
        have hval : Value.int IntKind.i64 ((ex n : Int) * 2) = Value.int IntKind.i64 (ex (n + 1) : Int) := by
          rw [HX.out, if_neg hbig]; congr 1; omega
        have HV := hid hval
        clear hbig hlt hxor hval
        go_wp2_with (first
          | ((with_reducible refine wpList_st ⟨w.heap.size, n, none⟩ (.int .u16 (ex n : Int)) hcell hfr ?_ ?_ ?_ ?_); exact ⟨rfl, rfl⟩; kernel_rfl; rfl; intro W1 hW1
             have hcell3 : W1.cell? ⟨w.heap.size, 65535 + ex n, none⟩ = some (.int .u16 (lgTo n (ex n) : Int)) := by
               rw [hW1, World.cell?_setCell_other _ _ _ _ (by simp)]; exact hcell2
             have hfr3 : W1.frozen? ⟨w.heap.size, 65535 + ex n, none⟩ = false := by rw [hW1, World.frozen?_setCell]; exact hfr2
             have HW1 := hid hW1
             clear hW1 hcell hfr hcell2 hfr2)
          | ((with_reducible refine wpList_st ⟨w.heap.size, 65535 + ex n, none⟩ (.int .u16 (n : Int)) hcell3 hfr3 ?_ ?_ ?_ ?_); exact ⟨rfl, rfl⟩; kernel_rfl; rfl; intro W2 hW2
             have hT2 : TabAt (n + 1) W2 w.heap.size := by rw [hW2, HW1.out]; exact HT.out.next (by omega)
             have hC2 : Chg No w W2 := by rw [hW2, HW1.out]; exact (hC.setCell (.inr (Nat.le_refl _)) _).setCell (.inr (Nat.le_refl _)) _
             clear hW2 hcell3 hfr3 HW1))
        go_roundw
        case rel => exact ⟨n + 1, by omega, by go_num, HV.out, hT2, hC2⟩
        case measure => simp [intOf]; omega
    · obtain rfl : n = 65535 := by omega
      go_wp2
      go_ret
      exact ⟨rfl, hT, hC⟩
end Go.Proofs.Ytpnmmedjamkmeaa
