/- Walks of walsh: the convolution in place. -/
import Derived.Test.YtpnmmedjamkmeaaWe
import Derived.StillTailTactics
namespace Go.Proofs.Ytpnmmedjamkmeaa
open Go.RowKit

theorem convd_length (t : Nat) (a b : List Nat) : (convd t a b).length = a.length := by simp [convd, backed_length, prods_length, stages_length]

set_option maxRecDepth 10000 in
set_option maxHeartbeats 1600000 in
theorem convolved_calls (g h t : Nat) (a b : List Nat) (w : World) (hgh : g ≠ h) (hA : Own w 32 g (nv .u16 a) []) (hB : Own w 32 h (nv .u16 b) [])
    (hla : a.length = 2 ^ t) (hlb : b.length = 2 ^ t) (ht : t ≤ 16) (ha : ∀ j, gn a j < 65536) (hb : ∀ j, gn b j < 65536) :
    Calls Try.prog 58 #[.slice (some ⟨g, 0, none⟩) a.length a.length, .slice (some ⟨h, 0, none⟩) b.length b.length] w fun e w' => e = .returned (.tuple #[]) ∧ Own w' 32 g (nv .u16 (convd t a b)) [] ∧ Chg (fun k => k = g ∨ k = h) w w' := by
  have hn : a.length ≤ 65536 := by rw [hla]; exact Nat.pow_le_pow_right (by omega) ht
  have H1 := hid (turn_calls g t a w hA hla ht ha)
  have H2 := hid (fun (w : World) (hB : Own w 32 h (nv .u16 b) []) => turn_calls h t b w hB hlb ht hb)
  have H3 := hid (fun (w : World) (x : List Nat) (hx : x.length = a.length) (hO : Own w 32 g (nv .u16 x) []) (hs : ∀ j, gn x j < 65536) => back_calls g t x w hO (by rw [hx, hla]) ht hs)
  have HLA := hid (stages_length t a)
  have HLB := hid (show (stages t b).length = a.length by rw [stages_length, hlb, hla])
  have HSA := hid (stages_small t a ha)
  have HSB := hid (stages_small t b hb)
  have HLL := hid (hlb.trans hla.symm)
  have HBK := hid hB
  have hne : h ≠ g := fun e => hgh e.symm
  have HC0 : Hid (convd t a b = backed t (prods (stages t a) (stages t b))) := hid rfl
  clear hA hB hla hlb ha hb
  rw [HLL.out] at H2 ⊢
  go_enter Try.func58, Try.ntmps58
  go_wp2_with fail
  refine (H1.out).mono ?_
  rintro e w1 ⟨rfl, hA1, hC1⟩
  clear H1
  go_wp2_with fail
  refine (H2.out w1 (HBK.out.kept hC1 hne)).mono ?_
  rintro e w2 ⟨rfl, hB2, hC2⟩
  have hA2 := hA1.kept hC2 hgh
  have hC3 : Chg (fun k => k = g ∨ k = h) w w2 := (hC1.mono (fun _ _ e => Or.inl e)).trans (hC2.mono (fun _ _ e => Or.inr e))
  clear hA1 hC1 hC2 H2 HBK
  generalize stages t a = x at *
  generalize stages t b = y at *
  go_wp2_with fail
  go_loopw [11, 4] (fun i _ wr => ∃ k : Nat, k ≤ a.length ∧ i = .int .i64 (k : Int) ∧ Own wr 32 g (nv .u16 (prodTo x y k)) [] ∧ Own wr 32 h (nv .u16 y) [] ∧ Chg (fun k => k = g ∨ k = h) w wr) (fun i _ _ => a.length - (intOf i).toNat)
  case atStart => exact ⟨0, by omega, rfl, by rw [prodTo_zero]; exact hA2, hB2, hC3⟩
  case round =>
    obtain ⟨k, hk, rfl, hO, hOB, hC⟩ := hrel
    clear hA2 hB2 hC3
    by_cases hlt : k < a.length
    · have hst := prodTo_set x y k (by rw [HLA.out]; exact hlt)
      have hcell := hO.nat (i := k) (by rw [prodTo_length, HLA.out]; exact hlt)
      have hcellb := hOB.nat (i := k) (by rw [HLB.out]; exact hlt)
      rw [gn_prodTo _ _ _ _ (by rw [HLA.out]; exact hlt), if_neg (by omega)] at hcell
      have hxb : gn x k < 65536 := HSA.out _
      have hyb : gn y k < 65536 := HSB.out _
      have HST := hid hst
      clear hst
      generalize gn x k = p at *
      generalize gn y k = q at *
      have hf := hO.frozen k
      have HO := hid hO
      have HC := hid hC
      have HOB := hid hOB
      have hp0 : (0 : Int) ≤ (p : Int) * (q : Int) := Int.mul_nonneg (by omega) (by omega)
      have hp1 : (p : Int) * (q : Int) ≤ 65536 * 65536 := Int.mul_le_mul (by omega) (by omega) (by omega) (by omega)
      have EV : Hid (((p : Int) * (q : Int)) % 65535 = ((p * q % 65535 : Nat) : Int)) := by show _ = _; simp
      have EW : IntKind.i64.wrap ((p : Int) * (q : Int)) = (p : Int) * (q : Int) := IntWalk.i64_in _ (by omega)
      have ET : ((p : Int) * (q : Int)).tmod 65535 = ((p : Int) * (q : Int)) % 65535 := Int.tmod_eq_emod_of_nonneg hp0
      have hm0 : (0 : Int) ≤ ((p : Int) * (q : Int)) % 65535 := by omega
      have hm1 : ((p : Int) * (q : Int)) % 65535 < 65535 := by omega
      clear hO hC hOB
      go_wp2_with fail
      go_still_tail 16, (by kernel_rfl)
      go_wp2_with fail
      rw [EV.out]
      go_roundw
      case rel => exact ⟨k + 1, by omega, by go_num, by rw [← HST.out]; exact (HO.out.setNat (by rw [prodTo_length, HLA.out]; exact hlt) _).drew, (HOB.out.setOther hne _).drew, (HC.out.setCell (p := ⟨g, k, none⟩) (.inl (.inl rfl)) _).drew⟩
      case measure => simp [intOf]; omega
    · obtain rfl : k = a.length := by omega
      have hfull := prodTo_full x y
      rw [HLA.out] at hfull
      rw [hfull] at hO
      have hln : (prods x y).length = a.length := by rw [prods_length, HLA.out]
      have h3 := H3.out wr (prods x y) hln hO (prods_small x y)
      rw [hln] at h3
      have H4 := hid h3
      have HC := hid hC
      clear hfull hln h3 hO hC
      go_wp2_with fail
      refine (H4.out).mono ?_
      rintro e w3 ⟨rfl, hO3, hC3⟩
      have hC4 : Chg (fun k => k = g ∨ k = h) w w3 := HC.out.trans (hC3.mono (fun _ _ e => Or.inl e))
      clear hC3 H4
      go_wp2_with fail
      go_end0
      exact ⟨rfl, by rw [HC0.out]; exact hO3, hC4⟩
end Go.Proofs.Ytpnmmedjamkmeaa
