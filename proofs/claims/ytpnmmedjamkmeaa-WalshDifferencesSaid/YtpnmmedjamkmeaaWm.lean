/- The walk of the law's fixed answers. -/
import Derived.Test.YtpnmmedjamkmeaaWk
namespace Go.Proofs.Ytpnmmedjamkmeaa
open Go.RowKit

theorem own_nv_iv {w : World} {e : TypeId} {g : Nat} {k : IntKind} {l : List Nat} {rest : List Value} (h : Own w e g (nv k l) rest) : Own w e g (iv k (l.map Int.ofNat)) rest := by rw [← nv_iv]; exact h
theorem Own.rdn {w : World} {e : TypeId} {g : Nat} {k : IntKind} {l : List Nat} {rest : List Value} (h : Own w e g (nv k l) rest) : Rd w k (some ⟨g, 0, none⟩) (l.map Int.ofNat) := (own_nv_iv h).rd

set_option maxRecDepth 10000 in
set_option maxHeartbeats 1600000 in
theorem fixed15_calls (w : World) : Calls Try.prog 7 #[] w fun e w' => e = .returned (.bool true) ∧ Chg No w w' := by
  have H1 := hid (fun g w (hO : Own w 32 g (nv .u16 [1, 2, 3, 4]) []) => Transform_four g [1, 2, 3, 4] w hO rfl (fun j => by
    by_cases h : j < 4
    · have : ∀ j, j < 4 → gn [1, 2, 3, 4] j < 65536 := by decide
      exact this j h
    · rw [gn_out _ _ (by simpa using h)]; omega))
  have H2 := hid (fun g w (hO : Own w 3 g (iv .i64 [1]) []) => Products_calls 2 1 (some ⟨g, 0, none⟩) [1] w (by omega) hO.rd (by decide))
  rw [transform_fixed] at H1
  unfold ProdPost at H2
  rw [products_fixed] at H2
  have HOK := hid ok_one
  have H3 := hid (fun g h c d w (ha : Own w 32 g (nv .u16 [10, 65533, 65531, 0]) []) (hb : Own w 32 h (nv .u16 [10, 65533, 65531, 0]) []) => same_calls (some ⟨g, 0, none⟩) (some ⟨h, 0, none⟩) c d _ _ w ha.rdn hb.rdn (by decide))
  have H4 := hid (fun g h c d w (ha : Own w 32 g (nv .u16 [1, 1, 44235, 44234]) []) (hb : Own w 32 h (nv .u16 [1, 1, 44235, 44234]) []) => same_calls (some ⟨g, 0, none⟩) (some ⟨h, 0, none⟩) c d _ _ w ha.rdn hb.rdn (by decide))
  go_enter Try.func7, Try.ntmps7
  go_wp2_with fail
  refine (H1.out w.heap.size _ (heap_alloc_new w _)).mono ?_
  rintro e w1 ⟨h1, rfl, hO1, hh1, hC1⟩
  have hC1' : Chg No w w1 := ((Chg.refl No w).alloc _).trans hC1
  have HO1 := hid hO1
  clear hO1
  go_wp2_with fail
  refine (H2.out w1.heap.size _ (heap_alloc_new w1 _)).mono ?_
  rintro e w2 hP
  rcases hP with ⟨hg, g2, rfl, hO2, hge, hC2⟩ | ⟨hb, rfl, hC2⟩
  · have hC2' : Chg No w1 w2 := ((Chg.refl No w1).alloc _).trans hC2
    have HO2 := hid hO2
    have HO1b := hid (HO1.out.keptNo hC2')
    clear hO2 hC2 hg
    go_wp2_with fail
    refine (H3.out h1 w2.heap.size 4 4 _ (HO1b.out.alloc _) (heap_alloc_new w2 _)).mono ?_
    rintro e w3 ⟨rfl, hC3⟩
    have hC3' : Chg No w2 w3 := ((Chg.refl No w2).alloc _).trans hC3
    have HO2b := hid (HO2.out.keptNo hC3')
    clear hC3
    go_wp2_with fail
    refine (H4.out g2 w3.heap.size 4 4 _ (HO2b.out.alloc _) (heap_alloc_new w3 _)).mono ?_
    rintro e w4 ⟨rfl, hC4⟩
    have hC4' : Chg No w3 w4 := ((Chg.refl No w3).alloc _).trans hC4
    clear hC4
    go_wp2_with fail
    go_ret
    exact ⟨by first | rfl | simp, ((hC1'.trans hC2').trans hC3').trans hC4'⟩
  · exact absurd HOK.out hb
end Go.Proofs.Ytpnmmedjamkmeaa
