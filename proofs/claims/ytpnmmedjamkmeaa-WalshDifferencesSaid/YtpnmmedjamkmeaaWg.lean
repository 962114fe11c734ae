/- Walks of gf16.Basis and walsh.logs. -/
import Derived.Test.YtpnmmedjamkmeaaWe
import Derived.Test.YtpnmmedjamkmeaaLib2
namespace Go.Proofs.Ytpnmmedjamkmeaa
open Go.RowKit

theorem basisArr_nv : basisArr = (nv .u16 basisList ++ []).toArray := by rfl
theorem basisArr_size : basisArr.size = 16 := rfl

set_option maxRecDepth 10000 in
set_option maxHeartbeats 1600000 in
theorem Basis_calls (w : World) :
    Calls Try.prog 64 #[] w fun e w' => ∃ g cap rest, e = .returned (.slice (some ⟨g, 0, none⟩) 16 cap) ∧ Own w' 32 g (nv .u16 basisList) rest ∧ w.heap.size ≤ g ∧ Chg No w w' := by
  go_enter Try.func64, Try.ntmps64
  go_wp2_with fail
  refine (basis_calls _).mono ?_
  rintro e w1 ⟨rfl, hC⟩
  go_wp2_with (first
    | ((with_reducible refine wpList_stRow w1.heap.size basisArr (heap_alloc_new w1 _) ?_ ?_ ?_ ?_ ?_); exact ⟨rfl, rfl⟩; kernel_rfl; simp [basisArr_size]; kernel_rfl
       intro W hW hC2 hs2
       have hO1 : Own W 110 w1.heap.size (nv .u16 basisList) [] := by unfold Own; rw [← basisArr_nv]; exact hW
       have hC3 : Chg No w W := hC.trans' (T := Only w1.heap.size) (((Chg.refl (Only w1.heap.size) w1).alloc _).trans hC2) (fun i hi e => by have := hC.size; simp only [Only] at e; omega)
       clear hW hC2 hs2 hC)
    | (at_builtin; go_must ((with_reducible refine wpList_app (emptyRow W 32) ⟨w1.heap.size, 0, none⟩ (nv .u16 basisList) ?_ (.int .u16 0) 16 16 2 ?_ ?_ ?_ ?_ ?_ ?_ ?_ ?_ ?_ ?_); exact (hO1.alloc (.cells #[] 32)).addCell; exact ⟨rfl, rfl⟩; rfl; exact Try.underlying24; kernel_rfl; rfl; exact nv_one; decide; decide; simp; intro v' W2 hR hG)))
  rcases own_of_ownsRow hR with ⟨rfl, h0, _⟩ | ⟨g, cap, rest, rfl, hb, hO, _, _, _⟩
  · simp at h0
  · have hC4 : Chg No w W2 := (hC3.alloc _).grown hG (fun k hk => by
      simp [Value.ownBlock] at hk; subst hk; exact .inr hC3.size)
    have hge : w.heap.size ≤ g := Nat.le_trans hC3.size hb
    clear hR hG hC3 hO1
    go_wp2_with fail
    go_ret
    exact ⟨g, cap, rest, rfl, by simpa using hO, hge, hC4⟩
end Go.Proofs.Ytpnmmedjamkmeaa
