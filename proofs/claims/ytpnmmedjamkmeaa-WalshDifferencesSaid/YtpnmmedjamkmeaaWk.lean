/- Walks: the transform of four numbers, the law's fixed answers. -/
import Derived.Test.YtpnmmedjamkmeaaWj
import Derived.Test.YtpnmmedjamkmeaaLw
import Derived.Test.YtpnmmedjamkmeaaPf
namespace Go.Proofs.Ytpnmmedjamkmeaa
open Go.RowKit

set_option maxRecDepth 10000 in
theorem good_four (w : World) : Calls Try.prog 55 #[.int .i64 4] w fun e w' => e = .returned (.bool true) ∧ w' = w := by
  have hb := i64_and_nat 4 3 (by omega) (by omega)
  go_enter Try.func55, Try.ntmps55
  go_wp2_with fail
  go_ret
  exact ⟨by rfl, rfl⟩

set_option maxRecDepth 10000 in
theorem reduced_calls (g c : Nat) (l : List Nat) (rest : List Value) (w : World) (hO : Own w 32 g (nv .u16 l) rest) (hm : l.length ≤ 65536) (hb : ∀ j, gn l j < 65536) :
    Calls Try.prog 56 #[.slice (some ⟨g, 0, none⟩) l.length c] w fun e w' => e = .returned (.slice (some ⟨w.heap.size, 0, none⟩) l.length l.length) ∧ Own w' 32 w.heap.size (nv .u16 (l.map fun x => x % 65535)) [] ∧ Chg No w w' := by
  have hg := hO.lt
  have HO := hid hO
  have HB := hid hb
  clear hO hb
  go_enter Try.func56, Try.ntmps56
  go_wp2_with (at_make; go_must ((with_reducible refine wpList_mk1 32 (.int .u16 0) 2 l.length l.length ?_ ?_ ?_ ?_ ?_ ?_ ?_ ?_); exact ⟨rfl, rfl⟩; exact Try.underlying24; kernel_rfl; rfl; omega; omega; (unfold maxLen; omega); intro W1 hO1 hC1 hs1))
  have hO2 : Own W1 32 w.heap.size (nv .u16 (fillTo (fun j => gn l j % 65535) l.length 0)) [] := by
    rw [fillTo_zero, nv_replicate]; simpa using hO1
  clear hO1
  go_loopw [11] (fun i wr => ∃ k : Nat, k ≤ l.length ∧ i = .int .i64 (k : Int) ∧ Own wr 32 w.heap.size (nv .u16 (fillTo (fun j => gn l j % 65535) l.length k)) [] ∧ Chg No w wr) (fun i _ => l.length - (intOf i).toNat)
  case atStart => exact ⟨0, by omega, rfl, hO2, hC1⟩
  case round =>
    obtain ⟨k, hk, rfl, hO, hC⟩ := hrel
    clear hO2 hC1 hs1
    by_cases hlt : k < l.length
    · have hcell := (HO.out.keptNo hC).nat (i := k) hlt
      have hxb := HB.out k
      have hst := fillTo_set (fun j => gn l j % 65535) l.length k hlt
      have hold := hO.nat (i := k) (by rw [fillTo_length]; exact hlt)
      have hf := hO.frozen k
      have HST := hid hst
      have HO2 := hid hO
      clear hst hO
      generalize gn l k = x at *
      have EV : Hid ((x : Int) % 65535 = ((x % 65535 : Nat) : Int)) := by show _ = _; simp
      go_wp2_with fail
      rw [EV.out]
      go_roundw
      case rel => exact ⟨k + 1, by omega, by go_num, by rw [← HST.out]; exact HO2.out.setNat (by rw [fillTo_length]; exact hlt) _, hC.setNew (Nat.le_refl _) _ _⟩
      case measure => simp [intOf]; omega
    · obtain rfl : k = l.length := by omega
      have HF : Hid (fillTo (fun j => gn l j % 65535) l.length l.length = l.map fun x => x % 65535) := hid (by
        have := fillTo_full (fun j => gn l j % 65535) (l.map fun x => x % 65535) (fun j hj => by rw [gn_map _ _ _ (by simpa using hj)])
        simpa using this)
      have HO2 := hid hO
      clear hO
      go_wp2_with fail
      go_ret
      exact ⟨rfl, by rw [← HF.out]; exact HO2.out, hC⟩

set_option maxRecDepth 10000 in
theorem Transform_four (g : Nat) (l : List Nat) (w : World) (hO : Own w 32 g (nv .u16 l) []) (hl : l.length = 4) (hb : ∀ j, gn l j < 65536) :
    Calls Try.prog 30 #[.slice (some ⟨g, 0, none⟩) 4 4] w fun e w' => ∃ h, e = .returned (.tuple #[.slice (some ⟨h, 0, none⟩) 4 4, .int .i64 0]) ∧ Own w' 32 h (nv .u16 (stages 2 (l.map fun x => x % 65535))) [] ∧ w.heap.size ≤ h ∧ Chg No w w' := by
  have h1 := reduced_calls g 4 l [] w hO (by omega) hb
  rw [hl] at h1
  have H1 := hid h1
  have h2 := fun w' h hO' => turn_calls h 2 (l.map fun x => x % 65535) w' hO' (by simpa using hl) (by omega) (fun j => by
    by_cases c : j < l.length
    · rw [gn_map _ _ _ c]; have := hb j; omega
    · rw [gn_out _ _ (by simpa using c)]; omega)
  rw [List.length_map, hl] at h2
  have H2 := hid h2
  clear h1 h2 hO hb hl
  generalize stages 2 (l.map fun x => x % 65535) = y at *
  generalize (l.map fun x => x % 65535) = x at *
  go_enter Try.func30, Try.ntmps30
  go_wp2_with fail
  refine (good_four _).mono ?_
  rintro e w1 ⟨rfl, rfl⟩
  go_wp2_with fail
  refine H1.out.mono ?_
  rintro e w2 ⟨rfl, hO2, hC2⟩
  have HO2 := hid hO2
  clear hO2
  go_wp2_with fail
  refine (H2.out _ _ HO2.out).mono ?_
  rintro e w3 ⟨rfl, hO3, hC3⟩
  go_wp2_with fail
  go_ret2
  exact ⟨_, rfl, hO3, Nat.le_refl _, hC2.trans' (T := Only w1.heap.size) hC3 (fun i hi e => by simp only [Only] at e; omega)⟩

theorem transform_fixed : stages 2 ([1, 2, 3, 4].map fun x => x % 65535) = [10, 65533, 65531, 0] := by decide
theorem ok_one : okAll [1] (2 ^ 2) := by
  intro k hk
  obtain rfl : k = 0 := by simpa using hk
  exact ⟨by decide, by decide, fun h => by omega⟩
theorem tmul_one (n : Nat) (h : n < 65535) : tmul 1 (ex n) = ex n := by
  unfold tmul
  rw [if_neg (by simp only [not_or]; exact ⟨by omega, ex_ne_zero n⟩), lg_ex h]
  have : lg 1 = 0 := lg_ex (n := 0) (by omega)
  rw [this, Nat.zero_add, Nat.mod_eq_of_lt h]
theorem products_fixed : (convd 2 (marks [1] (2 ^ 2)) (logList 2)).map ex = [1, 1, 44235, 44234] := by
  have hln : (convd 2 (marks [1] (2 ^ 2)) (logList 2)).length = 4 := by rw [convd_length]; exact marksTo_length _ _ _
  refine ext_gn (by simp [hln]) fun i hi => ?_
  simp only [List.length_map, hln] at hi
  rw [gn_map _ _ _ (by rw [hln]; exact hi), loc_value (by omega) ok_one i (by omega), show ([1] : List Int).length = 1 from rfl, ← want_value (by omega) ok_one i (by omega) 1 (by simp)]
  have hw : wantTo [1] i 1 = if (1 : Int) = (i : Int) then 1 else tmul 1 (el i ^^^ el 1) := rfl
  have e1 : el 1 = 1 := by decide
  rw [hw]
  have : i = 0 ∨ i = 1 ∨ i = 2 ∨ i = 3 := by omega
  rcases this with rfl | rfl | rfl | rfl
  · rw [if_neg (by decide), e1, el_zero]
    exact tmul_one 0 (by omega)
  · rfl
  · rw [if_neg (by decide), e1, show el 2 ^^^ 1 = ex 43690 from by rw [ex_43690]; decide]
    rw [tmul_one 43690 (by omega), ex_43690]; decide
  · rw [if_neg (by decide), e1, show el 3 ^^^ 1 = ex 21845 from by rw [ex_21845]; decide]
    rw [tmul_one 21845 (by omega), ex_21845]; decide
end Go.Proofs.Ytpnmmedjamkmeaa
