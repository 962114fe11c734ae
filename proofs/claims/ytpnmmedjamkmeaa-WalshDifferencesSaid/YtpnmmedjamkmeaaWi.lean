/- The walk of walsh.locator. -/
import Derived.Test.YtpnmmedjamkmeaaWh
import Derived.Test.YtpnmmedjamkmeaaWf
namespace Go.Proofs.Ytpnmmedjamkmeaa
open Go.RowKit

/-- Is the k-th lost index fine: within 0 to N - 1, greater than the one before? -/
def okAt (l : List Int) (N k : Nat) : Prop := 0 ≤ ga l k ∧ ga l k < (N : Int) ∧ (0 < k → ga l (k - 1) < ga l k)
def okAll (l : List Int) (N : Nat) : Prop := ∀ k, k < l.length → okAt l N k
instance (l : List Int) (N k : Nat) : Decidable (okAt l N k) := by unfold okAt; infer_instance

/-- The marks of the first k lost indices. -/
def marksTo (l : List Int) (N : Nat) : Nat → List Nat
  | 0 => List.replicate N 0
  | k + 1 => (marksTo l N k).set (ga l k).toNat 1
theorem marksTo_length (l : List Int) (N k : Nat) : (marksTo l N k).length = N := by
  induction k with
  | zero => simp [marksTo]
  | succ k ih => simp [marksTo, ih]
theorem marksTo_le (l : List Int) (N k j : Nat) : gn (marksTo l N k) j ≤ 1 := by
  induction k with
  | zero =>
    by_cases h : j < N
    · simp [marksTo, gn, h]
    · rw [gn_out _ _ (by rw [marksTo_length]; omega)]; omega
  | succ k ih =>
    rw [marksTo]
    by_cases h : (ga l k).toNat < (marksTo l N k).length
    · rw [gn_set _ _ _ _ h]; split <;> omega
    · rw [List.set_eq_of_length_le (by omega)]; exact ih
def marks (l : List Int) (N : Nat) : List Nat := marksTo l N l.length

/-- What walsh.locator comes to. -/
def LocPost (r : Nat) (l : List Int) (w : World) (e : Ending) (w' : World) : Prop :=
  (okAll l (2 ^ r) ∧ ∃ g, e = .returned (.tuple #[.slice (some ⟨g, 0, none⟩) (2 ^ r) (2 ^ r), .int .i64 0]) ∧ Own w' 32 g (nv .u16 (convd r (marks l (2 ^ r)) (logList r))) [] ∧ w.heap.size ≤ g ∧ Chg No w w') ∨
  (¬ okAll l (2 ^ r) ∧ e = .returned (.tuple #[.slice none 0 0, .int .i64 31]) ∧ Chg No w w')

set_option maxRecDepth 10000 in
theorem locator_range (b : Nat) (p : Option Addr) (n c : Nat) (r : Int) (w : World) (hr : r < 0 ∨ 16 < r) :
    Calls Try.prog 32 #[.pointer (some ⟨b, 0, none⟩), .slice p n c, .int .i64 r] w fun e w' => e = .returned (.tuple #[.slice none 0 0, .int .i64 7]) ∧ Chg No w w' := by
  by_cases h : r < 0
  · have h1 : decide (r < 0) = true := by simpa using h
    go_enter Try.func32, Try.ntmps32
    go_wp2_with fail
    go_ret2
    exact ⟨rfl, Chg.refl _ _⟩
  · have h1 : decide (r < 0) = false := by simpa using h
    have h2 : decide (16 < r) = true := by simp; omega
    go_enter Try.func32, Try.ntmps32
    go_wp2_with fail
    go_ret2
    exact ⟨rfl, Chg.refl _ _⟩

set_option maxRecDepth 10000 in
set_option maxHeartbeats 4000000 in
theorem locator_calls (b r c : Nat) (p : Option Addr) (l : List Int) (w : World) (hT : Tab w b) (hr : r ≤ 16) (hl : Rd w .i64 p l) (hm : l.length ≤ maxLen) :
    Calls Try.prog 32 #[.pointer (some ⟨b, 0, none⟩), .slice p l.length c, .int .i64 (r : Int)] w (LocPost r l w) := by
  unfold maxLen at hm
  have h1 : decide ((r : Int) < 0) = false := by simp
  have h2 : decide (16 < (r : Int)) = false := by simp; omega
  have hr0 : (0 : Int) ≤ (r : Int) := by omega
  have hr1 : (r : Int) ≤ 16 := by omega
  have HS := hid (two_pow_int r hr)
  have hN0 : 1 ≤ 2 ^ r := Nat.one_le_two_pow
  have hN1 : 2 ^ r ≤ 65536 := Nat.pow_le_pow_right (by omega) hr
  have HLG := hid (logs_calls b r)
  have HLL := hid (logList_length r)
  have HCV := hid (fun g h a w => convolved_calls g h r a (logList r) w)
  have HLB : Hid (∀ j, gn (logList r) j < 65536) := hid (fun j => by
    by_cases h : j < 2 ^ r
    · rw [gn_logList _ _ h]; exact Nat.lt_of_lt_of_le (lgz_lt _) (by omega)
    · rw [gn_out _ _ (by rw [logList_length]; omega)]; omega)
  unfold LocPost
  generalize 2 ^ r = N at *
  go_enter Try.func32, Try.ntmps32
  go_wp2_with fail
  go_loopw [21] (fun i wr => ∃ k : Nat, k ≤ l.length ∧ i = .int .i64 (k : Int) ∧ (∀ j, j < k → okAt l N j) ∧ wr = w) (fun i _ => l.length - (intOf i).toNat)
  case atStart => exact ⟨0, by omega, rfl, fun j h => by omega, rfl⟩
  case round =>
    obtain ⟨k, hk, rfl, hok, rfl⟩ := hrel
    have HOK := hid hok
    clear hok
    by_cases hlt : k < l.length
    · obtain ⟨bb, off, rfl, hcell⟩ := hl k hlt
      by_cases hx0 : ga l k < 0
      · have ht : decide (ga l k < 0) = true := by simpa using hx0
        have HBAD : Hid (¬ okAll l N) := hid (fun H => by have := (H k hlt).1; omega)
        go_wp2_with fail
        go_ret2
        exact .inr ⟨HBAD.out, rfl, Chg.refl _ _⟩
      · have ht : decide (ga l k < 0) = false := by simpa using hx0
        by_cases hxN : (N : Int) ≤ ga l k
        · have ht2 : decide ((N : Int) ≤ ga l k) = true := by simpa using hxN
          have HBAD : Hid (¬ okAll l N) := hid (fun H => by have := (H k hlt).2.1; omega)
          go_wp2_with (rw [HS.out])
          go_ret2
          exact .inr ⟨HBAD.out, rfl, Chg.refl _ _⟩
        · have ht2 : decide ((N : Int) ≤ ga l k) = false := by simpa using hxN
          by_cases hk0 : k = 0
          · subst hk0
            rw [Nat.add_zero] at hcell
            have HG : Hid (okAt l N 0) := hid ⟨by omega, by omega, fun h => by omega⟩
            go_wp2_with (rw [HS.out])
            go_roundw
            case rel => exact ⟨1, by omega, rfl, fun j h => by obtain rfl : j = 0 := by omega
                                                               exact HG.out, by first | rfl | trivial⟩
            case measure => simp [intOf]; omega
          · have ht3 : decide (0 < (k : Int)) = true := by simp; omega
            obtain ⟨k1, rfl⟩ : ∃ k1, k = k1 + 1 := ⟨k - 1, by omega⟩
            obtain ⟨bb', off', he, hcell'⟩ := hl k1 (by omega)
            obtain ⟨rfl, rfl⟩ : bb = bb' ∧ off = off' := by simpa using he
            clear he hk0
            by_cases hle : ga l (k1 + 1) ≤ ga l k1
            · have ht4 : decide (ga l (k1 + 1) ≤ ga l k1) = true := by simpa using hle
              have HBAD : Hid (¬ okAll l N) := hid (fun H => by have := (H (k1 + 1) hlt).2.2 (by omega); simp at this; omega)
              go_wp2_with (rw [HS.out])
              go_ret2
              exact .inr ⟨HBAD.out, rfl, Chg.refl _ _⟩
            · have ht4 : decide (ga l (k1 + 1) ≤ ga l k1) = false := by simpa using hle
              have HG : Hid (okAt l N (k1 + 1)) := hid ⟨by omega, by omega, fun h => by simp; omega⟩
              go_wp2_with (rw [HS.out])
              go_roundw
              case rel => exact ⟨k1 + 1 + 1, by omega, by go_num, fun j h => by
                by_cases e : j = k1 + 1
                · subst e; exact HG.out
                · exact HOK.out j (by omega), by first | rfl | trivial⟩
              case measure => simp [intOf]; omega
    · obtain rfl : k = l.length := by omega
      have HGOOD : Hid (okAll l N) := HOK
      obtain ⟨w0, rfl⟩ : ∃ w0 : World, w0 = wr := ⟨_, rfl⟩
      have HL0 := hid hl
      have HT0 := hid hT
      have hb0 := TabAt.lt hT
      clear HOK hl hT
      go_wp2_with (first | (rw [HS.out]) | (at_make; go_must ((with_reducible refine wpList_mk1 32 (.int .u16 0) 2 N N ?_ ?_ ?_ ?_ ?_ ?_ ?_ ?_); exact ⟨rfl, rfl⟩; exact Try.underlying24; kernel_rfl; rfl; omega; omega; (unfold maxLen; omega); intro W1 hO1 hC1 hs1)))
      have HO1 : Own W1 32 w0.heap.size (nv .u16 (marksTo l N 0)) [] := by
        rw [marksTo, nv_replicate]; simpa using hO1
      have HC1 := hid hC1
      clear hO1 hC1
      go_loopw [53] (fun i wr => ∃ k : Nat, k ≤ l.length ∧ i = .int .i64 (k : Int) ∧ Own wr 32 w0.heap.size (nv .u16 (marksTo l N k)) [] ∧ Chg (Only w0.heap.size) W1 wr) (fun i _ => l.length - (intOf i).toNat)
      case atStart => exact ⟨0, by omega, rfl, HO1, Chg.refl _ _⟩
      case round =>
        obtain ⟨k, hk, rfl, hO, hC⟩ := hrel
        clear HO1
        by_cases hlt : k < l.length
        · obtain ⟨bb, off, rfl, hc0⟩ := HL0.out k hlt
          have hbl : bb < w0.heap.size := World.block_lt_of_cell? w0 _ hc0
          have hcell := hC.cell (HC1.out.cell hc0 id) (by simp [Only]; omega)
          have hok := HGOOD.out k hlt
          obtain ⟨x, hx⟩ : ∃ x : Nat, ga l k = (x : Int) := ⟨(ga l k).toNat, by have := hok.1; omega⟩
          have hxN : x < N := by have := hok.2.1; omega
          have hst : marksTo l N (k + 1) = (marksTo l N k).set x 1 := by rw [marksTo, hx]; rfl
          rw [hx] at hcell
          have hold := hO.nat (i := x) (by rw [marksTo_length]; exact hxN)
          have hf := hO.frozen x
          have HO := hid hO
          have HC := hid hC
          have HST := hid hst
          clear hst hO hC hx hok hc0
          go_wp2_with fail
          go_roundw
          case rel => exact ⟨k + 1, by omega, by go_num, by rw [HST.out]; exact HO.out.setNat (n := 1) (by rw [marksTo_length]; exact hxN), HC.out.setOnly _ _⟩
          case measure => simp [intOf]; omega
        · obtain rfl : k = l.length := by omega
          have HCw : Hid (Chg No w0 wr) := hid (HC1.out.trans' (T := Only w0.heap.size) hC (fun i hi e => by simp only [Only] at e; omega))
          have HTw : Hid (Tab wr b) := hid (HT0.out.keptNo HCw.out)
          have hsz : w0.heap.size < wr.heap.size := hO.lt
          have HO := hid hO
          clear hO hC
          go_wp2_with fail
          refine (HLG.out wr HTw.out hr).mono ?_
          rintro e w3 ⟨g, rfl, hO3, hg3, hC3⟩
          have hO4 := HO.out.keptNo hC3
          have hcv := HCV.out w0.heap.size g (marksTo l N l.length) w3 (by omega) hO4 hO3 (marksTo_length _ _ _) HLL.out hr (fun j => by have := marksTo_le l N l.length j; omega) HLB.out
          rw [marksTo_length, HLL.out] at hcv
          have HCV2 := hid hcv
          have HC4 : Hid (Chg No w0 w3) := hid (HCw.out.trans hC3)
          clear hcv hO4 hO3 hC3
          go_wp2_with fail
          refine HCV2.out.mono ?_
          rintro e w4 ⟨rfl, hO5, hC5⟩
          have hC6 : Chg No w0 w4 := HC4.out.trans' hC5 (fun i hi e => by rcases e with e | e <;> omega)
          clear hC5 HCV2
          go_wp2_with fail
          go_ret2
          exact .inl ⟨HGOOD.out, w0.heap.size, rfl, hO5, Nat.le_refl _, hC6⟩
end Go.Proofs.Ytpnmmedjamkmeaa
