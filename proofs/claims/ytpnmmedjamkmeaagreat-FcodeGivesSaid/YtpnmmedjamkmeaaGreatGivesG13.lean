/- Walks of walsh: the convolution in place. -/
import Derived.StillTailTactics
import Derived.Shelf.Sort.Plain
import Derived.Test.YtpnmmedjamkmeaaGreatProg
import Derived.ArgAppend
import Derived.Sort.OwnSortedInts
import Derived.Test.YtpnmmedjamkmeaaGreatGivesG5
import Derived.Test.YtpnmmedjamkmeaaGreatGivesG3
import Derived.Test.YtpnmmedjamkmeaaGreatGivesG1
import Derived.Test.YtpnmmedjamkmeaaGreatGivesG12
import Derived.Test.YtpnmmedjamkmeaaGreatGivesG6
import Derived.Test.YtpnmmedjamkmeaaGreatGivesG4
set_option linter.unusedVariables false
set_option linter.unusedSimpArgs false
namespace Go.Proofs.YtpnmmedjamkmeaaGreat
open Go.RowKit

theorem convd_length (t : Nat) (a b : List Nat) : (convd t a b).length = a.length := by simp [convd, backed_length, prods_length, stages_length]

set_option maxRecDepth 10000 in
set_option maxHeartbeats 1600000 in
theorem convolved_calls (g h t : Nat) (a b : List Nat) (w : World) (hgh : g ≠ h) (hA : Own w 88 g (nv .u16 a) []) (hB : Own w 88 h (nv .u16 b) [])
    (hla : a.length = 2 ^ t) (hlb : b.length = 2 ^ t) (ht : t ≤ 16) (ha : ∀ j, gn a j < 65536) (hb : ∀ j, gn b j < 65536) :
    Calls Tryz.prog 150 #[.slice (some ⟨g, 0, none⟩) a.length a.length, .slice (some ⟨h, 0, none⟩) b.length b.length] w fun e w' => e = .returned (.tuple #[]) ∧ Own w' 88 g (nv .u16 (convd t a b)) [] ∧ Chg (fun k => k = g ∨ k = h) w w' := by
  have hn : a.length ≤ 65536 := by rw [hla]; exact Nat.pow_le_pow_right (by omega) ht
  have H1 := hid (turn_calls g t a w hA hla ht ha)
  have H2 := hid (fun (w : World) (hB : Own w 88 h (nv .u16 b) []) => turn_calls h t b w hB hlb ht hb)
  have H3 := hid (fun (w : World) (x : List Nat) (hx : x.length = a.length) (hO : Own w 88 g (nv .u16 x) []) (hs : ∀ j, gn x j < 65536) => back_calls g t x w hO (by rw [hx, hla]) ht hs)
  have HLA := hid (stages_length t a)
  have HLB := hid (show (stages t b).length = a.length by rw [stages_length, hlb, hla])
  have HSA := hid (stages_small t a ha)
  have HSB := hid (stages_small t b hb)
  have HLL := hid (hlb.trans hla.symm)
  have HBK := hid hB
  have hne : h ≠ g := fun e => hgh e.symm
  have HC0 : Hid (convd t a b = backed t (prods (stages t a) (stages t b))) := hid rfl
  clear hA hB hla hlb ha hb
  rw [HLL.out] at H2 ⊢
  go_enter Tryz.func150, Tryz.ntmps150
  go_wp2_with fail
  refine (H1.out).mono ?_
  rintro e w1 ⟨rfl, hA1, hC1⟩
  clear H1
  go_wp2_with fail
  refine (H2.out w1 (HBK.out.kept hC1 hne)).mono ?_
  rintro e w2 ⟨rfl, hB2, hC2⟩
  have hA2 := hA1.kept hC2 hgh
  have hC3 : Chg (fun k => k = g ∨ k = h) w w2 := (hC1.mono (fun _ _ e => Or.inl e)).trans (hC2.mono (fun _ _ e => Or.inr e))
  clear hA1 hC1 hC2 H2 HBK
  generalize stages t a = x at *
  generalize stages t b = y at *
  go_wp2_with fail
  go_loopw [11, 4] (fun i _ wr => ∃ k : Nat, k ≤ a.length ∧ i = .int .i64 (k : Int) ∧ Own wr 88 g (nv .u16 (prodTo x y k)) [] ∧ Own wr 88 h (nv .u16 y) [] ∧ Chg (fun k => k = g ∨ k = h) w wr) (fun i _ _ => a.length - (intOf i).toNat)
  case atStart => exact ⟨0, by omega, rfl, by rw [prodTo_zero]; exact hA2, hB2, hC3⟩
  case round =>
    obtain ⟨k, hk, rfl, hO, hOB, hC⟩ := hrel
    clear hA2 hB2 hC3
    by_cases hlt : k < a.length
    · have hst := prodTo_set x y k (by rw [HLA.out]; exact hlt)
      have hcell := hO.nat (i := k) (by rw [prodTo_length, HLA.out]; exact hlt)
      have hcellb := hOB.nat (i := k) (by rw [HLB.out]; exact hlt)
      rw [gn_prodTo _ _ _ _ (by rw [HLA.out]; exact hlt), if_neg (by omega)] at hcell
      have hxb : gn x k < 65536 := HSA.out _
      have hyb : gn y k < 65536 := HSB.out _
      have HST := hid hst
      clear hst
      generalize gn x k = p at *
      generalize gn y k = q at *
      have hf := hO.frozen k
      have HO := hid hO
      have HC := hid hC
      have HOB := hid hOB
      have hp0 : (0 : Int) ≤ (p : Int) * (q : Int) := Int.mul_nonneg (by omega) (by omega)
      have hp1 : (p : Int) * (q : Int) ≤ 65536 * 65536 := Int.mul_le_mul (by omega) (by omega) (by omega) (by omega)
      have EV : Hid (((p : Int) * (q : Int)) % 65535 = ((p * q % 65535 : Nat) : Int)) := by show _ = _; simp
      have EW : IntKind.i64.wrap ((p : Int) * (q : Int)) = (p : Int) * (q : Int) := IntWalk.i64_in _ (by omega)
      have ET : ((p : Int) * (q : Int)).tmod 65535 = ((p : Int) * (q : Int)) % 65535 := Int.tmod_eq_emod_of_nonneg hp0
      have hm0 : (0 : Int) ≤ ((p : Int) * (q : Int)) % 65535 := by omega
      have hm1 : ((p : Int) * (q : Int)) % 65535 < 65535 := by omega
      clear hO hC hOB
      go_wp2_with fail
      go_still_tail 16, (by kernel_rfl)
      go_wp2_with fail
      rw [EV.out]
      go_roundw
      case rel => exact ⟨k + 1, by omega, by go_num, by rw [← HST.out]; exact (HO.out.setNat (by rw [prodTo_length, HLA.out]; exact hlt) _).drew, (HOB.out.setOther hne _).drew, (HC.out.setCell (p := ⟨g, k, none⟩) (.inl (.inl rfl)) _).drew⟩
      case measure => simp [intOf]; omega
    · obtain rfl : k = a.length := by omega
      have hfull := prodTo_full x y
      rw [HLA.out] at hfull
      rw [hfull] at hO
      have hln : (prods x y).length = a.length := by rw [prods_length, HLA.out]
      have h3 := H3.out wr (prods x y) hln hO (prods_small x y)
      rw [hln] at h3
      have H4 := hid h3
      have HC := hid hC
      clear hfull hln h3 hO hC
      go_wp2_with fail
      refine (H4.out).mono ?_
      rintro e w3 ⟨rfl, hO3, hC3⟩
      have hC4 : Chg (fun k => k = g ∨ k = h) w w3 := HC.out.trans (hC3.mono (fun _ _ e => Or.inl e))
      clear hC3 H4
      go_wp2_with fail
      go_end0
      exact ⟨rfl, by rw [HC0.out]; exact hO3, hC4⟩
end Go.Proofs.YtpnmmedjamkmeaaGreat

/- The walk of walsh.locator. -/
set_option linter.unusedVariables false
set_option linter.unusedSimpArgs false
namespace Go.Proofs.YtpnmmedjamkmeaaGreat
open Go.RowKit

/-- Is the k-th lost index fine: within 0 to N - 1, greater than the one before? -/
def okAt (l : List Int) (N k : Nat) : Prop := 0 ≤ ga l k ∧ ga l k < (N : Int) ∧ (0 < k → ga l (k - 1) < ga l k)
def okAll (l : List Int) (N : Nat) : Prop := ∀ k, k < l.length → okAt l N k
instance (l : List Int) (N k : Nat) : Decidable (okAt l N k) := by unfold okAt; infer_instance

/-- The marks of the first k lost indices. -/
def marksTo (l : List Int) (N : Nat) : Nat → List Nat
  | 0 => List.replicate N 0
  | k + 1 => (marksTo l N k).set (ga l k).toNat 1
theorem marksTo_length (l : List Int) (N k : Nat) : (marksTo l N k).length = N := by
  induction k with
  | zero => simp [marksTo]
  | succ k ih => simp [marksTo, ih]
theorem marksTo_le (l : List Int) (N k j : Nat) : gn (marksTo l N k) j ≤ 1 := by
  induction k with
  | zero =>
    by_cases h : j < N
    · simp [marksTo, gn, h]
    · rw [gn_out _ _ (by rw [marksTo_length]; omega)]; omega
  | succ k ih =>
    rw [marksTo]
    by_cases h : (ga l k).toNat < (marksTo l N k).length
    · rw [gn_set _ _ _ _ h]; split <;> omega
    · rw [List.set_eq_of_length_le (by omega)]; exact ih
def marks (l : List Int) (N : Nat) : List Nat := marksTo l N l.length

/-- What walsh.locator comes to. -/
def LocPost (r : Nat) (l : List Int) (w : World) (e : Ending) (w' : World) : Prop :=
  (okAll l (2 ^ r) ∧ ∃ g, e = .returned (.tuple #[.slice (some ⟨g, 0, none⟩) (2 ^ r) (2 ^ r), .int .i64 0]) ∧ Own w' 88 g (nv .u16 (convd r (marks l (2 ^ r)) (logList r))) [] ∧ w.heap.size ≤ g ∧ Chg No w w') ∨
  (¬ okAll l (2 ^ r) ∧ e = .returned (.tuple #[.slice none 0 0, .int .i64 31]) ∧ Chg No w w')

set_option maxRecDepth 10000 in
theorem locator_range (b : Nat) (p : Option Addr) (n c : Nat) (r : Int) (w : World) (hr : r < 0 ∨ 16 < r) :
    Calls Tryz.prog 131 #[.pointer (some ⟨b, 0, none⟩), .slice p n c, .int .i64 r] w fun e w' => e = .returned (.tuple #[.slice none 0 0, .int .i64 7]) ∧ Chg No w w' := by
  by_cases h : r < 0
  · have h1 : decide (r < 0) = true := by simpa using h
    go_enter Tryz.func131, Tryz.ntmps131
    go_wp2_with fail
    go_ret2
    exact ⟨rfl, Chg.refl _ _⟩
  · have h1 : decide (r < 0) = false := by simpa using h
    have h2 : decide (16 < r) = true := by simp; omega
    go_enter Tryz.func131, Tryz.ntmps131
    go_wp2_with fail
    go_ret2
    exact ⟨rfl, Chg.refl _ _⟩

set_option maxRecDepth 10000 in
set_option maxHeartbeats 4000000 in
theorem locator_calls (b r c : Nat) (p : Option Addr) (l : List Int) (w : World) (hT : Tab w b) (hr : r ≤ 16) (hl : Rd w .i64 p l) (hm : l.length ≤ maxLen) :
    Calls Tryz.prog 131 #[.pointer (some ⟨b, 0, none⟩), .slice p l.length c, .int .i64 (r : Int)] w (LocPost r l w) := by
  unfold maxLen at hm
  have h1 : decide ((r : Int) < 0) = false := by simp
  have h2 : decide (16 < (r : Int)) = false := by simp; omega
  have hr0 : (0 : Int) ≤ (r : Int) := by omega
  have hr1 : (r : Int) ≤ 16 := by omega
  have HS := hid (two_pow_int r hr)
  have hN0 : 1 ≤ 2 ^ r := Nat.one_le_two_pow
  have hN1 : 2 ^ r ≤ 65536 := Nat.pow_le_pow_right (by omega) hr
  have HLG := hid (logs_calls b r)
  have HLL := hid (logList_length r)
  have HCV := hid (fun g h a w => convolved_calls g h r a (logList r) w)
  have HLB : Hid (∀ j, gn (logList r) j < 65536) := hid (fun j => by
    by_cases h : j < 2 ^ r
    · rw [gn_logList _ _ h]; exact Nat.lt_of_lt_of_le (lgz_lt _) (by omega)
    · rw [gn_out _ _ (by rw [logList_length]; omega)]; omega)
  unfold LocPost
  generalize 2 ^ r = N at *
  go_enter Tryz.func131, Tryz.ntmps131
  go_wp2_with fail
  go_loopw [21] (fun i wr => ∃ k : Nat, k ≤ l.length ∧ i = .int .i64 (k : Int) ∧ (∀ j, j < k → okAt l N j) ∧ wr = w) (fun i _ => l.length - (intOf i).toNat)
  case atStart => exact ⟨0, by omega, rfl, fun j h => by omega, rfl⟩
  case round =>
    obtain ⟨k, hk, rfl, hok, rfl⟩ := hrel
    have HOK := hid hok
    clear hok
    by_cases hlt : k < l.length
    · obtain ⟨bb, off, rfl, hcell⟩ := hl k hlt
      by_cases hx0 : ga l k < 0
      · have ht : decide (ga l k < 0) = true := by simpa using hx0
        have HBAD : Hid (¬ okAll l N) := hid (fun H => by have := (H k hlt).1; omega)
        go_wp2_with fail
        go_ret2
        exact .inr ⟨HBAD.out, rfl, Chg.refl _ _⟩
      · have ht : decide (ga l k < 0) = false := by simpa using hx0
        by_cases hxN : (N : Int) ≤ ga l k
        · have ht2 : decide ((N : Int) ≤ ga l k) = true := by simpa using hxN
          have HBAD : Hid (¬ okAll l N) := hid (fun H => by have := (H k hlt).2.1; omega)
          go_wp2_with (rw [HS.out])
          go_ret2
          exact .inr ⟨HBAD.out, rfl, Chg.refl _ _⟩
        · have ht2 : decide ((N : Int) ≤ ga l k) = false := by simpa using hxN
          by_cases hk0 : k = 0
          · subst hk0
            rw [Nat.add_zero] at hcell
            have HG : Hid (okAt l N 0) := hid ⟨by omega, by omega, fun h => by omega⟩
            go_wp2_with (rw [HS.out])
            go_roundw
            case rel => exact ⟨1, by omega, rfl, fun j h => by obtain rfl : j = 0 := by omega
                                                               exact HG.out, by first | rfl | trivial⟩
            case measure => simp [intOf]; omega
          · have ht3 : decide (0 < (k : Int)) = true := by simp; omega
            obtain ⟨k1, rfl⟩ : ∃ k1, k = k1 + 1 := ⟨k - 1, by omega⟩
            obtain ⟨bb', off', he, hcell'⟩ := hl k1 (by omega)
            obtain ⟨rfl, rfl⟩ : bb = bb' ∧ off = off' := by simpa using he
            clear he hk0
            by_cases hle : ga l (k1 + 1) ≤ ga l k1
            · have ht4 : decide (ga l (k1 + 1) ≤ ga l k1) = true := by simpa using hle
              have HBAD : Hid (¬ okAll l N) := hid (fun H => by have := (H (k1 + 1) hlt).2.2 (by omega); simp at this; omega)
              go_wp2_with (rw [HS.out])
              go_ret2
              exact .inr ⟨HBAD.out, rfl, Chg.refl _ _⟩
            · have ht4 : decide (ga l (k1 + 1) ≤ ga l k1) = false := by simpa using hle
              have HG : Hid (okAt l N (k1 + 1)) := hid ⟨by omega, by omega, fun h => by simp; omega⟩
              go_wp2_with (rw [HS.out])
              go_roundw
              case rel => exact ⟨k1 + 1 + 1, by omega, by go_num, fun j h => by
                by_cases e : j = k1 + 1
                · subst e; exact HG.out
                · exact HOK.out j (by omega), by first | rfl | trivial⟩
              case measure => simp [intOf]; omega
    · obtain rfl : k = l.length := by omega
      have HGOOD : Hid (okAll l N) := HOK
      obtain ⟨w0, rfl⟩ : ∃ w0 : World, w0 = wr := ⟨_, rfl⟩
      have HL0 := hid hl
      have HT0 := hid hT
      have hb0 := TabAt.lt hT
      clear HOK hl hT
      go_wp2_with (first | (rw [HS.out]) | (at_make; go_must ((with_reducible refine wpList_mk1 88 (.int .u16 0) 2 N N ?_ ?_ ?_ ?_ ?_ ?_ ?_ ?_); exact ⟨rfl, rfl⟩; exact Tryz.underlying58; kernel_rfl; rfl; omega; omega; (unfold maxLen; omega); intro W1 hO1 hC1 hs1)))
      have HO1 : Own W1 88 w0.heap.size (nv .u16 (marksTo l N 0)) [] := by
        rw [marksTo, nv_replicate]; simpa using hO1
      have HC1 := hid hC1
      clear hO1 hC1
      go_loopw [53] (fun i wr => ∃ k : Nat, k ≤ l.length ∧ i = .int .i64 (k : Int) ∧ Own wr 88 w0.heap.size (nv .u16 (marksTo l N k)) [] ∧ Chg (Only w0.heap.size) W1 wr) (fun i _ => l.length - (intOf i).toNat)
      case atStart => exact ⟨0, by omega, rfl, HO1, Chg.refl _ _⟩
      case round =>
        obtain ⟨k, hk, rfl, hO, hC⟩ := hrel
        clear HO1
        by_cases hlt : k < l.length
        · obtain ⟨bb, off, rfl, hc0⟩ := HL0.out k hlt
          have hbl : bb < w0.heap.size := World.block_lt_of_cell? w0 _ hc0
          have hcell := hC.cell (HC1.out.cell hc0 id) (by simp [Only]; omega)
          have hok := HGOOD.out k hlt
          obtain ⟨x, hx⟩ : ∃ x : Nat, ga l k = (x : Int) := ⟨(ga l k).toNat, by have := hok.1; omega⟩
          have hxN : x < N := by have := hok.2.1; omega
          have hst : marksTo l N (k + 1) = (marksTo l N k).set x 1 := by rw [marksTo, hx]; rfl
          rw [hx] at hcell
          have hold := hO.nat (i := x) (by rw [marksTo_length]; exact hxN)
          have hf := hO.frozen x
          have HO := hid hO
          have HC := hid hC
          have HST := hid hst
          clear hst hO hC hx hok hc0
          go_wp2_with fail
          go_roundw
          case rel => exact ⟨k + 1, by omega, by go_num, by rw [HST.out]; exact HO.out.setNat (n := 1) (by rw [marksTo_length]; exact hxN), HC.out.setOnly _ _⟩
          case measure => simp [intOf]; omega
        · obtain rfl : k = l.length := by omega
          have HCw : Hid (Chg No w0 wr) := hid (HC1.out.trans' (T := Only w0.heap.size) hC (fun i hi e => by simp only [Only] at e; omega))
          have HTw : Hid (Tab wr b) := hid (HT0.out.keptNo HCw.out)
          have hsz : w0.heap.size < wr.heap.size := hO.lt
          have HO := hid hO
          clear hO hC
          go_wp2_with fail
          refine (HLG.out wr HTw.out hr).mono ?_
          rintro e w3 ⟨g, rfl, hO3, hg3, hC3⟩
          have hO4 := HO.out.keptNo hC3
          have hcv := HCV.out w0.heap.size g (marksTo l N l.length) w3 (by omega) hO4 hO3 (marksTo_length _ _ _) HLL.out hr (fun j => by have := marksTo_le l N l.length j; omega) HLB.out
          rw [marksTo_length, HLL.out] at hcv
          have HCV2 := hid hcv
          have HC4 : Hid (Chg No w0 w3) := hid (HCw.out.trans hC3)
          clear hcv hO4 hO3 hC3
          go_wp2_with fail
          refine HCV2.out.mono ?_
          rintro e w4 ⟨rfl, hO5, hC5⟩
          have hC6 : Chg No w0 w4 := HC4.out.trans' hC5 (fun i hi e => by rcases e with e | e <;> omega)
          clear hC5 HCV2
          go_wp2_with fail
          go_ret2
          exact .inl ⟨HGOOD.out, w0.heap.size, rfl, hO5, Nat.le_refl _, hC6⟩
end Go.Proofs.YtpnmmedjamkmeaaGreat

/- The plain law of WalshDifferences: the locator's logarithms are the sums over the lost indices, their powers the products of the differences. -/
set_option linter.unusedVariables false
namespace Go.Proofs.YtpnmmedjamkmeaaGreat

theorem SX_point (t e : Nat) (c : Int) (he : e < 2 ^ t) : SX t (fun n => if n = e then c else 0) = c := by
  have h := SX_shift t (fun n => if n = e then c else 0) e he
  rw [← h]
  have e1 : (fun j => (fun n => if n = e then c else 0) (j ^^^ e)) = fun j => if j = 0 then c else 0 := by
    funext j
    by_cases hj : j = 0
    · subst hj; simp
    · have : j ^^^ e ≠ e := fun hh => hj (by
        have : j ^^^ e ^^^ e = e ^^^ e := by rw [hh]
        rwa [Nat.xor_assoc, Nat.xor_self, Nat.xor_zero] at this)
      simp [hj, this]
  rw [e1]
  clear h e1 he
  induction t with
  | zero => simp [SX]
  | succ t ih =>
    rw [SX, ih]
    have : SX t (fun j => if 2 ^ t ^^^ j = 0 then c else 0) = SX t (fun _ => 0) := by
      refine SX_congr fun j hj => ?_
      rw [if_neg]
      intro h
      have := xor_eq_zero h
      omega
    rw [this]
    have z : SX t (fun _ => 0) = 0 := by
      have := SX_mul t 0 (fun _ => 0)
      simpa using this
    rw [z, Int.add_zero]

/-- The sum of the logarithms of the differences to the first k lost indices. -/
def sumLg (l : List Int) (i : Nat) : Nat → Nat
  | 0 => 0
  | k + 1 => sumLg l i k + lgz (el (i ^^^ (ga l k).toNat))
theorem rising {l : List Int} {N : Nat} (h : okAll l N) : ∀ k, k < l.length → ∀ j, j < k → ga l j < ga l k := by
  intro k
  induction k with
  | zero => intro _ j hj; omega
  | succ k ih =>
    intro hk j hj
    have h1 := (h (k + 1) hk).2.2 (by omega)
    simp only [Nat.add_sub_cancel] at h1
    by_cases e : j = k
    · subst e; exact h1
    · have := ih (by omega) j (by omega); omega
theorem marksTo_zero {l : List Int} {N : Nat} (h : okAll l N) (k : Nat) (hk : k ≤ l.length) (e : Nat) (he : ∀ j, j < k → (ga l j).toNat ≠ e) : gn (marksTo l N k) e = 0 := by
  induction k with
  | zero =>
    by_cases c : e < N
    · simp [marksTo, gn, c]
    · rw [gn_out _ _ (by rw [marksTo_length]; omega)]
  | succ k ih =>
    rw [marksTo, gn_set _ _ _ _ (by rw [marksTo_length]; have := (h k (by omega)).2.1; have := (h k (by omega)).1; omega), if_neg (fun c => he k (by omega) c.symm)]
    exact ih (by omega) fun j hj => he j (by omega)
theorem conv_marks {l : List Int} {r : Nat} (h : okAll l (2 ^ r)) (i : Nat) (hi : i < 2 ^ r) (k : Nat) (hk : k ≤ l.length) :
    conv r (fun j => (gn (marksTo l (2 ^ r) k) j : Int)) (fun j => (gn (logList r) j : Int)) i = (sumLg l i k : Int) := by
  induction k with
  | zero =>
    unfold conv
    have : SX r (fun n => ((gn (marksTo l (2 ^ r) 0) n : Nat) : Int) * ((gn (logList r) (i ^^^ n) : Nat) : Int)) = SX r (fun n => 0 * (1 : Int)) := by
      refine SX_congr fun n hn => ?_
      rw [marksTo_zero h 0 (by omega) n (by omega)]; simp
    rw [this, SX_mul]
    simp [sumLg]
  | succ k ih =>
    have hok := h k (by omega)
    have he : (ga l k).toNat < 2 ^ r := by have := hok.2.1; have := hok.1; omega
    rw [sumLg, Int.natCast_add, ← ih (by omega)]
    unfold conv
    have hx : i ^^^ (ga l k).toNat < 2 ^ r := Nat.xor_lt_two_pow hi he
    rw [← gn_logList r _ hx]
    have hp := SX_point r (ga l k).toNat ((gn (logList r) (i ^^^ (ga l k).toNat) : Nat) : Int) he
    rw [← hp, ← SX_add]
    refine SX_congr fun n hn => ?_
    show ((gn (marksTo l (2 ^ r) (k + 1)) n : Nat) : Int) * _ = _
    rw [marksTo, gn_set _ _ _ _ (by rw [marksTo_length]; exact he)]
    by_cases e : n = (ga l k).toNat
    · subst e
      rw [if_pos rfl, if_pos rfl]
      have hz := marksTo_zero h k (by omega) (ga l k).toNat (fun j hj => by
        have h1 := rising h k (by omega) j hj
        have h2 := (h j (by omega)).1
        omega)
      simp only [hz]; simp
    · rw [if_neg e, if_neg e, Int.add_zero]
theorem convd_small (t : Nat) (a b : List Nat) (j : Nat) : gn (convd t a b) j < 65535 := backed_small _ _ _
/-- The locator at i: the sum of the logarithms. -/
theorem loc_value {l : List Int} {r : Nat} (hr : r ≤ 16) (h : okAll l (2 ^ r)) (i : Nat) (hi : i < 2 ^ r) : gn (convd r (marks l (2 ^ r)) (logList r)) i = sumLg l i l.length % 65535 := by
  have hv := convd_value (t := r) (a := marks l (2 ^ r)) (b := logList r) hr (marksTo_length _ _ _) (logList_length r) (fun j => by have := marksTo_le l (2 ^ r) l.length j; unfold marks; omega)
    (fun j => by
      by_cases h : j < 2 ^ r
      · rw [gn_logList _ _ h]; exact Nat.lt_of_lt_of_le (lgz_lt _) (by omega)
      · rw [gn_out _ _ (by rw [logList_length]; omega)]; omega) i hi
  have hc := conv_marks h i hi l.length (Nat.le_refl _)
  unfold marks at hv
  rw [hc] at hv
  have hs := convd_small r (marks l (2 ^ r)) (logList r) i
  unfold marks at hs ⊢
  omega
/-- The product of the differences to the first k lost indices, by the tables. -/
def wantTo (l : List Int) (i : Nat) : Nat → Nat
  | 0 => 1
  | k + 1 => if ga l k = (i : Int) then wantTo l i k else tmul (wantTo l i k) (el i ^^^ el (ga l k).toNat)
theorem want_value {l : List Int} {r : Nat} (hr : r ≤ 16) (h : okAll l (2 ^ r)) (i : Nat) (hi : i < 2 ^ r) (k : Nat) (hk : k ≤ l.length) : wantTo l i k = ex (sumLg l i k % 65535) := by
  have hN : 2 ^ r ≤ 65536 := Nat.pow_le_pow_right (n := 2) (by omega) hr
  induction k with
  | zero => rfl
  | succ k ih =>
    have hok := h k (by omega)
    have h1 := hok.1
    have h2 := hok.2.1
    rw [wantTo, sumLg, ih (by omega)]
    by_cases e : ga l k = (i : Int)
    · rw [if_pos e, e, Int.toNat_natCast, Nat.xor_self, el_zero]
      simp [lgz]
    · rw [if_neg e]
      have hne : i ^^^ (ga l k).toNat ≠ 0 := fun c => e (by have := xor_eq_zero c; omega)
      have hlt : i ^^^ (ga l k).toNat < 65536 := xor_lt16 (by omega) (by omega)
      have hel := el_ne_zero hlt hne
      rw [← el_xor]
      unfold tmul lgz
      rw [if_neg (by simp only [not_or]; exact ⟨ex_ne_zero _, hel⟩), if_neg hel, lg_ex (Nat.mod_lt _ (by omega))]
      congr 1
      omega
theorem wantTo_lt (l : List Int) (i k : Nat) : wantTo l i k < 65536 := by
  induction k with
  | zero => simp [wantTo]
  | succ k ih =>
    rw [wantTo]
    split
    · exact ih
    · exact tmul_lt _ _
end Go.Proofs.YtpnmmedjamkmeaaGreat

/- Walks: BinarySearch over rising numbers, place, longest. -/
set_option linter.unusedSimpArgs false
set_option linter.unusedVariables false
set_option linter.unusedSimpArgs false
namespace Go.Proofs.YtpnmmedjamkmeaaGreat
open Go.RowKit

theorem cnan_calls (a : Int) (w : World) : Calls Tryz.prog 145 #[.int .i64 a] w fun e w' => e = .returned (.bool false) ∧ w' = w := by
  have h : (a != a) = false := by simp
  go_enter Tryz.func145, Tryz.ntmps145
  go_wp2_with fail
  go_ret
  exact ⟨rfl, rfl⟩
theorem snan_calls (a : Int) (w : World) : Calls Tryz.prog 123 #[.int .i64 a] w fun e w' => e = .returned (.bool false) ∧ w' = w := by
  have h : (a != a) = false := by simp
  go_enter Tryz.func123, Tryz.ntmps123
  go_wp2_with fail
  go_ret
  exact ⟨rfl, rfl⟩
theorem less_calls (a b : Nat) (w : World) : Calls Tryz.prog 122 #[.int .i64 (a : Int), .int .i64 (b : Int)] w fun e w' => e = .returned (.bool (decide (a < b))) ∧ w' = w := by
  have H := hid (fun a w => cnan_calls a w)
  obtain ⟨t, ht⟩ : ∃ t, t = decide (a < b) := ⟨_, rfl⟩
  have ht2 : decide ((a : Int) < (b : Int)) = t := by rw [ht]; congr 1; apply propext; omega
  rw [← ht]
  have ht3 : decide (a < b) = t := ht.symm
  clear ht
  go_enter Tryz.func122, Tryz.ntmps122
  go_wp2_with fail
  refine (H.out _ _).mono ?_
  rintro e w1 ⟨rfl, rfl⟩
  go_wp2_with fail
  go_ret
  exact ⟨by first | rfl | (show Ending.returned (Value.bool (decide _)) = _; first | rw [ht3] | rw [ht2]), rfl⟩
/-- Rising numbers. -/
def Ris (ms : List Nat) : Prop := ∀ i j, i < j → j < ms.length → gn ms i < gn ms j
theorem mem_gn {l : List Nat} {x : Nat} : x ∈ l ↔ ∃ i, i < l.length ∧ gn l i = x := by
  constructor
  · intro h
    obtain ⟨i, hi, rfl⟩ := List.getElem_of_mem h
    exact ⟨i, hi, gn_get l i hi⟩
  · rintro ⟨i, hi, rfl⟩
    rw [gn_get l i hi]; exact List.getElem_mem hi
def BsPost (ms : List Nat) (s : Nat) (w : World) (e : Ending) (w' : World) : Prop := ∃ a : Nat, e = .returned (.tuple #[.int .i64 (a : Int), .bool (decide (s ∈ ms))]) ∧ w' = w
theorem Bsearch_calls (p : Option Addr) (n c s : Nat) (ms : List Nat) (w : World) (hl : Rn w .i64 p ms) (hn : ms.length = n) (hm : n ≤ 131072) (hr : Ris ms) :
    Calls Tryz.prog 94 #[.slice p n c, .int .i64 (s : Int)] w (BsPost ms s w) := by
  have HL := hid hl
  have HN := hid hn
  have HR := hid hr
  have HLS := hid (fun a b w => less_calls a b w)
  have HNN := hid (fun a w => snan_calls a w)
  clear hl hn hr
  go_enter Tryz.func94, Tryz.ntmps94
  go_wp2_with fail
  go_loop [7, 8] (fun i j => ∃ a b : Nat, a ≤ b ∧ b ≤ n ∧ i = .int .i64 (a : Int) ∧ j = .int .i64 (b : Int) ∧ (∀ q, q < a → gn ms q < s) ∧ ∀ q, b ≤ q → q < n → s ≤ gn ms q) (fun i j => (intOf j).toNat - (intOf i).toNat)
  case atStart => exact ⟨0, n, by omega, Nat.le_refl _, rfl, rfl, fun q h => by omega, fun q h1 h2 => by omega⟩
  case round =>
    obtain ⟨a, b, hab, hbn, rfl, rfl, h1, h2⟩ := hrel
    have H1 := hid h1
    have H2 := hid h2
    clear h1 h2
    by_cases hlt : a < b
    · obtain ⟨h, hh⟩ : ∃ h, h = (a + b) / 2 := ⟨_, rfl⟩
      have hlt2 : (a : Int) < (b : Int) := by omega
      have hh1 : a ≤ h := by omega
      have hh2 : h < b := by omega
      have EH : ((a : Int) + (b : Int)) / 2 = (h : Int) := by omega
      obtain ⟨bb, off, rfl, hc⟩ := HL.out h (by rw [HN.out]; omega)
      have HH := hid hh
      have hhn : (h : Int) < (n : Int) := by omega
      have hh0 : (0 : Int) ≤ (h : Int) := by omega
      clear hh
      by_cases hv : gn ms h < s
      · have hall : ∀ q, q < h + 1 → gn ms q < s := fun q hq => by
          by_cases e : q = h
          · rw [e]; exact hv
          · have := HR.out q h (by omega) (by rw [HN.out]; omega); omega
        have HALL := hid hall
        have hLS := HLS.out (gn ms h) s w
        rw [decide_eq_true hv] at hLS
        have HLS2 := hid hLS
        clear hv hLS hall
        generalize gn ms h = v at *
        go_wp2_with fail
        refine HLS2.out.mono ?_
        rintro e w1 ⟨rfl, rfl⟩
        go_wp2_with fail
        go_round
        case rel => exact ⟨h + 1, b, by omega, hbn, by go_num, rfl, HALL.out, H2.out⟩
        case measure => simp [intOf]; omega
      · have hall : ∀ q, h ≤ q → q < n → s ≤ gn ms q := fun q hq hq2 => by
          by_cases e : q = h
          · rw [e]; omega
          · have := HR.out h q (by omega) (by rw [HN.out]; omega); omega
        have HALL := hid hall
        have hLS := HLS.out (gn ms h) s w
        rw [decide_eq_false hv] at hLS
        have HLS2 := hid hLS
        clear hv hLS hall
        generalize gn ms h = v at *
        go_wp2_with fail
        refine HLS2.out.mono ?_
        rintro e w1 ⟨rfl, rfl⟩
        go_wp2_with fail
        go_round
        case rel => exact ⟨a, h, by omega, by omega, rfl, rfl, H1.out, HALL.out⟩
        case measure => simp [intOf]; omega
    · obtain rfl : a = b := by omega
      by_cases han : a < n
      · obtain ⟨bb, off, rfl, hc⟩ := HL.out a (by rw [HN.out]; omega)
        have han2 : (a : Int) < (n : Int) := by omega
        by_cases hv : gn ms a = s
        · have HD : Hid (decide (s ∈ ms) = true) := hid (by rw [decide_eq_true_eq]; exact mem_gn.2 ⟨a, by rw [HN.out]; exact han, hv⟩)
          rw [hv] at hc
          clear hv
          go_wp2_with fail
          go_ret2
          exact ⟨a, by rw [HD.out]; rfl, rfl⟩
        · have HD : Hid (decide (s ∈ ms) = false) := hid (by
            rw [decide_eq_false_iff_not]
            intro hm
            obtain ⟨i, hi, e⟩ := mem_gn.1 hm
            rw [HN.out] at hi
            by_cases c1 : i < a
            · have := H1.out i c1; omega
            · by_cases c2 : i = a
              · rw [c2] at e; exact hv e
              · have := H2.out a (Nat.le_refl _) han
                have := HR.out a i (by omega) (by rw [HN.out]; omega); omega)
          have hv2 : ((gn ms a : Int) == (s : Int)) = false := by simp; omega
          have HNA := hid (HNN.out (gn ms a : Int) w)
          clear hv
          generalize gn ms a = v at *
          go_wp2_with fail
          refine HNA.out.mono ?_
          rintro e w1 ⟨rfl, rfl⟩
          go_wp2_with fail
          go_ret2
          exact ⟨a, by rw [HD.out]; rfl, rfl⟩
      · have HD : Hid (decide (s ∈ ms) = false) := hid (by
          rw [decide_eq_false_iff_not]
          intro hm
          obtain ⟨i, hi, e⟩ := mem_gn.1 hm
          rw [HN.out] at hi
          have := H1.out i (by omega); omega)
        have han2 : ¬ ((a : Int) < (n : Int)) := by omega
        go_wp2_with fail
        go_ret2
        exact ⟨a, by rw [HD.out]; rfl, rfl⟩

theorem place_calls (fast : Bool) (C k m r W T K s : Nat) (w : World) (hc : Cd w fast C k m r W T K) (hs : s < k + m) :
    Calls Tryz.prog 93 #[.pointer (some ⟨C, 0, none⟩), .int .i64 (s : Int)] w fun e w' => e = .returned (.int .i64 (plc k m s : Int)) ∧ w' = w := by
  have c0 := hc.c0
  have c2 := hc.c2
  obtain ⟨h1, h2, h3, h4, h5⟩ := hc.prm
  rw [Int.toNat_natCast] at h5
  have hp : p2 m ≤ 65536 := by omega
  obtain ⟨z, hz⟩ : ∃ z, z = plc k m s := ⟨_, rfl⟩
  rw [← hz]
  unfold plc at hz
  generalize p2 m = P at *
  clear hc
  by_cases hk : s < k
  · rw [if_pos hk] at hz
    have e1 : (P : Int) + (s : Int) = (z : Int) := by omega
    have HZ := hid hz
    clear hz
    go_enter Tryz.func93, Tryz.ntmps93
    go_wp2_with fail
    go_ret
    exact ⟨rfl, rfl⟩
  · rw [if_neg hk] at hz
    have e1 : (s : Int) - (k : Int) = (z : Int) := by omega
    have HZ := hid hz
    clear hz
    go_enter Tryz.func93, Tryz.ntmps93
    go_wp2_with fail
    go_ret
    exact ⟨rfl, rfl⟩

/-- The greatest length of the first rows. -/
def lonTo (ls : List (List Nat)) : Nat → Nat
  | 0 => 0
  | i + 1 => max (lonTo ls i) (gl ls i).length
theorem longest_calls (p : Option Addr) (n c : Nat) (ls : List (List Nat)) (w : World) (hl : Lr w .u8 p ls) (hn : ls.length = n) (hm : n ≤ 131072) :
    Calls Tryz.prog 92 #[.slice p n c] w fun e w' => e = .returned (.int .i64 (lonTo ls n : Int)) ∧ w' = w := by
  have HL := hid hl
  have HN := hid hn
  clear hl hn
  go_enter Tryz.func92, Tryz.ntmps92
  go_wp2_with fail
  go_loop [3, 8] (fun v i => ∃ j : Nat, j ≤ n ∧ i = .int .i64 (j : Int) ∧ v = .int .i64 (lonTo ls j : Int)) (fun _ i => n - (intOf i).toNat)
  case atStart => exact ⟨0, by omega, rfl, rfl⟩
  case round =>
    obtain ⟨j, hj, rfl, rfl⟩ := hrel
    by_cases hlt : j < n
    · obtain ⟨b, off, q, cc, rfl, hc, _, hml, _⟩ := HL.out j (by rw [HN.out]; exact hlt)
      have HSU : Hid (lonTo ls (j + 1) = max (lonTo ls j) (gl ls j).length) := hid rfl
      have hlt2 : (j : Int) < (n : Int) := by omega
      generalize (gl ls j).length = a at *
      generalize lonTo ls j = b' at *
      go_wp2_with fail
      go_round
      case rel => exact ⟨j + 1, by omega, by go_num, by rw [HSU.out]; congr 1; omega⟩
      case measure => simp [intOf]; omega
    · obtain rfl : j = n := by omega
      have hlt2 : ¬ ((j : Int) < (j : Int)) := by omega
      go_wp2_with fail
      go_ret
      exact ⟨rfl, rfl⟩
end Go.Proofs.YtpnmmedjamkmeaaGreat

/- The lost places and the locator's logarithms: plain. -/
set_option linter.unusedVariables false
set_option linter.unusedSimpArgs false
namespace Go.Proofs.YtpnmmedjamkmeaaGreat

/-- The places as the code lists them. -/
def lostN (k m : Nat) (mis : List Nat) : List Nat := mis.map (plc k m) ++ (List.range (p2 m - m)).map (m + ·)
/-- The same in their order. -/
def lostI (k m : Nat) (mis : List Nat) : List Int := ((lostN k m mis).map Int.ofNat).mergeSort fun x y => decide (x ≤ y)
theorem lostN_length (k m : Nat) (mis : List Nat) : (lostN k m mis).length = mis.length + (p2 m - m) := by simp [lostN]
theorem lostI_length (k m : Nat) (mis : List Nat) : (lostI k m mis).length = mis.length + (p2 m - m) := by
  unfold lostI; rw [List.length_mergeSort, List.length_map, lostN_length]
theorem mem_lostN {k m q : Nat} {mis : List Nat} : q ∈ lostN k m mis ↔ (∃ i ∈ mis, plc k m i = q) ∨ (m ≤ q ∧ q < p2 m) := by
  unfold lostN
  rw [List.mem_append, List.mem_map, List.mem_map]
  constructor
  · rintro (h | ⟨a, ha, rfl⟩)
    · exact .inl h
    · have := List.mem_range.1 ha
      exact .inr ⟨by omega, by omega⟩
  · rintro (h | ⟨h1, h2⟩)
    · exact .inl h
    · exact .inr ⟨q - m, List.mem_range.2 (by omega), by omega⟩
theorem ris_nodup {ms : List Nat} (h : Ris ms) : ms.Nodup := by
  unfold List.Nodup
  rw [List.pairwise_iff_getElem]
  intro i j hi hj hij e
  have := h i j hij hj
  rw [gn_get _ _ hi, gn_get _ _ hj, e] at this
  omega
theorem lostN_nodup {k m : Nat} {mis : List Nat} (hr : Ris mis) (hlt : ∀ s ∈ mis, s < k + m) : (lostN k m mis).Nodup := by
  unfold lostN
  rw [List.nodup_append]
  refine ⟨?_, ?_, ?_⟩
  · have hn := ris_nodup hr
    unfold List.Nodup at hn ⊢
    rw [List.pairwise_map]
    refine List.Pairwise.imp_of_mem (fun {a b} ha hb hne e => hne (plc_inj (hlt a ha) (hlt b hb) e)) hn
  · unfold List.Nodup
    rw [List.pairwise_map]
    refine List.Pairwise.imp (fun {a b} hne e => hne (by omega)) (List.nodup_range (n := p2 m - m))
  · intro a ha b hb e
    obtain ⟨s, hs, rfl⟩ := List.mem_map.1 ha
    obtain ⟨c, hc, rfl⟩ := List.mem_map.1 hb
    have := List.mem_range.1 hc
    have hs2 := hlt s hs
    unfold plc at e
    split at e <;> omega
theorem mem_lostI {k m : Nat} {mis : List Nat} {x : Int} : x ∈ lostI k m mis ↔ ∃ q ∈ lostN k m mis, (q : Int) = x := by
  unfold lostI
  rw [List.mem_mergeSort, List.mem_map]
  rfl
theorem lostI_nodup {k m : Nat} {mis : List Nat} (hr : Ris mis) (hlt : ∀ s ∈ mis, s < k + m) : (lostI k m mis).Nodup := by
  unfold lostI
  refine (List.mergeSort_perm _ _).nodup_iff.2 ?_
  have h := lostN_nodup hr hlt
  unfold List.Nodup at h ⊢
  rw [List.pairwise_map]
  refine List.Pairwise.imp (fun {a b} hne e => hne ?_) h
  have e : (a : Int) = (b : Int) := e
  omega
theorem lostI_ok {k m r : Nat} {mis : List Nat} (hr : Ris mis) (hlt : ∀ s ∈ mis, s < k + m) (hN : p2 m + k ≤ 2 ^ r) : okAll (lostI k m mis) (2 ^ r) := by
  intro i hi
  have hmem : ∀ j, j < (lostI k m mis).length → ∃ q ∈ lostN k m mis, (q : Int) = ga (lostI k m mis) j := fun j hj => mem_lostI.1 (by rw [ga_get _ _ hj]; exact List.getElem_mem hj)
  have hq : ∀ q ∈ lostN k m mis, q < 2 ^ r := fun q hq => by
    rcases mem_lostN.1 hq with ⟨s, hs, rfl⟩ | ⟨_, h⟩
    · exact plc_lt (hlt s hs) hN
    · omega
  obtain ⟨q, hq1, hq2⟩ := hmem i hi
  have := hq q hq1
  refine ⟨by omega, by omega, fun h0 => ?_⟩
  have hp := List.pairwise_mergeSort (le := fun x y : Int => decide (x ≤ y)) (fun a b c h1 h2 => by simp at h1 h2 ⊢; omega) (fun a b => by simp; omega) ((lostN k m mis).map Int.ofNat)
  have hp : (lostI k m mis).Pairwise (fun a b => decide (a ≤ b) = true) := hp
  rw [List.pairwise_iff_getElem] at hp
  have h1 := hp (i - 1) i (by omega) hi (by omega)
  have hd := lostI_nodup hr hlt
  unfold List.Nodup at hd
  rw [List.pairwise_iff_getElem] at hd
  have h2 := hd (i - 1) i (by omega) hi (by omega)
  rw [ga_get _ _ hi, ga_get _ _ (show i - 1 < _ by omega)]
  simp at h1
  omega
theorem lw_snoc (a : List Nat) (b i : Nat) : lw (a ++ [b]) i = lw a i * (if b = i then 1 else gw i + gw b) := by
  induction a with
  | nil => rw [List.nil_append, lw]; exact GF.mul_comm _ _
  | cons c a ih => rw [List.cons_append, lw, ih, lw, GF.mul_assoc]
theorem wantTo_lw {l : List Int} {r : Nat} (h : okAll l (2 ^ r)) (hr : r ≤ 16) (i : Nat) (hi : i < 2 ^ r) : ∀ k, k ≤ l.length → gf (wantTo l i k) = lw ((l.take k).map Int.toNat) i := by
  have hN : 2 ^ r ≤ 2 ^ 16 := Nat.pow_le_pow_right (by omega) hr
  intro k
  induction k with
  | zero => intro _; rfl
  | succ k ih =>
    intro hk
    have hok := h k (by omega)
    have h1 := hok.1
    have h2 := hok.2.1
    rw [List.take_add_one, List.getElem?_eq_getElem (show k < l.length by omega), List.map_append, ← ga_get l k (by omega)]
    show gf (if ga l k = (i : Int) then _ else _) = lw (_ ++ [(ga l k).toNat]) i
    rw [lw_snoc, ← ih (by omega)]
    by_cases e : ga l k = (i : Int)
    · rw [if_pos e, if_pos (by omega), GF.mul_one]
    · rw [if_neg e, if_neg (by omega), tmul_eq (wantTo_lt _ _ _) (xor_lt16 (el_lt _) (el_lt _)), gf_mul (wantTo_lt _ _ _) (xor_lt16 (el_lt _) (el_lt _)), gf_xor (el_lt _) (el_lt _), gf_el, gf_el]
/-- The locator's logarithms. -/
def lgOf (k m r : Nat) (mis : List Nat) : List Nat := convd r (marks (lostI k m mis) (2 ^ r)) (logList r)
theorem lgOf_length (k m r : Nat) (mis : List Nat) : (lgOf k m r mis).length = 2 ^ r := by
  unfold lgOf; rw [convd_length]; exact marksTo_length _ _ _
theorem lgOf_lt (k m r : Nat) (mis : List Nat) (q : Nat) : gn (lgOf k m r mis) q < 65536 := by
  have := convd_small r (marks (lostI k m mis) (2 ^ r)) (logList r) q
  unfold lgOf; omega
/-- The lost places, in their order. -/
def lostP (k m : Nat) (mis : List Nat) : List Nat := (lostI k m mis).map Int.toNat
theorem lostP_lo {k m : Nat} {mis : List Nat} (hr : Ris mis) (hlt : ∀ s ∈ mis, s < k + m) : Lo k m mis (lostP k m mis) := by
  have hpos : ∀ x ∈ lostI k m mis, 0 ≤ x := fun x hx => by
    obtain ⟨q, _, rfl⟩ := mem_lostI.1 hx; omega
  refine ⟨fun q => ?_, ?_, ?_⟩
  · rw [← mem_lostN]
    unfold lostP
    rw [List.mem_map]
    constructor
    · rintro ⟨x, hx, rfl⟩
      obtain ⟨q, hq, rfl⟩ := mem_lostI.1 hx
      simpa using hq
    · intro hq
      exact ⟨(q : Int), mem_lostI.2 ⟨q, hq, rfl⟩, by simp⟩
  · have hd := lostI_nodup hr hlt
    unfold lostP
    unfold List.Nodup at hd ⊢
    rw [List.pairwise_map]
    refine List.Pairwise.imp_of_mem (fun {a b} ha hb hne e => hne ?_) hd
    have := hpos a ha
    have := hpos b hb
    omega
  · unfold lostP; rw [List.length_map, lostI_length]
theorem lgOf_lw {k m r : Nat} {mis : List Nat} (hr16 : r ≤ 16) (hr : Ris mis) (hlt : ∀ s ∈ mis, s < k + m) (hN : p2 m + k ≤ 2 ^ r) (q : Nat) (hq : q < 2 ^ r) : lge (lgOf k m r mis) q = lw (lostP k m mis) q := by
  have hok := lostI_ok (r := r) hr hlt hN
  unfold lge lgOf
  rw [loc_value hr16 hok q hq, ← want_value hr16 hok q hq _ (Nat.le_refl _), wantTo_lw hok hr16 q hq _ (Nat.le_refl _), List.take_length]
  rfl
end Go.Proofs.YtpnmmedjamkmeaaGreat

/-
  DERIVED: THE SHELF's CONTRACTS AT THIS DUMP, IN PLAIN WORDS (tools/lay-plain.mjs out of 'TryzShelf.lean', which tools/lay-shelf.mjs wrote): THE SAME DECLARATIONS UNDER THE SAME NAMES: 'import', 'namespace', 'open', 'def', 'theorem' AND NOTHING ELSE: no command of the shelf's: FOR A HAND-IN. Each laying: the table of numbers ('.._ren') and one theorem, a field a fact of the dump's own or the kernel's comparison; each contract: ONE APPLICATION.
-/
set_option linter.unusedVariables false
set_option linter.unusedSimpArgs false
namespace Go.Proofs
open Go.Shelf
def Tryz.lays189_ren : Go.Shelf.Ren := ⟨fun | 189 => 132 | 125 => 115 | 257 => 152 | 128 => 140 | 129 => 141 | 294 => 159 | 295 => 160 | 296 => 161 | 297 => 162 | 298 => 163 | 299 => 164 | 216 => 122 | 300 => 165 | 301 => 166 | 328 => 171 | 329 => 172 | 330 => 173 | 331 => 174 | 332 => 175 | 215 => 145 | 343 => 177 | n => n, fun | 28 => 23 | 3 => 3 | 46 => 120 | 0 => 0 | 51 => 121 | 53 => 179 | 4 => 4 | 183 => 193 | 182 => 192 | 131 => 144 | 5 => 5 | 9 => 9 | 218 => 203 | 222 => 207 | 228 => 209 | 229 => 89 | n => n, fun | n => n⟩
theorem Tryz.lays189 : Go.Proofs.Lays.n189 Tryz.prog Tryz.lays189_ren := {
  mixed := by kernel_rfl
  f125 := Tryz.func115.trans (congrArg some (by kernel_rfl))
  f128 := Tryz.func140.trans (congrArg some (by kernel_rfl))
  f129 := Tryz.func141.trans (congrArg some (by kernel_rfl))
  f189 := Tryz.func132.trans (congrArg some (by kernel_rfl))
  f215 := Tryz.func145.trans (congrArg some (by kernel_rfl))
  f216 := Tryz.func122.trans (congrArg some (by kernel_rfl))
  f257 := Tryz.func152.trans (congrArg some (by kernel_rfl))
  f294 := Tryz.func159.trans (congrArg some (by kernel_rfl))
  f295 := Tryz.func160.trans (congrArg some (by kernel_rfl))
  f296 := Tryz.func161.trans (congrArg some (by kernel_rfl))
  f297 := Tryz.func162.trans (congrArg some (by kernel_rfl))
  f298 := Tryz.func163.trans (congrArg some (by kernel_rfl))
  f299 := Tryz.func164.trans (congrArg some (by kernel_rfl))
  f300 := Tryz.func165.trans (congrArg some (by kernel_rfl))
  f301 := Tryz.func166.trans (congrArg some (by kernel_rfl))
  f328 := Tryz.func171.trans (congrArg some (by kernel_rfl))
  f329 := Tryz.func172.trans (congrArg some (by kernel_rfl))
  f330 := Tryz.func173.trans (congrArg some (by kernel_rfl))
  f331 := Tryz.func174.trans (congrArg some (by kernel_rfl))
  f332 := Tryz.func175.trans (congrArg some (by kernel_rfl))
  f343 := Tryz.func177.trans (congrArg some (by kernel_rfl))
  t0 := Tryz.underlying0
  a0 := Tryz.isAgg0
  z0 := Tryz.sizeOf0
  v0 := Tryz.zeroValue0
  t3 := Tryz.underlying3
  a3 := Tryz.isAgg3
  z3 := Tryz.sizeOf3
  v3 := Tryz.zeroValue3
  t4 := Tryz.underlying4
  a4 := Tryz.isAgg4
  z4 := Tryz.sizeOf4
  v4 := Tryz.zeroValue4
  t5 := Tryz.underlying5
  a5 := Tryz.isAgg5
  z5 := Tryz.sizeOf5
  v5 := Tryz.zeroValue5
  t9 := Tryz.underlying9
  a9 := Tryz.isAgg9
  z9 := Tryz.sizeOf9
  v9 := Tryz.zeroValue9
  t28 := Tryz.underlying23
  a28 := Tryz.isAgg23
  z28 := Tryz.sizeOf23
  v28 := Tryz.zeroValue23
  t46 := Tryz.underlying120
  a46 := Tryz.isAgg120
  z46 := Tryz.sizeOf120
  v46 := Tryz.zeroValue120
  t51 := Tryz.underlying121
  a51 := Tryz.isAgg121
  z51 := Tryz.sizeOf121
  v51 := Tryz.zeroValue121
  t53 := Tryz.underlying179
  a53 := Tryz.isAgg179
  z53 := Tryz.sizeOf179
  v53 := Tryz.zeroValue179
  t131 := Tryz.underlying144
  a131 := Tryz.isAgg144
  z131 := Tryz.sizeOf144
  v131 := Tryz.zeroValue144
  t182 := Tryz.underlying192
  a182 := Tryz.isAgg192
  z182 := Tryz.sizeOf192
  v182 := Tryz.zeroValue192
  t183 := Tryz.underlying193
  a183 := Tryz.isAgg193
  z183 := Tryz.sizeOf193
  v183 := Tryz.zeroValue193
  t218 := Tryz.underlying203
  a218 := Tryz.isAgg203
  z218 := Tryz.sizeOf203
  v218 := Tryz.zeroValue203
  t222 := Tryz.underlying207
  a222 := Tryz.isAgg207
  z222 := Tryz.sizeOf207
  v222 := Tryz.zeroValue207
  t228 := Tryz.underlying209
  a228 := Tryz.isAgg209
  z228 := Tryz.sizeOf209
  v228 := Tryz.zeroValue209
  t229 := Tryz.underlying89
  a229 := Tryz.isAgg89
  z229 := Tryz.sizeOf89
  v229 := Tryz.zeroValue89 }
open Go.Sort Go.RowKit in
theorem Tryz.slices_Sort_int (blk off cap : Nat) (zs : List Int) (w : World) (hH : Holds (Value.int .i64) w blk off zs.toArray) (hblk : blk < w.heap.size) (hsz : zs.length < 4611686018427387904) :
    Calls Tryz.prog 132 #[.slice (some ⟨blk, off, none⟩) zs.length cap] w fun e w' =>
      e = .returned (.tuple #[]) ∧ ∃ n os, w' = grow (putRow (Value.int .i64) (Sort.ahead w n) blk off (zs.mergeSort fun x y => decide (x ≤ y)).toArray) os := Any.slices_Sort_int Tryz.lays189 blk off cap zs w hH hblk hsz
end Go.Proofs

/- TwoL lists that grow by appends, side by side. -/
set_option linter.unusedSimpArgs false
set_option linter.unusedVariables false
set_option linter.unusedSimpArgs false
namespace Go.Proofs.YtpnmmedjamkmeaaGreat
open Go.RowKit

/-- append in general: the block is the slice's own or a new one. -/
theorem wpList_appG {P : Program} {w : World} {ops : Array Oper} {tl : List Oper} {a : Act} {Q : Exit → Act → World → Prop} {s x : Operand} {t ty : TypeId} {d : Tmp} {pos : String} {after : Array Edge}
    {base : Nat} {e : TypeId} {v : Value} {n : Nat} {xs : List Value} (hown : w.ownsRow base e 1 v n xs) (ad : Addr) (ys : List Value) (hys : ∀ j u, ys[j]? = some u → w.cell? (ad.add j) = some u)
    (z : Value) (m c by_ : Nat) (he : a.eval s = v ∧ a.eval x = .slice (some ad) m c) (hm : ys.length = m) (hm1 : 0 < m)
    (ht : P.underlying t = some (.slice e)) (hi : (P.info? e).map (fun i => (i.zero, i.size, i.bytes)) = some (some z, 1, by_)) (hz : z.cells.size = 1) (h1 : ∀ u ∈ ys, u.oneCell' = true)
    (h63 : n + m ≤ maxLen) (hbytes : (n + m) * by_ ≤ 140737488355328) (hbase : base ≤ w.heap.size)
    (hK : ∀ g rest W, Own W e g (xs ++ ys) rest → n + m + rest.length ≤ maxLen → base ≤ g → (v.ownBlock = some g ∨ w.heap.size ≤ g) → Chg (fun i => v.ownBlock = some i) w W → wpList P ops Q tl (a.put (some d) (.slice (some ⟨g, 0, none⟩) (n + m) (n + m + rest.length))) W) :
    wpList P ops Q ({ dst := some d, op := .call { callee := .builtin .append, args := #[s, x], argTypes := #[t, t] }, type := ty, pos := pos, after := after, guard := none } :: tl) a w := by
  obtain ⟨i, hi', hz0, hs, hb⟩ : ∃ i, P.info? e = some i ∧ i.zero = some z ∧ i.size = 1 ∧ i.bytes = by_ := by
    cases hx : P.info? e with
    | none => simp [hx] at hi
    | some i => simp [hx] at hi; exact ⟨i, rfl, hi.1, hi.2.1, hi.2.2⟩
  have fresh : ∀ v' W, W.ownsRow w.heap.size e 1 v' (n + m) (xs ++ ys) → w.grownBy W none → wpList P ops Q tl (a.put (some d) v') W := by
    intro v' W h2 h3
    rcases own_of_ownsRow h2 with ⟨_, h0, _⟩ | ⟨g, cap, rest, rfl, hg, hO, hl, hc, hmx⟩
    · omega
    · have h := hK g rest W hO (by omega) (by omega) (.inr hg) ((Chg.refl _ w).grown h3 (fun k hk => by cases hk))
      rw [hc] at h
      exact h
  rcases own_of_ownsRow hown with ⟨rfl, rfl, rfl⟩ | ⟨g, cap, rest, rfl, hg, hO, hl, hc, hmx⟩
  · exact wpList_append_grows w rfl s x t rfl e i z 1 by_ ht hi' hz0 hs hb hz (by omega) none 0 0 [] he.1 (fun _ => ⟨rfl, rfl⟩) rfl (fun b h => by cases h) ad m c ys he.2 (by omega) hys h1 (by omega) h63 hbytes fresh
  · by_cases hr : m ≤ rest.length
    · refine wpList_appRoom hO ad ys hys n cap m c he hl hm hc.symm hr ht (by rw [hi']; simp [hs]) h1 fun W hOW hCW => ?_
      have h := hK g (rest.drop m) W hOW (by rw [List.length_drop]; omega) hg (.inl rfl) (hCW.mono fun i _ e => by
        show some g = some i
        rw [show i = g from e])
      rw [List.length_drop, show n + m + (rest.length - m) = cap from by omega] at h
      exact h
    · exact wpList_append_grows w rfl s x t rfl e i z 1 by_ ht hi' hz0 hs hb hz (by omega) (some ⟨g, 0, none⟩) n cap xs he.1 (fun h => by cases h) (by omega) (fun b h j u hj => by
        cases h; exact hO.addCell j u hj) ad m c ys he.2 (by omega) hys h1 (by omega) h63 hbytes fresh

/-- TwoL slices that the code has made since base, in blocks of their own. -/
structure TwoL (w : World) (e : TypeId) (base : Nat) (v1 v2 : Value) (n1 n2 : Nat) (l1 l2 : List Value) : Prop where
  o1 : w.ownsRow base e 1 v1 n1 l1
  o2 : w.ownsRow base e 1 v2 n2 l2
  ap : ∀ g, v1.ownBlock = some g → v2.ownBlock ≠ some g
section
variable {w W : World} {e : TypeId} {base : Nat} {v1 v2 : Value} {n1 n2 : Nat} {l1 l2 : List Value}
theorem ownsRow_kept {S : Nat → Prop} {v : Value} {n : Nat} {l : List Value} (h : w.ownsRow base e 1 v n l) (hc : Chg S w W) (hs : ∀ g, v.ownBlock = some g → ¬ S g) : W.ownsRow base e 1 v n l := by
  rcases own_of_ownsRow h with ⟨rfl, rfl, rfl⟩ | ⟨g, cap, rest, rfl, hg, hO, hl, hcp, hmx⟩
  · exact ⟨rfl, .inl ⟨rfl, rfl⟩⟩
  · exact ownsRow_of_own (hO.kept hc (hs g rfl)) hg hl hcp hmx
theorem TwoL.keptNo (h : TwoL w e base v1 v2 n1 n2 l1 l2) (hc : Chg No w W) : TwoL W e base v1 v2 n1 n2 l1 l2 :=
  ⟨ownsRow_kept h.o1 hc fun _ _ => id, ownsRow_kept h.o2 hc fun _ _ => id, h.ap⟩
theorem TwoL.nils (w : World) (e : TypeId) : TwoL w e w.heap.size (.slice none 0 0) (.slice none 0 0) 0 0 [] [] := ⟨⟨rfl, .inl ⟨rfl, rfl⟩⟩, ⟨rfl, .inl ⟨rfl, rfl⟩⟩, fun g h => by simp [Value.ownBlock] at h⟩
theorem ownsRow_lt {v : Value} {n : Nat} {l : List Value} (h : w.ownsRow base e 1 v n l) {g : Nat} (hg : v.ownBlock = some g) : base ≤ g ∧ g < w.heap.size := by
  rcases own_of_ownsRow h with ⟨rfl, rfl, rfl⟩ | ⟨g', cap, rest, rfl, hb, hO, hl, hcp, hmx⟩
  · simp [Value.ownBlock] at hg
  · simp only [Value.ownBlock, Option.some.injEq] at hg
    subst hg; exact ⟨hb, hO.lt⟩
/-- The first has grown. -/
theorem TwoL.grow1 (h : TwoL w e base v1 v2 n1 n2 l1 l2) {g n : Nat} {ys rest : List Value} (hn : (l1 ++ ys).length = n) (hO : Own W e g (l1 ++ ys) rest) (hm : n + rest.length ≤ maxLen) (hb : base ≤ g)
    (hg : v1.ownBlock = some g ∨ w.heap.size ≤ g) (hc : Chg (fun i => v1.ownBlock = some i) w W) : TwoL W e base (.slice (some ⟨g, 0, none⟩) n (n + rest.length)) v2 n n2 (l1 ++ ys) l2 :=
  ⟨ownsRow_of_own hO hb hn rfl hm, ownsRow_kept h.o2 hc (fun i hi hs => h.ap i hs hi), fun i hi hi2 => by
    simp only [Value.ownBlock, Option.some.injEq] at hi
    subst hi
    rcases hg with hg | hg
    · exact h.ap _ hg hi2
    · have := (ownsRow_lt h.o2 hi2).2; omega⟩
/-- The second has grown. -/
theorem TwoL.grow2 (h : TwoL w e base v1 v2 n1 n2 l1 l2) {g n : Nat} {ys rest : List Value} (hn : (l2 ++ ys).length = n) (hO : Own W e g (l2 ++ ys) rest) (hm : n + rest.length ≤ maxLen) (hb : base ≤ g)
    (hg : v2.ownBlock = some g ∨ w.heap.size ≤ g) (hc : Chg (fun i => v2.ownBlock = some i) w W) : TwoL W e base v1 (.slice (some ⟨g, 0, none⟩) n (n + rest.length)) n1 n l1 (l2 ++ ys) :=
  ⟨ownsRow_kept h.o1 hc (fun i hi hs => h.ap i hi hs), ownsRow_of_own hO hb hn rfl hm, fun i hi hi2 => by
    simp only [Value.ownBlock, Option.some.injEq] at hi2
    subst hi2
    rcases hg with hg | hg
    · exact h.ap _ hi hg
    · have := (ownsRow_lt h.o1 hi).2; omega⟩
/-- What has changed since base. -/
theorem Chg.own1 {w0 : World} (hc : Chg No w0 w) {v : Value} {n : Nat} {l : List Value} (h : w.ownsRow base e 1 v n l) (hb : w0.heap.size ≤ base) (k : Chg (fun i => v.ownBlock = some i) w W) : Chg No w0 W :=
  hc.trans' k fun i hi hs => by have := (ownsRow_lt h hs).1; omega
end
end Go.Proofs.YtpnmmedjamkmeaaGreat

/- Walks: walsh.Locator and Products; the law's own comparison; the transform of four numbers. -/
set_option linter.unusedVariables false
set_option linter.unusedSimpArgs false
namespace Go.Proofs.YtpnmmedjamkmeaaGreat
open Go.RowKit

set_option maxRecDepth 10000 in
theorem Locator_range (p : Option Addr) (n c : Nat) (r : Int) (w : World) (hr : r < 0 ∨ 16 < r) :
    Calls Tryz.prog 106 #[.slice p n c, .int .i64 r] w fun e w' => e = .returned (.tuple #[.slice none 0 0, .int .i64 7]) ∧ Chg No w w' := by
  go_enter Tryz.func106, Tryz.ntmps106
  go_wp2_with fail
  refine (New_calls _).mono ?_
  rintro e w1 ⟨rfl, hT, hC⟩
  go_wp2_with fail
  refine (locator_range _ _ _ _ _ _ hr).mono ?_
  rintro e w2 ⟨rfl, hC2⟩
  go_wp2_with fail
  go_ret2
  exact ⟨rfl, hC.trans hC2⟩

set_option maxRecDepth 10000 in
theorem Locator_calls (r c : Nat) (p : Option Addr) (l : List Int) (w : World) (hr : r ≤ 16) (hl : Rd w .i64 p l) (hm : l.length ≤ maxLen) :
    Calls Tryz.prog 106 #[.slice p l.length c, .int .i64 (r : Int)] w (LocPost r l w) := by
  have H := hid (fun b w hT hl => locator_calls b r c p l w hT hr hl hm)
  have HL := hid hl
  clear hl
  go_enter Tryz.func106, Tryz.ntmps106
  go_wp2_with fail
  refine (New_calls _).mono ?_
  rintro e w1 ⟨rfl, hT, hC⟩
  have HT := hid hT
  clear hT
  go_wp2_with fail
  refine (H.out w.heap.size w1 HT.out (HL.out.keptNo hC)).mono ?_
  rintro e w2 hP
  rcases hP with ⟨hg, g, rfl, hO, hge, hC2⟩ | ⟨hb, rfl, hC2⟩
  · have HO := hid hO
    have HG := hid hg
    clear hO hg
    go_wp2_with fail
    go_ret2
    exact .inl ⟨HG.out, g, rfl, HO.out, Nat.le_trans hC.size hge, hC.trans hC2⟩
  · have HB := hid hb
    clear hb
    go_wp2_with fail
    go_ret2
    exact .inr ⟨HB.out, rfl, hC.trans hC2⟩

/-- What walsh.Products comes to. -/
def ProdPost (r : Nat) (l : List Int) (w : World) (e : Ending) (w' : World) : Prop :=
  (okAll l (2 ^ r) ∧ ∃ g, e = .returned (.tuple #[.slice (some ⟨g, 0, none⟩) (2 ^ r) (2 ^ r), .int .i64 0]) ∧ Own w' 88 g (nv .u16 ((convd r (marks l (2 ^ r)) (logList r)).map ex)) [] ∧ w.heap.size ≤ g ∧ Chg No w w') ∨
  (¬ okAll l (2 ^ r) ∧ e = .returned (.tuple #[.slice none 0 0, .int .i64 31]) ∧ Chg No w w')

end Go.Proofs.YtpnmmedjamkmeaaGreat

/- Walks: the lost places in order, the locator's logarithms. -/
set_option linter.unusedSimpArgs false
set_option linter.unusedVariables false
set_option linter.unusedSimpArgs false
namespace Go.Proofs.YtpnmmedjamkmeaaGreat
open Go.RowKit

theorem sort_calls (g cap : Nat) (zs : List Int) (rest : List Value) (w : World) (hO : Own w 3 g (iv .i64 zs) rest) (hc : zs.length + rest.length = cap) (hm : cap ≤ maxLen) (hz : zs.length ≤ 1048576) :
    Calls Tryz.prog 132 #[.slice (some ⟨g, 0, none⟩) zs.length cap] w fun e w' => e = .returned (.tuple #[]) ∧ (∃ rest', rest'.length = rest.length ∧ Own w' 3 g (iv .i64 (zs.mergeSort fun x y => decide (x ≤ y))) rest') ∧ Chg (Only g) w w' := by
  have hb : w.heap[g]? = some (.cells (iv .i64 zs ++ rest).toArray 3 (0, 0)) := hO
  have ht : ((iv .i64 zs ++ rest).toArray).toList.take zs.length = zs.map (Value.int .i64) := by
    rw [List.take_left' (by simp)]; rfl
  refine (Tryz.slices_Sort_int g 0 cap zs w (holds_of_blockI hb ht) hO.lt (by omega)).mono ?_
  rintro e w' ⟨rfl, n, os, rfl⟩
  refine ⟨rfl, ?_, ?_⟩
  · have hr := ownsRow_sortedI (n := n) (os := os) (base := g) (cap := cap) (ss := zs) (ts := zs.mergeSort fun x y => decide (x ≤ y)) (by simp) (Nat.le_refl _) hb (by omega) hm (by simp; omega)
    rcases own_of_ownsRow hr with ⟨h0, _, _⟩ | ⟨g', cap', rest', hv, _, hO', hl, hc', _⟩
    · cases h0
    · injection hv with h1 h2 h3
      have hg : g = g' := by simpa using h1
      subst hg
      exact ⟨rest', by omega, hO'⟩
  · exact (Chg.refl (Only g) w).grown (grownBy_sortedI _) (fun k hk => .inl (by
      simp only [Option.some.injEq] at hk; exact hk.symm))

def LostPost (k m : Nat) (mis : List Nat) (w : World) (e : Ending) (w' : World) : Prop :=
  ∃ g cap rest, e = .returned (.slice (some ⟨g, 0, none⟩) (lostI k m mis).length cap) ∧ Own w' 3 g (iv .i64 (lostI k m mis)) rest ∧ Chg No w w'
set_option maxRecDepth 20000 in
set_option maxHeartbeats 1600000 in
theorem lost_calls (fast : Bool) (C k m r W T K n c : Nat) (p : Option Addr) (mis : List Nat) (w : World) (hc : Cd w fast C k m r W T K) (hl : Rn w .i64 p mis) (hn : mis.length = n) (h1 : 1 ≤ n + (p2 m - m)) (hm : n ≤ 131072) (hlt : ∀ s ∈ mis, s < k + m) :
    Calls Tryz.prog 107 #[.pointer (some ⟨C, 0, none⟩), .slice p n c] w (LostPost k m mis w) := by
  have HC := hid hc
  have HL := hid hl
  have HN := hid hn
  have HPC := hid (fun s (h : s < k + m) w hc => place_calls fast C k m r W T K s w hc h)
  obtain ⟨hk1, hm1, hk2, hm2, hk3⟩ := hc.prm
  rw [Int.toNat_natCast] at hk3
  have hmp := le_p2 m
  have HLT := hid hlt
  have HSO := hid (fun g cap zs rest w h1 h2 h3 h4 => sort_calls g cap zs rest w h1 h2 h3 h4)
  have HOW : Hid (w.ownsRow w.heap.size 3 1 (.slice none 0 0) 0 (nv .i64 [])) := hid ⟨rfl, .inl ⟨rfl, rfl⟩⟩
  clear hc hl hn hlt
  go_enter Tryz.func107, Tryz.ntmps107
  go_wp2_with fail
  go_loopw [5, 11] (fun v i wr => ∃ j : Nat, j ≤ n ∧ i = .int .i64 (j : Int) ∧ wr.ownsRow w.heap.size 3 1 v j (nv .i64 ((mis.take j).map (plc k m))) ∧ Chg No w wr) (fun _ i _ => n - (intOf i).toNat)
  case atStart => exact ⟨0, by omega, rfl, HOW.out, Chg.refl _ _⟩
  case round =>
    clear HOW
    obtain ⟨j, hj, rfl, hO, hC⟩ := hrel
    obtain ⟨w1, rfl⟩ : ∃ w1 : World, w1 = wr := ⟨_, rfl⟩
    have HO := hid hO
    have HCW := hid hC
    clear hO hC
    by_cases hlt : j < n
    · as_aux_lemma =>
      obtain ⟨b, off, rfl, hc⟩ := (HL.out.keptNo HCW.out) j (by rw [HN.out]; exact hlt)
      have hmem : gn mis j ∈ mis := mem_gn.2 ⟨j, by rw [HN.out]; exact hlt, rfl⟩
      have HTK : Hid ((mis.take (j + 1)).map (plc k m) = (mis.take j).map (plc k m) ++ [plc k m (gn mis j)]) := hid (by
        rw [List.take_add_one, List.getElem?_eq_getElem (by rw [HN.out]; exact hlt), List.map_append, gn_get _ _ (by rw [HN.out]; exact hlt)]; rfl)
      have HP := hid (HPC.out (gn mis j) (HLT.out _ hmem) w1 (HC.out.keptNo HCW.out))
      have HSZ := hid HCW.out.size
      clear hmem
      generalize gn mis j = s at *
      have hlt2 : (j : Int) < (n : Int) := by omega
      go_wp2_with fail
      refine HP.out.mono ?_
      rintro e w2 ⟨rfl, rfl⟩
      obtain ⟨pl, hpl⟩ : ∃ pl, pl = plc k m s := ⟨_, rfl⟩
      rw [← hpl] at HTK ⊢
      clear hpl HP
      go_wp2_with (at_builtin; (with_reducible refine wpList_appG (ownsRow_kept HO.out ((Chg.refl No w2).alloc (.cells #[.int .i64 (pl : Int)] 3)) (fun _ _ => id)) ⟨w2.heap.size, 0, none⟩ [.int .i64 (pl : Int)] ?_ (.int .i64 0) 1 1 8 ?_ ?_ ?_ ?_ ?_ ?_ ?_ ?_ ?_ ?_ ?_); exact (Own.lit1 w2 3 _).addCell; exact ⟨rfl, rfl⟩; rfl; exact Nat.one_pos; exact Tryz.underlying23; kernel_rfl; rfl; (intro u hu; simp at hu; subst hu; rfl); (unfold maxLen; omega); omega; (have := HSZ.out; simp; omega); intro g1 r1 w3 hO3 hm3 hb3 hg3 hc3)
      have hC3 : Chg No w w3 := Chg.own1 (HCW.out.alloc _) (ownsRow_kept HO.out ((Chg.refl No w2).alloc (.cells #[.int .i64 (pl : Int)] 3)) (fun _ _ => id)) (Nat.le_refl _) hc3
      have hO4 : w3.ownsRow w.heap.size 3 1 (.slice (some ⟨g1, 0, none⟩) (j + 1) (j + 1 + r1.length)) (j + 1) (nv .i64 ((mis.take (j + 1)).map (plc k m))) := by
        rw [HTK.out, show nv .i64 ((mis.take j).map (plc k m) ++ [pl]) = nv .i64 ((mis.take j).map (plc k m)) ++ [.int .i64 (pl : Int)] from by simp [nv]]
        exact ownsRow_of_own hO3 hb3 (by simp [HN.out] <;> omega) rfl hm3
      have HO4 := hid hO4
      have HC3 := hid hC3
      clear hO3 hm3 hb3 hg3 hc3 hC3 hO4
      go_wp2_with fail
      go_roundw
      case rel => exact ⟨j + 1, by omega, by go_num, HO4.out, HC3.out⟩
      case measure => simp [intOf]; omega
    · have hjn : j = n := by omega
      have hO := HO.out
      rw [hjn, ← HN.out, List.take_length] at hO
      have c1 := (HC.out.keptNo HCW.out).c1
      have HOn := hid hO
      have hlt2 : ¬ ((j : Int) < (n : Int)) := by omega
      clear hO HO
      have c2 := (HC.out.keptNo HCW.out).c2
      obtain ⟨P, hP⟩ : ∃ P, P = p2 m := ⟨_, rfl⟩
      rw [← hP] at c2 hmp hk3
      have HPP := hid hP
      have hP16 : P ≤ 65536 := by omega
      have hm16 : (m : Int) ≤ 65536 := hm2
      clear hP
      go_wp2_with fail
      go_loopw [5, 8] (fun v i wr => ∃ z : Nat, m + z ≤ P ∧ i = .int .i64 ((m + z : Nat) : Int) ∧ wr.ownsRow w.heap.size 3 1 v (n + z) (nv .i64 (mis.map (plc k m) ++ (List.range z).map (m + ·))) ∧ Chg No w wr) (fun _ i _ => P - (intOf i).toNat)
      case atStart => exact ⟨0, by omega, by go_num, by have h := HOn.out; rw [HN.out] at h; simpa using h, HCW.out⟩
      case round =>
        clear HOn c1 c2
        obtain ⟨z, hz, rfl, hO, hC⟩ := hrel
        obtain ⟨w3, rfl⟩ : ∃ w3 : World, w3 = wr := ⟨_, rfl⟩
        have HO := hid hO
        have HCX := hid hC
        have c2 := (HC.out.keptNo hC).c2
        rw [← HPP.out] at c2
        clear hO hC HCW
        obtain ⟨mz, hmz⟩ : ∃ mz, mz = m + z := ⟨_, rfl⟩
        rw [← hmz] at hz ⊢
        have HMZ := hid hmz
        have hmzm : m ≤ mz := by omega
        clear hmz
        by_cases hlt3 : mz < P
        · as_aux_lemma =>
          have hlt4 : (mz : Int) < (P : Int) := by omega
          have HTK : Hid (mis.map (plc k m) ++ (List.range (z + 1)).map (m + ·) = (mis.map (plc k m) ++ (List.range z).map (m + ·)) ++ [mz]) := hid (by
            rw [List.range_succ, List.map_append, List.append_assoc, HMZ.out]; rfl)
          have HSZ := hid HCX.out.size
          have hzz : z ≤ 65536 := by have := HMZ.out; omega
          go_wp2_with (at_builtin; (with_reducible refine wpList_appG (ownsRow_kept HO.out ((Chg.refl No w3).alloc (.cells #[.int .i64 (mz : Int)] 3)) (fun _ _ => id)) ⟨w3.heap.size, 0, none⟩ [.int .i64 (mz : Int)] ?_ (.int .i64 0) 1 1 8 ?_ ?_ ?_ ?_ ?_ ?_ ?_ ?_ ?_ ?_ ?_); exact (Own.lit1 w3 3 _).addCell; exact ⟨rfl, rfl⟩; rfl; exact Nat.one_pos; exact Tryz.underlying23; kernel_rfl; rfl; (intro u hu; simp at hu; subst hu; rfl); (unfold maxLen; omega); omega; (have := HSZ.out; simp; omega); intro g1 r1 w4 hO3 hm3 hb3 hg3 hc3)
          have hC3 : Chg No w w4 := Chg.own1 (HCX.out.alloc _) (ownsRow_kept HO.out ((Chg.refl No w3).alloc (.cells #[.int .i64 (mz : Int)] 3)) (fun _ _ => id)) (Nat.le_refl _) hc3
          have hO4 : w4.ownsRow w.heap.size 3 1 (.slice (some ⟨g1, 0, none⟩) (n + z + 1) (n + z + 1 + r1.length)) (n + (z + 1)) (nv .i64 (mis.map (plc k m) ++ (List.range (z + 1)).map (m + ·))) := by
            rw [HTK.out, show nv .i64 ((mis.map (plc k m) ++ (List.range z).map (m + ·)) ++ [mz]) = nv .i64 (mis.map (plc k m) ++ (List.range z).map (m + ·)) ++ [.int .i64 (mz : Int)] from by simp [nv]]
            exact ownsRow_of_own hO3 hb3 (by simp [HN.out] <;> omega) rfl hm3
          have HO4 := hid hO4
          have HC3 := hid hC3
          clear hO3 hm3 hb3 hg3 hc3 hC3 hO4
          go_wp2_with fail
          go_roundw
          case rel => exact ⟨z + 1, by have := HMZ.out; omega, congrArg (Value.int .i64) (by have := HMZ.out; omega), HO4.out, HC3.out⟩
          case measure => simp [intOf]; omega
        · as_aux_lemma =>
          have hlt4 : ¬ ((mz : Int) < (P : Int)) := by omega
          have hzP : z = p2 m - m := by have := HMZ.out; have := HPP.out; omega
          have hO := HO.out
          rw [hzP] at hO
          have hls : nv .i64 (mis.map (plc k m) ++ (List.range (p2 m - m)).map (m + ·)) = iv .i64 ((lostN k m mis).map Int.ofNat) := nv_iv _ _
          rw [hls] at hO
          rcases own_of_ownsRow hO with ⟨_, h0, _⟩ | ⟨g, cap, rest, hv, hg, hOg, hl, hcp, hmx⟩
          · omega
          have hlen : ((lostN k m mis).map Int.ofNat).length = n + (p2 m - m) := by rw [List.length_map, lostN_length, HN.out]
          have hsz : p2 m - m ≤ 65536 := by have := HPP.out; omega
          have hS := HSO.out g cap ((lostN k m mis).map Int.ofNat) rest w3 hOg (by rw [hlen]; exact hcp) hmx (by rw [hlen]; omega)
          rw [hlen] at hS
          have HS := hid hS
          have HLE : Hid ((lostI k m mis).length = n + (p2 m - m)) := hid (by rw [lostI_length, HN.out])
          subst hv
          have HG := hid hg
          obtain ⟨nn, hnn⟩ : ∃ nn, nn = n + (p2 m - m) := ⟨_, rfl⟩
          rw [← hnn] at HS HLE ⊢
          clear hO hls hOg hl hcp hmx hlen hS hg hzP HO hnn
          go_wp2_with fail
          refine HS.out.mono ?_
          rintro e w4 ⟨rfl, ⟨rest', _, hO4⟩, hC4⟩
          have hC5 : Chg No w w4 := HCX.out.trans' hC4 fun q hq e => by
            have e : q = g := e
            have := HG.out; omega
          have HO4 := hid hO4
          have HC5 := hid hC5
          clear hO4 hC4 hC5
          go_wp2_with fail
          go_ret
          exact ⟨g, cap, rest', by rw [HLE.out]; rfl, HO4.out, HC5.out⟩

def LogPost (k m r : Nat) (mis : List Nat) (w : World) (e : Ending) (w' : World) : Prop :=
  ∃ g, e = .returned (.slice (some ⟨g, 0, none⟩) (2 ^ r) (2 ^ r)) ∧ Own w' 88 g (nv .u16 (lgOf k m r mis)) [] ∧ w.heap.size ≤ g ∧ Chg No w w'
set_option maxRecDepth 20000 in
set_option maxHeartbeats 1600000 in
theorem logs_calls' (fast : Bool) (C k m r W T K n c : Nat) (p : Option Addr) (mis : List Nat) (w : World) (hc : Cd w fast C k m r W T K) (hl : Rn w .i64 p mis) (hn : mis.length = n) (h1 : 1 ≤ n + (p2 m - m)) (hm : n ≤ 131072) (hlt : ∀ s ∈ mis, s < k + m) (hr : Ris mis) :
    Calls Tryz.prog 68 #[.pointer (some ⟨C, 0, none⟩), .slice p n c] w (LogPost k m r mis w) := by
  have HC := hid hc
  have HL := hid hl
  have HLO := hid (fun w h1' h2 => lost_calls fast C k m r W T K n c p mis w h1' h2 hn h1 hm hlt)
  obtain ⟨hk1, hm1, hk2, hm2, hk3⟩ := hc.prm
  rw [Int.toNat_natCast] at hk3
  have hr' := hc.hr
  have hle := le_p2 (p2 m + k)
  have hR16 : r ≤ 16 := by rw [hr']; exact mu_le16 hk3
  have hle2 : p2 m + k ≤ 2 ^ r := by rw [hr']; exact hle
  have HOK := hid (lostI_ok (r := r) hr hlt hle2)
  have hll : (lostI k m mis).length ≤ 262144 := by rw [lostI_length, hn]; omega
  have HLC := hid (fun c p w h => Locator_calls r c p (lostI k m mis) w hR16 h (by unfold maxLen; omega))
  unfold LostPost at HLO
  unfold LocPost at HLC
  have c4 := hc.c4
  have hr0 : (0 : Int) ≤ (r : Int) := by omega
  have hr1 : (r : Int) ≤ 16 := by omega
  clear hc hl hlt hr hr' hle hle2 hll
  go_enter Tryz.func68, Tryz.ntmps68
  go_wp2_with fail
  go_region_held3 (fun w' => w'.cell? ⟨C, 4, none⟩ = some (.int .i64 (r : Int)))
    (first
      | exact c4
      | exact hC2.cell c4 id
      | exact hC3.cell (hC2.cell c4 id) id
      | go_keep)
    (first
      | (go_at_call 106; refine (HLC.out _ _ _ hO2.rd).mono ?_; rintro e w3 (⟨_, g3, rfl, hO3, hg3, hC3⟩ | ⟨hno, _, _⟩)
         rotate_left
         · exact absurd HOK.out hno)
      | (go_at_call 107; refine (HLO.out _ (HC.out.keptNo ((Chg.refl No w).drew)) (HL.out.keptNo ((Chg.refl No w).drew))).mono ?_; rintro e w2 ⟨g2, cap2, rest2, rfl, hO2, hC2⟩))
  have hC23 : Chg No w w3 := (((Chg.refl No w).drew).trans hC2).trans hC3
  have hw2 : w.heap.size ≤ w2.heap.size := (((Chg.refl No w).drew).trans hC2).size
  go_wp2_with fail
  go_ret
  exact ⟨g3, rfl, hO3, Nat.le_trans hw2 hg3, hC23⟩
end Go.Proofs.YtpnmmedjamkmeaaGreat
