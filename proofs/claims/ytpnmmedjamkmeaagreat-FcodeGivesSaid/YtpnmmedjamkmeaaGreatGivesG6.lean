/- The walk of gener.Words: a long code's factors. -/
import Derived.Test.YtpnmmedjamkmeaaGreatGivesG5
set_option linter.unusedVariables false
set_option linter.unusedSimpArgs false
namespace Go.Proofs.YtpnmmedjamkmeaaGreat
open Go.RowKit

/-- The factor of data shard i in parity shard j. -/
def fac (m j i : Nat) : Nat := gdiv (el ((p2 m + i) / p2 m)) (el j ^^^ el (p2 m + i))
theorem xor_ne_zero {a b : Nat} (h : a ≠ b) : a ^^^ b ≠ 0 := by
  intro e
  apply h
  have : a ^^^ b ^^^ b = b := by rw [e, Nat.zero_xor]
  rwa [Nat.xor_assoc, Nat.xor_self, Nat.xor_zero] at this
theorem el_ne {i j : Nat} (hi : i < 65536) (hj : j < 65536) (h : i ≠ j) : el i ^^^ el j ≠ 0 := xor_ne_zero fun e => h (el_inj hi hj e)
theorem fac_lt (m j i : Nat) : fac m j i < 65536 := gdiv_lt (el_lt _) _

set_option maxRecDepth 20000 in
set_option maxHeartbeats 1600000 in
theorem Words_few (k m j : Nat) (h : prm k m) (hj : j < m) (hk : k ≤ 256) (w : World) :
    Calls Tryz.prog 90 #[.int .i64 (k : Int), .int .i64 (m : Int), .int .i64 (j : Int)] w fun e w' => ∃ g, e = .returned (.tuple #[.slice (some ⟨g, 0, none⟩) k k, .int .i64 0]) ∧ Own w' 88 g (nv .u16 (fillTo (fac m j) k k)) [] ∧ w.heap.size ≤ g ∧ Chg No w w' := by
  obtain ⟨h1, h2, h3, h4, h5⟩ := h
  have hmu := mu_le16 (m := m) (by omega)
  have hmp := le_p2 m
  have hp1 := p2_pos m
  have HL := hid (fun w => Len_calls (m - 1) (by omega) w)
  have HLE : Hid ((m : Int) - 1 = ((m - 1 : Nat) : Int)) := hid (by show _ = _; omega)
  have HSH : Hid (wrap64 (2 ^ mu m) = ((p2 m : Nat) : Int)) := hid (by
    have := two_pow_int (mu m) hmu
    unfold p2; exact this)
  have HBL : Hid (blen (m - 1) = mu m) := hid rfl
  have HDV : Hid (∀ i : Nat, (((p2 m + i : Nat) : Int) / 2 ^ mu m) = (((p2 m + i) / p2 m : Nat) : Int)) := hid (fun i => by unfold p2; simp)
  have HJ := hid (Element_yes j (by omega))
  have HE := hid (fun i h w => Element_yes i h w)
  have HX := hid (fun a b => Go.u16_xor_nat a b)
  have HFA : Hid (∀ i, fac m j i = gdiv (el ((p2 m + i) / p2 m)) (el j ^^^ el (p2 m + i))) := hid (fun _ => rfl)
  rw [Int.toNat_natCast] at h5
  have HQ : Hid (∀ i, i < k → (p2 m + i) / p2 m < 65536) := hid (fun i hi => Nat.lt_of_le_of_lt (Nat.div_le_self _ _) (by omega))
  have HN : Hid (∀ i, i < k → el j ^^^ el (p2 m + i) ≠ 0) := hid (fun i hi => el_ne (by omega) (by omega) (by omega))
  have HXL : Hid (∀ i, el j ^^^ el (p2 m + i) < 65536) := hid (fun i => Nat.xor_lt_two_pow (n := 16) (el_lt _) (el_lt _))
  have HDIV := hid (fun a b ha hb h0 w => gDiv_calls a b ha hb h0 w)
  have d1 : decide ((k : Int) < 1) = false := by simp; omega
  have d2 : decide ((m : Int) < 1) = false := by simp; omega
  have d3 : decide (65536 < (k : Int)) = false := by simp; omega
  have d4 : decide (65536 < (m : Int)) = false := by simp; omega
  have d6 : decide ((j : Int) < 0) = false := by simp
  have d7 : decide (m ≤ j) = false := by simp; omega
  have d7' : decide ((m : Int) ≤ (j : Int)) = false := by simp; omega
  have d8 : decide (256 < (k : Int)) = false := by simp; omega
  generalize p2 m = P at *
  have d5 : decide (65536 < (P : Int) + (k : Int)) = false := by simp; omega
  generalize mu m = u at *
  have u0 : (0 : Int) ≤ (u : Int) := by omega
  have u1 : (u : Int) ≤ 16 := by omega
  go_enter Tryz.func90, Tryz.ntmps90
  go_wp2_with fail
  rw [HLE.out]
  refine (HL.out _).mono ?_
  rintro e w1 ⟨rfl, rfl⟩
  rw [HBL.out]
  clear HBL
  go_wp2_with (first | (rw [HSH.out]))
  refine (HJ.out _).mono ?_
  rintro e w3 ⟨rfl, hC3⟩
  have HC3 : Hid (Chg No w1 w3) := hid hC3
  clear hC3
  go_wp2_with (at_make; go_must ((with_reducible refine wpList_mk1 88 (.int .u16 0) 2 k k ?_ ?_ ?_ ?_ ?_ ?_ ?_ ?_); exact ⟨rfl, rfl⟩; exact Tryz.underlying58; kernel_rfl; rfl; omega; omega; (unfold maxLen; omega); intro W1 hO1 hC1 hs1))
  have hO2 : Own W1 88 w3.heap.size (nv .u16 (fillTo (fac m j) k 0)) [] := by
    rw [fillTo_zero, nv_replicate]; simpa using hO1
  have hC2 : Chg No w1 W1 := HC3.out.trans hC1
  clear hO1 hC1
  have hg0 : w1.heap.size ≤ w3.heap.size := HC3.out.size
  obtain ⟨g, hg⟩ : ∃ g, g = w3.heap.size := ⟨_, rfl⟩
  rw [← hg] at hO2 hg0 ⊢
  clear hg HC3
  go_loopw [12, 66] (fun er i wr => ∃ q : Nat, q ≤ k ∧ er = .int .i64 0 ∧ i = .int .i64 (q : Int) ∧ Own wr 88 g (nv .u16 (fillTo (fac m j) k q)) [] ∧ Chg No w1 wr) (fun _ i _ => k - (intOf i).toNat)
  case atStart => exact ⟨0, by omega, rfl, rfl, hO2, hC2⟩
  case round =>
    obtain ⟨q, hq, rfl, rfl, hO, hC⟩ := hrel
    clear hO2 hC2
    obtain ⟨w4, rfl⟩ : ∃ w4 : World, w4 = wr := ⟨_, rfl⟩
    by_cases hlt : q < k
    · have HO := hid hO
      have HC := hid hC
      clear hO hC
      have HD1 : Hid (((P : Int) + (q : Int)) / 2 ^ u = (((P + q) / P : Nat) : Int)) := hid (by have := HDV.out q; rwa [Int.natCast_add] at this)
      have hl0 : (0 : Int) ≤ (q : Int) := by omega
      have hl1 : (q : Int) < (k : Int) := by omega
      go_wp2_with fail
      rw [HD1.out]
      refine (HE.out _ (HQ.out q hlt) _).mono ?_
      rintro e w5 ⟨rfl, hC5⟩
      have HC5 := hid hC5
      clear hC5
      go_wp2_with fail
      have HA : Hid ((P : Int) + (q : Int) = ((P + q : Nat) : Int)) := hid (by show _ = _; omega)
      rw [HA.out]
      refine (HE.out (P + q) (by omega) _).mono ?_
      rintro e w6 ⟨rfl, hC6⟩
      have HC6 := hid (HC5.out.trans hC6)
      clear hC6 HC5
      have hO6 := hid (HO.out.keptNo HC6.out)
      go_wp2_with fail
      rw [HX.out _ _ (el_lt _) (el_lt _)]
      refine (HDIV.out _ _ (el_lt _) (HXL.out q) (HN.out q hlt) w6).mono ?_
      rintro e w7 ⟨rfl, rfl⟩
      rw [← HFA.out]
      have hold := hO6.out.nat (i := q) (by rw [fillTo_length]; exact hlt)
      have hf := hO6.out.frozen q
      have HST := hid (fillTo_set (fac m j) k q hlt)
      have HFL := hid (fac_lt m j q)
      clear HX HE HDIV HFA
      generalize fac m j q = fq at *
      go_wp2_with fail
      go_roundw
      case rel => exact ⟨q + 1, by omega, rfl, by go_num, by rw [← HST.out]; exact (hO6.out).setNat (by rw [fillTo_length]; exact hlt) _, ((HC.out.trans HC6.out)).setNew hg0 _ _⟩
      case measure => simp [intOf]; omega
    · obtain rfl : q = k := by omega
      go_wp2_with fail
      go_ret2
      exact ⟨g, rfl, hO, hg0, hC⟩
set_option maxRecDepth 20000 in
set_option maxHeartbeats 1600000 in
theorem Words_many (k m j : Nat) (h : prm k m) (hj : j < m) (hk : 256 < k) (w : World) :
    Calls Tryz.prog 90 #[.int .i64 (k : Int), .int .i64 (m : Int), .int .i64 (j : Int)] w fun e w' => ∃ g, e = .returned (.tuple #[.slice (some ⟨g, 0, none⟩) k k, .int .i64 0]) ∧ Own w' 88 g (nv .u16 (fillTo (fac m j) k k)) [] ∧ w.heap.size ≤ g ∧ Chg No w w' := by
  obtain ⟨h1, h2, h3, h4, h5⟩ := h
  have hmu := mu_le16 (m := m) (by omega)
  have hmp := le_p2 m
  have hp1 := p2_pos m
  have HL := hid (fun w => Len_calls (m - 1) (by omega) w)
  have HLE : Hid ((m : Int) - 1 = ((m - 1 : Nat) : Int)) := hid (by show _ = _; omega)
  have HSH : Hid (wrap64 (2 ^ mu m) = ((p2 m : Nat) : Int)) := hid (by
    have := two_pow_int (mu m) hmu
    unfold p2; exact this)
  have HBL : Hid (blen (m - 1) = mu m) := hid rfl
  have HDV : Hid (∀ i : Nat, (((p2 m + i : Nat) : Int) / 2 ^ mu m) = (((p2 m + i) / p2 m : Nat) : Int)) := hid (fun i => by unfold p2; simp)
  have HJ := hid (Element_yes j (by omega))
  have HE := hid (fun i h w => Element_yes i h w)
  have HX := hid (fun a b => Go.u16_xor_nat a b)
  have HFA : Hid (∀ i, fac m j i = gdiv (el ((p2 m + i) / p2 m)) (el j ^^^ el (p2 m + i))) := hid (fun _ => rfl)
  rw [Int.toNat_natCast] at h5
  have HQ : Hid (∀ i, i < k → (p2 m + i) / p2 m < 65536) := hid (fun i hi => Nat.lt_of_le_of_lt (Nat.div_le_self _ _) (by omega))
  have HN : Hid (∀ i, i < k → el j ^^^ el (p2 m + i) ≠ 0) := hid (fun i hi => el_ne (by omega) (by omega) (by omega))
  have HXL : Hid (∀ i, el j ^^^ el (p2 m + i) < 65536) := hid (fun i => Nat.xor_lt_two_pow (n := 16) (el_lt _) (el_lt _))
  have HDIV := hid (fun t a b ha hb h0 w hT => tDiv_q t a b ha hb h0 w hT)
  have d1 : decide ((k : Int) < 1) = false := by simp; omega
  have d2 : decide ((m : Int) < 1) = false := by simp; omega
  have d3 : decide (65536 < (k : Int)) = false := by simp; omega
  have d4 : decide (65536 < (m : Int)) = false := by simp; omega
  have d6 : decide ((j : Int) < 0) = false := by simp
  have d7 : decide (m ≤ j) = false := by simp; omega
  have d7' : decide ((m : Int) ≤ (j : Int)) = false := by simp; omega
  have d8 : decide (256 < (k : Int)) = true := by simp; omega
  generalize p2 m = P at *
  have d5 : decide (65536 < (P : Int) + (k : Int)) = false := by simp; omega
  generalize mu m = u at *
  have u0 : (0 : Int) ≤ (u : Int) := by omega
  have u1 : (u : Int) ≤ 16 := by omega
  go_enter Tryz.func90, Tryz.ntmps90
  go_wp2_with fail
  rw [HLE.out]
  refine (HL.out _).mono ?_
  rintro e w1 ⟨rfl, rfl⟩
  rw [HBL.out]
  clear HBL
  go_wp2_with (first | (rw [HSH.out]))
  refine (New_calls w1).mono ?_
  rintro e w2 ⟨rfl, hT2, hC2⟩
  have HT2 := hid hT2
  have HC2 := hid hC2
  clear hT2 hC2
  go_wp2_with (first | (rw [HSH.out]))
  refine (HJ.out _).mono ?_
  rintro e w3 ⟨rfl, hC3⟩
  have hC3' := hC3
  have HC3 : Hid (Chg No w1 w3) := hid (HC2.out.trans hC3)
  clear hC3
  go_wp2_with (at_make; go_must ((with_reducible refine wpList_mk1 88 (.int .u16 0) 2 k k ?_ ?_ ?_ ?_ ?_ ?_ ?_ ?_); exact ⟨rfl, rfl⟩; exact Tryz.underlying58; kernel_rfl; rfl; omega; omega; (unfold maxLen; omega); intro W1 hO1 hC1 hs1))
  have hO2 : Own W1 88 w3.heap.size (nv .u16 (fillTo (fac m j) k 0)) [] := by
    rw [fillTo_zero, nv_replicate]; simpa using hO1
  have hC2 : Chg No w1 W1 := HC3.out.trans hC1
  have hC1' := hC1
  clear hO1 hC1
  have hg0 : w1.heap.size ≤ w3.heap.size := HC3.out.size
  obtain ⟨g, hg⟩ : ∃ g, g = w3.heap.size := ⟨_, rfl⟩
  rw [← hg] at hO2 hg0 ⊢
  have hT3 : Tab W1 w1.heap.size := TabAt.kept HT2.out (hC3'.trans hC1') id
  have HT3 := hid hT3
  have htg : w1.heap.size < g := by rw [hg]; exact Nat.lt_of_lt_of_le (TabAt.lt HT2.out) hC3'.size
  have HG0 := hid (show w1.heap.size ≤ g from hg0)
  clear hC3' hC1' hT3
  clear hg HC3
  go_loopw [12, 66] (fun er i wr => ∃ q : Nat, q ≤ k ∧ er = .int .i64 0 ∧ i = .int .i64 (q : Int) ∧ Own wr 88 g (nv .u16 (fillTo (fac m j) k q)) [] ∧ Chg No w1 wr ∧ Tab wr w1.heap.size) (fun _ i _ => k - (intOf i).toNat)
  case atStart => exact ⟨0, by omega, rfl, rfl, hO2, hC2, HT3.out⟩
  case round =>
    obtain ⟨q, hq, rfl, rfl, hO, hC, hT4⟩ := hrel
    clear hO2 hC2
    obtain ⟨w4, rfl⟩ : ∃ w4 : World, w4 = wr := ⟨_, rfl⟩
    by_cases hlt : q < k
    · have HO := hid hO
      have HC := hid hC
      clear hO hC
      have HT4 := hid hT4
      clear hT4
      have HD1 : Hid (((P : Int) + (q : Int)) / 2 ^ u = (((P + q) / P : Nat) : Int)) := hid (by have := HDV.out q; rwa [Int.natCast_add] at this)
      have hl0 : (0 : Int) ≤ (q : Int) := by omega
      have hl1 : (q : Int) < (k : Int) := by omega
      go_wp2_with fail
      rw [HD1.out]
      refine (HE.out _ (HQ.out q hlt) _).mono ?_
      rintro e w5 ⟨rfl, hC5⟩
      have HC5 := hid hC5
      clear hC5
      go_wp2_with fail
      have HA : Hid ((P : Int) + (q : Int) = ((P + q : Nat) : Int)) := hid (by show _ = _; omega)
      rw [HA.out]
      refine (HE.out (P + q) (by omega) _).mono ?_
      rintro e w6 ⟨rfl, hC6⟩
      have HC6 := hid (HC5.out.trans hC6)
      clear hC6 HC5
      have hO6 := hid (HO.out.keptNo HC6.out)
      go_wp2_with fail
      rw [HX.out _ _ (el_lt _) (el_lt _)]
      refine (HDIV.out _ _ _ (el_lt _) (HXL.out q) (HN.out q hlt) w6 (TabAt.kept HT4.out HC6.out id)).mono ?_
      rintro e w7 ⟨rfl, mm, rfl⟩
      rw [← HFA.out]
      have hold := hO6.out.nat (i := q) (by rw [fillTo_length]; exact hlt)
      have hf := hO6.out.frozen q
      have HST := hid (fillTo_set (fac m j) k q hlt)
      have HFL := hid (fac_lt m j q)
      clear HX HE HDIV HFA
      generalize fac m j q = fq at *
      go_wp2_with fail
      go_roundw
      case rel => exact ⟨q + 1, by omega, rfl, by go_num, by rw [← HST.out]; exact (hO6.out.drewN mm).setNat (by rw [fillTo_length]; exact hlt) _, ((HC.out.trans HC6.out).drewN mm).setNew hg0 _ _, TabAt.kept HT4.out (((HC6.out.no (S := Only g)).drewN mm).setCell (p := ⟨g, q, none⟩) (.inl rfl) _) (by show ¬ w1.heap.size = g; omega)⟩
      case measure => simp [intOf]; omega
    · obtain rfl : q = k := by omega
      go_wp2_with fail
      go_ret2
      exact ⟨g, rfl, hO, Nat.le_of_lt htg, hC⟩
theorem Words_calls (k m j : Nat) (h : prm k m) (hj : j < m) (w : World) :
    Calls Tryz.prog 90 #[.int .i64 (k : Int), .int .i64 (m : Int), .int .i64 (j : Int)] w fun e w' => ∃ g, e = .returned (.tuple #[.slice (some ⟨g, 0, none⟩) k k, .int .i64 0]) ∧ Own w' 88 g (nv .u16 (fillTo (fac m j) k k)) [] ∧ w.heap.size ≤ g ∧ Chg No w w' := by
  by_cases hk : k ≤ 256
  · exact Words_few k m j h hj hk w
  · exact Words_many k m j h hj (by omega) w
end Go.Proofs.YtpnmmedjamkmeaaGreat

/- The codec's memory, and directParity. -/
set_option linter.unusedSimpArgs false
set_option linter.unusedVariables false
set_option linter.unusedSimpArgs false
namespace Go.Proofs.YtpnmmedjamkmeaaGreat
open Go.RowKit

/-- The two methods of a codec, as values. -/
def parF (fast : Bool) (C : Nat) : Value := .func (if fast then Fn.func 65 else Fn.func 63) #[.pointer (some ⟨C, 0, none⟩)] #[]
def givF (fast : Bool) (C : Nat) : Value := .func (if fast then Fn.func 66 else Fn.func 64) #[.pointer (some ⟨C, 0, none⟩)] #[]
def cdCells (fast : Bool) (C k m r W T K : Nat) : List Value :=
  [.int .i64 (k : Int), .int .i64 (m : Int), .int .i64 (p2 m : Int), .int .i64 ((2 ^ r : Nat) : Int), .int .i64 (r : Int), .slice (some ⟨W, 0, none⟩) (2 ^ r) (2 ^ r),
   .pointer (some ⟨T, 0, none⟩), .pointer (some ⟨K, 0, none⟩), parF fast C, givF fast C]
/-- A codec lies at C. -/
structure Cd (w : World) (fast : Bool) (C k m r W T K : Nat) : Prop where
  prm : prm k (m : Int)
  hr : r = mu (p2 m + k)
  own : Own w 81 C (cdCells fast C k m r W T K) []
  ws : Own w 88 W (nv .u16 (els (2 ^ r))) []
  tab : Tab w T
  kern : Kern w K
section
variable {w w' : World} {fast : Bool} {C k m r W T K : Nat} {S : Nat → Prop}
theorem Cd.kept (h : Cd w fast C k m r W T K) (hc : Chg S w w') (h1 : ¬ S C) (h2 : ¬ S W) (h3 : ¬ S T) (h4 : ¬ S K) : Cd w' fast C k m r W T K :=
  ⟨h.prm, h.hr, h.own.kept hc h1, h.ws.kept hc h2, TabAt.kept h.tab hc h3, hc.kept h.kern h4⟩
theorem Cd.keptNo (h : Cd w fast C k m r W T K) (hc : Chg No w w') : Cd w' fast C k m r W T K := h.kept hc id id id id
theorem Cd.c0 (h : Cd w fast C k m r W T K) : w.cell? ⟨C, 0, none⟩ = some (.int .i64 (k : Int)) := h.own.cell (i := 0) (by simp [cdCells])
theorem Cd.c1 (h : Cd w fast C k m r W T K) : w.cell? ⟨C, 1, none⟩ = some (.int .i64 (m : Int)) := h.own.cell (i := 1) (by simp [cdCells])
theorem Cd.c2 (h : Cd w fast C k m r W T K) : w.cell? ⟨C, 2, none⟩ = some (.int .i64 (p2 m : Int)) := h.own.cell (i := 2) (by simp [cdCells])
theorem Cd.c3 (h : Cd w fast C k m r W T K) : w.cell? ⟨C, 3, none⟩ = some (.int .i64 ((2 ^ r : Nat) : Int)) := h.own.cell (i := 3) (by simp [cdCells])
theorem Cd.c4 (h : Cd w fast C k m r W T K) : w.cell? ⟨C, 4, none⟩ = some (.int .i64 (r : Int)) := h.own.cell (i := 4) (by simp [cdCells])
theorem Cd.c5 (h : Cd w fast C k m r W T K) : w.cell? ⟨C, 5, none⟩ = some (.slice (some ⟨W, 0, none⟩) (2 ^ r) (2 ^ r)) := h.own.cell (i := 5) (by simp [cdCells])
theorem Cd.c6 (h : Cd w fast C k m r W T K) : w.cell? ⟨C, 6, none⟩ = some (.pointer (some ⟨T, 0, none⟩)) := h.own.cell (i := 6) (by simp [cdCells])
theorem Cd.c7 (h : Cd w fast C k m r W T K) : w.cell? ⟨C, 7, none⟩ = some (.pointer (some ⟨K, 0, none⟩)) := h.own.cell (i := 7) (by simp [cdCells])
theorem Cd.c8 (h : Cd w fast C k m r W T K) : w.cell? ⟨C, 8, none⟩ = some (parF fast C) := h.own.cell (i := 8) (by simp [cdCells])
theorem Cd.c9 (h : Cd w fast C k m r W T K) : w.cell? ⟨C, 9, none⟩ = some (givF fast C) := h.own.cell (i := 9) (by simp [cdCells])
end

theorem Own.setRest {w : World} {e : TypeId} {g : Nat} {xs r0 : List Value} {z : Value} (h : Own w e g xs (z :: r0)) (v : Value) : Own (w.setCell ⟨g, xs.length, none⟩ v) e g (xs ++ [v]) r0 := by
  unfold Own at h ⊢
  simp only [World.setCell, Array.getElem?_modify, if_true, h, Option.map_some, Option.isSome_none, Bool.false_eq_true, if_false]
  rw [List.setIfInBounds_toArray, List.set_append_right _ _ (Nat.le_refl _), Nat.sub_self, List.set_cons_zero, List.append_assoc, List.singleton_append]
theorem Own.restCell {w : World} {e : TypeId} {g : Nat} {xs r0 : List Value} {z : Value} (h : Own w e g xs (z :: r0)) : w.cell? ⟨g, xs.length, none⟩ = some z := by
  rw [h.cellAll, List.getElem?_append_right (Nat.le_refl _), Nat.sub_self]; rfl
/-- A row more, laid into a room of the outer slice. -/
theorem Rws.put {w : World} {eo ei : TypeId} {k : IntKind} {G : Nat} {xs : List Pc} {z : Value} {r0 : List Value} (h : Rws w eo ei k G xs (z :: r0)) {x : Pc}
    (hx : Own w ei x.b (nv k x.d) x.r) (hne : ∀ y ∈ xs, y.b ≠ x.b) (hG : x.b ≠ G) (hl : x.d.length ≤ 140737488355328) :
    Rws (w.setCell ⟨G, xs.length, none⟩ x.v) eo ei k G (xs ++ [x]) r0 := by
  have ho := h.out.setRest x.v
  rw [List.length_map] at ho
  refine ⟨by rw [List.map_append]; exact ho, ?_, ?_, ?_, ?_⟩
  · intro y hy
    rcases List.mem_append.1 hy with hy | hy
    · exact (h.inn y hy).setOther (h.ne y hy) _
    · rw [List.mem_singleton.1 hy]; exact hx.setOther hG _
  · rw [List.map_append, List.nodup_append]
    refine ⟨h.dis, by simp, ?_⟩
    intro a ha b hb'
    simp only [List.map_cons, List.map_nil, List.mem_singleton] at hb'
    obtain ⟨y, hy, rfl⟩ := List.mem_map.1 ha
    rw [hb']; exact hne y hy
  · intro y hy
    rcases List.mem_append.1 hy with hy | hy
    · exact h.ne y hy
    · rw [List.mem_singleton.1 hy]; exact hG
  · intro y hy
    rcases List.mem_append.1 hy with hy | hy
    · exact h.len y hy
    · rw [List.mem_singleton.1 hy]; exact hl

/-- Parity shard j after i data shards. -/
def parTo (m n : Nat) (ds : List (List Nat)) (j : Nat) : Nat → List Nat
  | 0 => List.replicate n 0
  | i + 1 => madd (fac m j i) (gl ds i) (parTo m n ds j i)
@[simp] theorem parTo_length (m n : Nat) (ds : List (List Nat)) (j i : Nat) : (parTo m n ds j i).length = n := by
  induction i with
  | zero => simp [parTo]
  | succ i ih => simp [parTo, ih]
theorem gn_madd_lt {c : Nat} (hc : c < 65536) {s d : List Nat} (hd : ∀ i, gn d i < 256) (i : Nat) : gn (madd c s d) i < 256 := by
  by_cases h : i < d.length
  · unfold madd
    rw [gn_maddTo _ _ _ _ _ h, if_pos h]
    exact Nat.xor_lt_two_pow (n := 8) (hd i) (mb_lt hc s i)
  · have : gn (madd c s d) i = 0 := by simp [gn, h]
    omega
theorem parTo_lt (m n : Nat) (ds : List (List Nat)) (j i b : Nat) : gn (parTo m n ds j i) b < 256 := by
  induction i generalizing b with
  | zero =>
    by_cases h : b < n
    · simp [parTo, gn, h]
    · simp [parTo, gn, h]
  | succ i ih => exact gn_madd_lt (fac_lt _ _ _) ih b
/-- The parity of k data shards of n bytes. -/
def par (k m n : Nat) (ds : List (List Nat)) : List (List Nat) := (List.range m).map fun j => parTo m n ds j k
/-- Data shards: k of them, of one even length, of bytes. -/
structure Ds (k n : Nat) (ds : List (List Nat)) : Prop where
  lk : ds.length = k
  ln : ∀ i, i < k → (gl ds i).length = n
  lb : ∀ i b, gn (gl ds i) b < 256
  even : n % 2 = 0
  small : n ≤ 4194304
  pos : 1 ≤ n
/-- What the parity's rows are. -/
def ParPost (k m n : Nat) (ds : List (List Nat)) (w : World) (e : Ending) (w' : World) : Prop :=
  ∃ G xs, e = .returned (.slice (some ⟨G, 0, none⟩) m m) ∧ Rws w' 35 5 .u8 G xs [] ∧ xs.map Pc.d = par k m n ds ∧ w.heap.size ≤ G ∧ (∀ x ∈ xs, w.heap.size ≤ x.b) ∧ Chg No w w'
end Go.Proofs.YtpnmmedjamkmeaaGreat

/- The walk of fcode's directParity. -/
set_option linter.unusedSimpArgs false
set_option linter.unusedVariables false
set_option linter.unusedSimpArgs false
namespace Go.Proofs.YtpnmmedjamkmeaaGreat
open Go.RowKit

theorem map_range_succ {f : Nat → List Nat} {xs : List Pc} {j : Nat} (h : xs.map Pc.d = (List.range j).map f) {x : Pc} (hx : x.d = f j) : (xs ++ [x]).map Pc.d = (List.range (j + 1)).map f := by
  rw [List.map_append, h, List.range_succ, List.map_append, List.map_cons, List.map_nil, hx]; rfl

theorem MulAddAt.drew {w : World} {b c g n : Nat} {p : Option Addr} {s d : List Nat} {rest : List Value} (h : MulAddAt w b c g n p s d rest) : MulAddAt w.drew b c g n p s d rest :=
  ⟨h.hn, h.hm, h.hc, h.ld, h.ls, h.bd, h.bs, h.ho, h.hr, h.ne⟩
set_option maxRecDepth 20000 in
set_option maxHeartbeats 3200000 in
theorem directParity_calls (C k m r W T K n c : Nat) (fast : Bool) (p : Option Addr) (ds : List (List Nat)) (w : World) (hc : Cd w fast C k m r W T K) (hd : Ds k n ds) (hl : Lr w .u8 p ds) :
    Calls Tryz.prog 63 #[.pointer (some ⟨C, 0, none⟩), .slice p k c] w (ParPost k m n ds w) := by
  unfold ParPost
  have HC := hid hc
  have HD := hid hd
  have HL := hid hl
  obtain ⟨hk1, hm1, hk2, hm2, hk3⟩ := hc.prm
  have c1 := hc.c1
  obtain ⟨b0, o0, q0, cc0, rfl, hd0, _, _⟩ := hl 0 (by rw [hd.lk]; omega)
  rw [hd.ln 0 (by omega), Nat.add_zero] at hd0
  have hn4 := hd.small
  have HPW := hid (fun j (hj : j < m) w => Words_calls k m j hc.prm hj w)
  have HMA := hid (fun b c g n cap1 cap2 p s d rest w H => MulAdd_calls b c g n cap1 cap2 p s d rest w H)
  clear hc hd hl hk3
  have m0 : (0 : Int) ≤ (m : Int) := by omega
  go_enter Tryz.func63, Tryz.ntmps63
  go_wp2_with (at_make; go_must ((with_reducible refine wpList_mk1 35 (.slice none 0 0) 24 m m ?_ ?_ ?_ ?_ ?_ ?_ ?_ ?_); exact ⟨rfl, rfl⟩; exact Tryz.underlying22; kernel_rfl; rfl; omega; omega; (unfold maxLen; omega); intro W1 hO1 hC1 hs1))
  have HB := hid hC1.size
  have hR1 : Rws W1 35 5 .u8 w.heap.size [] (List.replicate m (.slice none 0 0)) :=
    ⟨by simpa [Own] using hO1, fun _ h => (by cases h), by simp, fun _ h => (by cases h), fun _ h => (by cases h)⟩
  clear hO1 c1 hd0
  obtain ⟨G, hG⟩ : ∃ G, G = w.heap.size := ⟨_, rfl⟩
  have HG := hid hG
  rw [← hG] at hR1 ⊢
  clear hG
  go_loopw [18] (fun i wr => ∃ (j : Nat) (xs : List Pc), j ≤ m ∧ i = .int .i64 (j : Int) ∧ Rws wr 35 5 .u8 G xs (List.replicate (m - j) (.slice none 0 0)) ∧ xs.map Pc.d = (List.range j).map (fun j => parTo m n ds j k) ∧ (∀ x ∈ xs, G ≤ x.b) ∧ Chg No w wr) (fun i _ => m - (intOf i).toNat)
  case atStart => exact ⟨0, [], by omega, rfl, by simpa using hR1, by simp, fun _ h => (by cases h), hC1⟩
  case round =>
    obtain ⟨j, xs, hj, rfl, hR, hx, hxb, hCw⟩ := hrel
    clear hR1 hC1 hs1
    obtain ⟨w2, rfl⟩ : ∃ w2 : World, w2 = wr := ⟨_, rfl⟩
    by_cases hlt : j < m
    · have HR := hid hR
      have HX := hid hx
      have HXB := hid hxb
      have HCW := hid hCw
      have hC2 := HC.out.keptNo hCw
      have c0 := hC2.c0
      have c1 := hC2.c1
      obtain ⟨b0', o0', q0', cc0', he, hd0, _, _⟩ := (HL.out.keptNo hCw) 0 (by rw [HD.out.lk]; omega)
      obtain ⟨rfl, rfl⟩ : b0 = b0' ∧ o0 = o0' := by simpa using he
      rw [HD.out.ln 0 (by omega), Nat.add_zero] at hd0
      have hxl : xs.length = j := by simpa using congrArg List.length hx
      have HXL := hid hxl
      rw [show m - j = m - (j + 1) + 1 from by omega, List.replicate_succ] at hR
      have HR := hid hR
      have hgc := hR.out.restCell
      rw [List.length_map, hxl] at hgc
      clear hR hx hxb hCw hC2 he hxl
      have hnn := HD.out.pos
      go_wp2_with (first
        | (at_make; go_must ((with_reducible refine wpList_mk1 5 (.int .u8 0) 1 n n ?_ ?_ ?_ ?_ ?_ ?_ ?_ ?_); exact ⟨rfl, rfl⟩; exact Tryz.underlying35; kernel_rfl; rfl; omega; omega; (unfold maxLen; omega); intro W3 hO3 hC3 hs3)
           have hgc3 := hC3.cell hgc id
           have hgf3 := (HR.out.keptNo hC3).out.frozen j
           have HO3 := hid hO3
           have HC3 := hid hC3
           clear hO3 hC3 hgc))
      obtain ⟨w4, hw4⟩ : ∃ w4, w4 = W3.setCell ⟨G, j, none⟩ (.slice (some ⟨w2.heap.size, 0, none⟩) n n) := ⟨_, rfl⟩
      rw [← hw4]
      have hGb : G < w2.heap.size := (HR.out.out).lt
      have hR4 : Rws w4 35 5 .u8 G (xs ++ [⟨w2.heap.size, List.replicate n 0, []⟩]) (List.replicate (m - (j + 1)) (.slice none 0 0)) := by
        have := (HR.out.keptNo HC3.out).put (x := ⟨w2.heap.size, List.replicate n 0, []⟩) (by rw [nv_replicate]; simpa [Own] using HO3.out)
          (fun y hy => Nat.ne_of_lt (HR.out.blk hy)) (by show w2.heap.size ≠ G; omega) (by simp; omega)
        rw [HXL.out] at this
        rw [hw4]
        simpa [Pc.v] using this
      have hC4 : Chg No w w4 := by
        rw [hw4]; exact (HCW.out.trans HC3.out).setCell (p := ⟨G, j, none⟩) (.inr (Nat.le_of_eq HG.out.symm)) _
      have hCd := HC.out.keptNo hC4
      have c0 := hCd.c0
      have c1 := hCd.c1
      have HR4 := hid hR4
      have HC4 := hid hC4
      have hwb : Hid (G < w2.heap.size) := hid hGb
      clear hw4 hR4 hC4 hCd hgc3 hgf3 hd0 HO3 HC3 HR HCW hGb hs3
      go_wp2_with fail
      go_region_held3 (fun w' => w'.cell? ⟨C, 0, none⟩ = some (.int .i64 (k : Int)) ∧ w'.cell? ⟨C, 1, none⟩ = some (.int .i64 (m : Int)))
        (first
          | go_keep
          | (refine ⟨?_, ?_⟩
             · exact hC5.cell (by assumption) id
             · exact hC5.cell (by assumption) id))
        (first | (go_at_call 90; refine (HPW.out j hlt _).mono ?_; rintro e w5 ⟨g1, rfl, hO5, hg5, hC5⟩))
      obtain ⟨bb, hbb⟩ : ∃ bb, bb = w2.heap.size := ⟨_, rfl⟩
      rw [← hbb] at HR4 hwb
      have hR5 : Rws w5 35 5 .u8 G (xs ++ [⟨bb, List.replicate n 0, []⟩]) (List.replicate (m - (j + 1)) (.slice none 0 0)) := HR4.out.keptNo (((Chg.refl No w4).drew).trans hC5)
      have hC5' : Chg No w w5 := HC4.out.trans (((Chg.refl No w4).drew).trans hC5)
      have hb1 : bb < g1 := Nat.lt_of_lt_of_le (HR4.out.blk (x := ⟨bb, List.replicate n 0, []⟩) (by simp)) hg5
      have HR5 := hid hR5
      have HO5 := hid hO5
      have HC5 := hid hC5'
      clear hR5 hO5 hC5' hC5 hg5 HR4 HC4 c0 c1 hbb
      go_wp2_with fail
      go_loopw [44] (fun t wr => ∃ i : Nat, i ≤ k ∧ t = .int .i64 (i : Int) ∧ Own wr 5 bb (nv .u8 (parTo m n ds j i)) [] ∧ Chg (Only bb) w5 wr) (fun t _ => k - (intOf t).toNat)
      case atStart => exact ⟨0, by omega, rfl, HR5.out.inn ⟨bb, List.replicate n 0, []⟩ (by simp), Chg.refl _ _⟩
      case round =>
        obtain ⟨i, hi, rfl, hO, hCw⟩ := hrel
        obtain ⟨w6, rfl⟩ : ∃ w6 : World, w6 = wr := ⟨_, rfl⟩
        have HO := hid hO
        have HCW := hid hCw
        by_cases hik : i < k
        · have hf := (HO5.out.kept HCW.out (by simp [Only]; omega)).nat (i := i) (by rw [fillTo_length]; exact hik)
          rw [gn_fillTo _ _ _ _ hik, if_pos hik] at hf
          have hGb := hwb.out
          have hCall : Chg No w w6 := HC5.out.trans' HCW.out fun q hq e => by
            have := (HG.out ▸ hGb : w.heap.size < bb)
            simp only [Only] at e; omega
          have c7 := (HC.out.keptNo hCall).c7
          have hcj := (HR5.out.cell (i := j) (by simp [HXL.out]))
          have hcj := hCw.cell hcj (by simp [Only]; omega)
          have HCJ := hid hcj
          obtain ⟨b2, o2, q2, c2, he, hdi0, hri0, _⟩ := HL.out i (by rw [HD.out.lk]; omega)
          obtain ⟨rfl, rfl⟩ : b0 = b2 ∧ o0 = o2 := by simpa using he
          rw [HD.out.ln i (by omega)] at hdi0
          have hdi := hCall.cell hdi0 id
          have hri := hri0.keptNo hCall
          have hvj : ((xs ++ [(⟨bb, List.replicate n 0, []⟩ : Pc)])[j]'(by simp [HXL.out])).v = .slice (some ⟨bb, 0, none⟩) n n := by
            rw [List.getElem_append_right (by rw [HXL.out]; omega)]
            simp [Pc.v]
          rw [hvj] at hcj
          have HMA2 : Hid (MulAddAt w6 K (fac m j i) bb n q2 (gl ds i) (parTo m n ds j i) []) := hid
            ⟨HD.out.even, by unfold maxLen; omega, fac_lt _ _ _, parTo_length _ _ _ _ _, HD.out.ln i (by omega), parTo_lt _ _ _ _ _, HD.out.lb i, HO.out, hri, by
              intro a ha e
              obtain ⟨b3, o3, e3, hc3⟩ := hri0 0 (by rw [HD.out.ln i (by omega)]; omega)
              have hb3 := World.block_lt_of_cell? w _ hc3
              rw [ha] at e3
              obtain rfl : a = ⟨b3, o3, none⟩ := by simpa using e3
              have := HG.out
              simp only at e hb3
              omega⟩
          clear hCw hCall he hri hvj hdi0 hri0
          go_wp2_with fail
          go_still_tail 13, (by kernel_rfl)
          go_wp2_with fail
          refine (HMA.out _ _ _ _ _ _ _ _ _ _ _ HMA2.out.drew).mono ?_
          rintro e w7 ⟨rfl, hO7, hC7⟩
          have hC7' : Chg (Only bb) w5 w7 := HCW.out.trans (((Chg.refl _ w6).drew).trans hC7)
          have HO7 := hid hO7
          have HC7 := hid hC7'
          clear hO7 hC7 hC7' hcj c7 hdi hf
          go_wp2_with fail
          go_roundw
          case rel => exact ⟨i + 1, by omega, by go_num, HO7.out, HC7.out⟩
          case measure => simp [intOf]; omega
        · obtain rfl : i = k := by omega
          have hcb : ((xs ++ [(⟨bb, List.replicate n 0, []⟩ : Pc)])[j]'(by simp [HXL.out])) = ⟨bb, List.replicate n 0, []⟩ := by
            rw [List.getElem_append_right (by rw [HXL.out]; omega)]
            simp
          have hR7 := HR5.out.upd (w' := w6) (i := j) (by simp [HXL.out]) (d' := parTo m n ds j i) (by rw [hcb]; simp) (by rw [hcb]; exact HCW.out) (by rw [hcb]; exact HO.out)
          rw [hcb] at hR7
          have hset : (xs ++ [(⟨bb, List.replicate n 0, []⟩ : Pc)]).set j ⟨bb, parTo m n ds j i, []⟩ = xs ++ [⟨bb, parTo m n ds j i, []⟩] := by
            rw [List.set_append_right _ _ (by rw [HXL.out]; omega), HXL.out, Nat.sub_self]; rfl
          rw [hset] at hR7
          have hx7 := map_range_succ HX.out (x := ⟨bb, parTo m n ds j i, []⟩) rfl
          have hCall : Chg No w w6 := HC5.out.trans' HCW.out fun q hq e => by
            have := (HG.out ▸ hwb.out : w.heap.size < bb)
            simp only [Only] at e; omega
          have hb7 : ∀ x ∈ xs ++ [(⟨bb, parTo m n ds j i, []⟩ : Pc)], G ≤ x.b := by
            intro x hx
            rcases List.mem_append.1 hx with hx | hx
            · exact HXB.out x hx
            · rw [List.mem_singleton.1 hx]; exact Nat.le_of_lt hwb.out
          have HR7 := hid hR7
          clear hO hCw hR7 hcb hset
          go_wp2_with fail
          go_roundw
          case rel => exact ⟨j + 1, _, by omega, by go_num, HR7.out, hx7, hb7, hCall⟩
          case measure => simp [intOf]; omega
    · obtain rfl : j = m := by omega
      have HR := hid hR
      clear hR
      go_wp2_with fail
      go_ret
      exact ⟨G, xs, rfl, by simpa using HR.out, hx, Nat.le_of_eq HG.out.symm, fun x m => by rw [← HG.out]; exact hxb x m, hCw⟩
end Go.Proofs.YtpnmmedjamkmeaaGreat

/- Walks: shape.lengths, Whole; the codec's whole, within, cut. -/
set_option linter.unusedSimpArgs false
set_option linter.unusedVariables false
set_option linter.unusedSimpArgs false
namespace Go.Proofs.YtpnmmedjamkmeaaGreat
open Go.RowKit

/-- Rows: t of them, of one length n. -/
structure Ev (t n : Nat) (ls : List (List Nat)) : Prop where
  lt : ls.length = t
  ln : ∀ i, i < t → (gl ls i).length = n
  even : n % 2 = 0
  small : n ≤ 4194304
  pos : 1 ≤ n
  tpos : 1 ≤ t
  tsmall : t ≤ 131072

set_option maxRecDepth 20000 in
theorem lengths_even (p : Option Addr) (t n c : Nat) (ls : List (List Nat)) (w : World) (hl : Lr w .u8 p ls) (hd : Ev t n ls) :
    Calls Tryz.prog 104 #[.slice p t c] w fun e w' => e = .returned (.tuple #[.int .i64 (n : Int), .slice none 0 0, .bool true]) ∧ w' = w := by
  have HL := hid hl
  have HD := hid hd
  have ht := hd.tsmall
  have hn := hd.small
  have hn1 := hd.pos
  have ht1 := hd.tpos
  clear hl hd
  have d1 : ((n : Int) == 0) = false := by rw [beq_eq_false_iff_ne]; omega
  have d2 : ((n : Int) != (n : Int)) = false := by simp
  go_enter Tryz.func104, Tryz.ntmps104
  go_wp2_with fail
  go_loopw [2, 3, 4, 9] (fun len em ev i wr => ∃ j : Nat, j ≤ t ∧ i = .int .i64 (j : Int) ∧ len = .int .i64 ((if j = 0 then 0 else n : Nat) : Int) ∧ em = .slice none 0 0 ∧ ev = .bool true ∧ wr = w) (fun _ _ _ i _ => t - (intOf i).toNat)
  case atStart => exact ⟨0, by omega, rfl, rfl, rfl, rfl, rfl⟩
  case round =>
    obtain ⟨j, hj, rfl, rfl, rfl, rfl, rfl⟩ := hrel
    by_cases hlt : j < t
    · obtain ⟨b, off, q, cc, rfl, hc1, _, _⟩ := HL.out j (by rw [HD.out.lt]; exact hlt)
      rw [HD.out.ln j hlt] at hc1
      by_cases hj0 : j = 0
      · subst hj0
        rw [Nat.add_zero] at hc1
        rw [if_pos rfl]
        go_wp2_with fail
        go_roundw
        case rel => exact ⟨1, by omega, rfl, by rw [if_neg (by omega)], rfl, rfl, by first | rfl | trivial⟩
        case measure => simp [intOf]; omega
      · rw [if_neg hj0]
        go_wp2_with fail
        go_roundw
        case rel => exact ⟨j + 1, by omega, by go_num, by rw [if_neg (by omega)], rfl, rfl, by first | rfl | trivial⟩
        case measure => simp [intOf]; omega
    · obtain rfl : j = t := by omega
      rw [if_neg (by omega)]
      go_wp2_with fail
      go_ret3
      exact ⟨rfl, rfl⟩
theorem Whole_yes (p : Option Addr) (k m n c t : Nat) (ls : List (List Nat)) (w : World) (hl : Lr w .u8 p ls) (ht : t = k + m) (hd : Ev t n ls) (hp : prm k (m : Int)) :
    Calls Tryz.prog 70 #[.int .i64 2, .int .i64 (k : Int), .int .i64 (m : Int), .slice p t c] w fun e w' => e = .returned (.tuple #[.int .i64 (n : Int), .int .i64 0]) ∧ w' = w := by
  have H1 := hid (counted_yes k m t p c hp ht w)
  have H2 := hid (lengths_even p t n c ls w hl hd)
  have H3 := hid (odd_no n hd.even w)
  clear hl hd hp ht
  go_enter Tryz.func70, Tryz.ntmps70
  go_wp2_with fail
  refine H1.out.mono ?_
  rintro e w1 ⟨rfl, rfl⟩
  go_wp2_with fail
  refine H2.out.mono ?_
  rintro e w1 ⟨rfl, rfl⟩
  go_wp2_with fail
  refine H3.out.mono ?_
  rintro e w1 ⟨rfl, rfl⟩
  go_wp2_with fail
  go_ret2
  exact ⟨rfl, rfl⟩
/-- A good span of a length. -/
structure Sp (a b n : Nat) : Prop where
  ab : a ≤ b
  bn : b ≤ n
  ea : a % 2 = 0
  eb : b % 2 = 0
def spanV (a b : Nat) : Value := .agg #[.int .i64 (a : Int), .int .i64 (b : Int)]
set_option maxRecDepth 20000 in
theorem within_yes (a b n : Nat) (h : Sp a b n) (hn : n ≤ 4194304) (w : World) :
    Calls Tryz.prog 71 #[spanV a b, .int .i64 (n : Int)] w fun e w' => e = .returned (.bool true) ∧ Chg No w w' := by
  obtain ⟨h1, h2, h3, h4⟩ := h
  unfold spanV
  have d1 : decide ((0 : Int) ≤ (a : Int)) = true := by simp
  have d2 : decide (a ≤ b) = true := by simp; omega
  have d3 : decide (b ≤ n) = true := by simp; omega
  have d2' : decide ((a : Int) ≤ (b : Int)) = true := by simp; omega
  have d3' : decide ((b : Int) ≤ (n : Int)) = true := by simp; omega
  have d4 : ((a : Int) % 2 == 0) = true := by rw [beq_iff_eq]; omega
  have d5 : ((b : Int) % 2 == 0) = true := by rw [beq_iff_eq]; omega
  have b1 : (a : Int) ≤ 4194304 := by omega
  have b2 : (b : Int) ≤ 4194304 := by omega
  clear h1 h2 h3 h4
  go_enter Tryz.func71, Tryz.ntmps71
  go_wp2_with fail
  go_ret
  exact ⟨rfl, (Chg.refl _ _).alloc _⟩
end Go.Proofs.YtpnmmedjamkmeaaGreat

/- Walks: the codec's whole, cut. -/
set_option linter.unusedSimpArgs false
set_option linter.unusedVariables false
set_option linter.unusedSimpArgs false
namespace Go.Proofs.YtpnmmedjamkmeaaGreat
open Go.RowKit

set_option maxRecDepth 20000 in
theorem whole_none (C k m r W T K n c t : Nat) (fast : Bool) (p : Option Addr) (ls : List (List Nat)) (w : World) (hc : Cd w fast C k m r W T K) (hl : Lr w .u8 p ls) (ht : t = k + m) (hd : Ev t n ls) :
    Calls Tryz.prog 36 #[.pointer (some ⟨C, 0, none⟩), .slice p t c, .pointer none] w fun e w' => e = .returned (.tuple #[.int .i64 (n : Int), .int .i64 0]) ∧ Chg No w w' := by
  have HW := hid (fun w h => Whole_yes p k m n c t ls w h ht hd hc.prm)
  have HL := hid hl
  have c0 := hc.c0
  have c1 := hc.c1
  clear hc hl hd ht
  go_enter Tryz.func36, Tryz.ntmps36
  go_wp2_with fail
  go_quiet ((go_at_call 70; exact Calls.quiet_of_same (HW.out _ HL.out)))
  go_wp2_with fail
  go_ret2
  exact ⟨rfl, (Chg.refl _ _).drewN _⟩
set_option maxRecDepth 20000 in
theorem whole_span (C k m r W T K n c t S a b : Nat) (fast : Bool) (p : Option Addr) (ls : List (List Nat)) (w : World) (hc : Cd w fast C k m r W T K) (hl : Lr w .u8 p ls) (ht : t = k + m) (hd : Ev t n ls)
    (hs : Own w 51 S [.int .i64 (a : Int), .int .i64 (b : Int)] []) (hsp : Sp a b n) :
    Calls Tryz.prog 36 #[.pointer (some ⟨C, 0, none⟩), .slice p t c, .pointer (some ⟨S, 0, none⟩)] w fun e w' => e = .returned (.tuple #[.int .i64 (n : Int), .int .i64 0]) ∧ Chg No w w' := by
  have HW := hid (fun w h => Whole_yes p k m n c t ls w h ht hd hc.prm)
  have HL := hid hl
  have HI := hid (within_yes a b n hsp hd.small)
  have c0 := hc.c0
  have c1 := hc.c1
  have s0 : w.cell? ⟨S, 0, none⟩ = some (.int .i64 (a : Int)) := hs.cell (i := 0) (by simp)
  have s1 : w.cell? ⟨S, 1, none⟩ = some (.int .i64 (b : Int)) := hs.cell (i := 1) (by simp)
  clear hc hl hd ht hs hsp
  go_enter Tryz.func36, Tryz.ntmps36
  go_wp2_with fail
  go_quiet ((go_at_call 70; exact Calls.quiet_of_same (HW.out _ HL.out)))
  go_wp2_with fail
  refine (HI.out _).mono ?_
  rintro e w1 ⟨rfl, hC⟩
  have HC := hid (((Chg.refl No w).drewN nq).trans hC)
  clear hC
  go_wp2_with fail
  go_ret2
  exact ⟨rfl, HC.out⟩

/-- What cut leaves: each row's span. -/
def cutL (a b : Nat) (ls : List (List Nat)) : List (List Nat) := ls.map fun l => (l.drop a).take (b - a)
theorem gn_cut {a b : Nat} {l : List Nat} {i : Nat} (h : a + i < b) (hb : b ≤ l.length) : gn ((l.drop a).take (b - a)) i = gn l (a + i) := by
  simp only [gn, List.getD_eq_getElem?_getD]
  rw [List.getElem?_take, if_pos (by omega), List.getElem?_drop]
theorem gl_cut (a b : Nat) (ls : List (List Nat)) (i : Nat) (h : i < ls.length) : gl (cutL a b ls) i = ((gl ls i).drop a).take (b - a) := by
  rw [gl_get _ _ (by simpa [cutL] using h), gl_get _ _ h]; simp [cutL]
/-- One piece. -/
def CutE (w : World) (a b : Nat) (l : List Nat) (v : Value) : Prop := ∃ q cc, v = .slice q (b - a) cc ∧ b - a ≤ cc ∧ Rn w .u8 q ((l.drop a).take (b - a))
set_option maxRecDepth 20000 in
set_option maxHeartbeats 1600000 in
theorem cut_calls (p : Option Addr) (t n c a b : Nat) (ls : List (List Nat)) (w : World) (hl : Lr w .u8 p ls) (hd : Ev t n ls) (hab : a < b) (hbn : b ≤ n) :
    Calls Tryz.prog 69 #[.slice p t c, spanV a b] w fun e w' => ∃ G, e = .returned (.slice (some ⟨G, 0, none⟩) t t) ∧ Lr w' .u8 (some ⟨G, 0, none⟩) (cutL a b ls) ∧ w.heap.size ≤ G ∧ Chg No w w' := by
  unfold spanV
  have HL := hid hl
  have HD := hid hd
  have ht := hd.tsmall
  have hn := hd.small
  clear hl hd
  have d1 : decide (b ≤ n) = true := by simpa using hbn
  have d2 : decide ((b : Int) ≤ (n : Int)) = true := by simp; omega
  go_enter Tryz.func69, Tryz.ntmps69
  go_wp2_with (at_make; go_must ((with_reducible refine wpList_mk1 35 (.slice none 0 0) 24 t t ?_ ?_ ?_ ?_ ?_ ?_ ?_ ?_); exact ⟨rfl, rfl⟩; exact Tryz.underlying22; kernel_rfl; rfl; omega; omega; (unfold maxLen; omega); intro W1 hO1 hC1 hs1))
  have hO2 : Own W1 35 (w.heap.size + 1) [] (List.replicate t (.slice none 0 0)) := by
    have e : (w.alloc (.cells #[.int .i64 (a : Int), .int .i64 (b : Int)] 51)).heap.size = w.heap.size + 1 := by simp
    rw [e] at hO1
    simpa [Own] using hO1
  have hS : Own W1 51 w.heap.size [.int .i64 (a : Int), .int .i64 (b : Int)] [] :=
    (show Own (w.alloc (.cells #[.int .i64 (a : Int), .int .i64 (b : Int)] 51)) 51 w.heap.size [.int .i64 (a : Int), .int .i64 (b : Int)] [] from heap_alloc_new w _).keptNo hC1
  have hC2 : Chg No w W1 := ((Chg.refl No w).alloc _).trans hC1
  have HS := hid hS
  have HC2 := hid hC2
  clear hO1 hC1 hs1 hS hC2
  go_loopw [13] (fun i wr => ∃ (j : Nat) (vs : List Value), j ≤ t ∧ i = .int .i64 (j : Int) ∧ vs.length = j ∧ Own wr 35 (w.heap.size + 1) vs (List.replicate (t - j) (.slice none 0 0)) ∧ (∀ x, (hx : x < vs.length) → CutE w a b (gl ls x) vs[x]) ∧ Chg (Only (w.heap.size + 1)) W1 wr) (fun i _ => t - (intOf i).toNat)
  case atStart => exact ⟨0, [], by omega, rfl, rfl, hO2, fun x hx => absurd hx (by simp), Chg.refl _ _⟩
  case round =>
    obtain ⟨j, vs, hj, rfl, hvl, hO, hE, hC⟩ := hrel
    clear hO2
    obtain ⟨w2, rfl⟩ : ∃ w2 : World, w2 = wr := ⟨_, rfl⟩
    have HO := hid hO
    have HE := hid hE
    have HC := hid hC
    have HVL := hid hvl
    clear hO hE hC hvl
    by_cases hlt : j < t
    · obtain ⟨b1, o1, q1, cc, rfl, hc1, hr1, _, hcc⟩ := HL.out j (by rw [HD.out.lt]; exact hlt)
      rw [HD.out.ln j hlt] at hc1 hcc
      obtain ⟨qb, qo, rfl, hqc⟩ := hr1.at0 (by rw [HD.out.ln j hlt]; have := HD.out.pos; omega)
      have hc2 := HC.out.cell (HC2.out.cell hc1 id) (by
        have := World.block_lt_of_cell? w _ hc1
        simp only [Only] at *; omega)
      have hS2 := HS.out.kept HC.out (by simp [Only])
      have s0 : w2.cell? ⟨w.heap.size, 0, none⟩ = some (.int .i64 (a : Int)) := hS2.cell (i := 0) (by simp)
      have s1 : w2.cell? ⟨w.heap.size, 1, none⟩ = some (.int .i64 (b : Int)) := hS2.cell (i := 1) (by simp)
      have hOj : Own w2 35 (w.heap.size + 1) vs (.slice none 0 0 :: List.replicate (t - (j + 1)) (.slice none 0 0)) := by
        have := HO.out
        rwa [show t - j = t - (j + 1) + 1 from by omega, List.replicate_succ] at this
      have hgc := hOj.restCell
      rw [HVL.out] at hgc
      have hgf := hOj.frozen j
      have HOJ := hid hOj
      have HQ := hid hqc
      have HR1 := hid hr1
      have i1 : (0 : Int) ≤ (a : Int) := by omega
      have i2 : (a : Int) ≤ (b : Int) := by omega
      have i3 : (b : Int) ≤ (cc : Int) := by omega
      clear hc1 hr1 hqc hS2 hOj
      go_wp2_with fail
      have hset := HOJ.out.setRest (.slice (some ⟨qb, qo + a, none⟩) (b - a) (cc - a))
      rw [HVL.out] at hset
      have hEn : ∀ x, (hx : x < (vs ++ [Value.slice (some ⟨qb, qo + a, none⟩) (b - a) (cc - a)]).length) → CutE w a b (gl ls x) (vs ++ [Value.slice (some ⟨qb, qo + a, none⟩) (b - a) (cc - a)])[x] := by
        intro x hx
        by_cases hxj : x < vs.length
        · rw [List.getElem_append_left hxj]; exact HE.out x hxj
        · have hxe : x = j := by
            have := HVL.out
            simp at hx; omega
          subst hxe
          rw [List.getElem_append_right (by omega)]
          simp only [List.getElem_singleton]
          refine ⟨_, _, rfl, by omega, ?_⟩
          intro y hy
          have hln := HD.out.ln x hlt
          have hyb : y < b - a := by
            rw [List.length_take, List.length_drop] at hy; omega
          refine ⟨qb, qo + a, rfl, ?_⟩
          rw [gn_cut (by omega) (by omega), Nat.add_assoc]
          exact HQ.out (a + y) (by omega)
      have HSET := hid hset
      have HEN := hid hEn
      clear hset hEn hgc hgf s0 s1 hc2
      go_roundw
      case rel => exact ⟨j + 1, _, by omega, by go_num, by rw [List.length_append, HVL.out]; rfl, HSET.out, HEN.out, HC.out.setCell (p := ⟨w.heap.size + 1, j, none⟩) (.inl rfl) _⟩
      case measure => simp [intOf]; omega
    · obtain rfl : j = t := by omega
      have hLr : Lr w2 .u8 (some ⟨w.heap.size + 1, 0, none⟩) (cutL a b ls) := by
        intro i hi
        have hi2 : i < j := by rw [cutL, List.length_map, HD.out.lt] at hi; exact hi
        have hln := HD.out.ln i hi2
        have hg := gl_cut a b ls i (by rw [HD.out.lt]; exact hi2)
        have hlg : (gl (cutL a b ls) i).length = b - a := by rw [hg, List.length_take, List.length_drop]; omega
        obtain ⟨q, cc, hv, hcc, hrn⟩ := HE.out i (by rw [HVL.out]; exact hi2)
        refine ⟨w.heap.size + 1, 0, q, cc, rfl, ?_, ?_, ?_, ?_⟩
        · rw [Nat.zero_add, hlg, ← hv]
          exact HO.out.cell (by rw [HVL.out]; exact hi2)
        · rw [hg]
          refine (hrn.keptNo HC2.out).kept HC.out ?_
          intro ad had hS
          obtain ⟨b3, o3, e3, hc3⟩ := hrn 0 (by rw [List.length_take, List.length_drop]; omega)
          rw [had] at e3
          obtain rfl : ad = ⟨b3, o3, none⟩ := by simpa using e3
          have := World.block_lt_of_cell? w _ hc3
          simp only [Only] at *; omega
        · rw [hlg]; omega
        · rw [hlg]; exact hcc
      have HLR := hid hLr
      have HCC : Hid (Chg No w w2) := hid (HC2.out.trans' HC.out fun i hi e => by simp only [Only] at e; omega)
      clear hLr
      go_wp2_with fail
      go_ret
      exact ⟨_, rfl, HLR.out, by omega, HCC.out⟩
end Go.Proofs.YtpnmmedjamkmeaaGreat

/- The walk of the codec's encode. -/
set_option linter.unusedSimpArgs false
set_option linter.unusedVariables false
set_option linter.unusedSimpArgs false
namespace Go.Proofs.YtpnmmedjamkmeaaGreat
open Go.RowKit

/-- What is known of a codec's parity function. -/
def ParC (fast : Bool) : Prop := ∀ (C k m r W T K n c : Nat) (p : Option Addr) (ds : List (List Nat)) (w : World), Cd w fast C k m r W T K → Ds k n ds → Lr w .u8 p ds →
  Calls Tryz.prog (if fast then 65 else 63) #[.pointer (some ⟨C, 0, none⟩), .slice p k c] w (ParPost k m n ds w)
theorem parC_direct : ParC false := fun C k m r W T K n c p ds w h1 h2 h3 => directParity_calls C k m r W T K n c false p ds w h1 h2 h3

/-- Rows of bytes. -/
def Byt (ls : List (List Nat)) : Prop := ∀ i b, gn (gl ls i) b < 256
theorem gl_take (ls : List (List Nat)) (k i : Nat) (h : i < k) : gl (ls.take k) i = gl ls i := by
  simp only [gl, List.getD_eq_getElem?_getD]
  rw [List.getElem?_take, if_pos h]
theorem Lr.take {w : World} {kk : IntKind} {p : Option Addr} {ls : List (List Nat)} (h : Lr w kk p ls) (k : Nat) : Lr w kk p (ls.take k) := by
  intro i hi
  rw [List.length_take] at hi
  rw [gl_take _ _ _ (by omega)]
  exact h i (by omega)
theorem Ev.take {t n : Nat} {ls : List (List Nat)} (h : Ev t n ls) {k : Nat} (hk : k ≤ t) (h1 : 1 ≤ k) : Ev k n (ls.take k) :=
  ⟨by rw [List.length_take, h.lt]; omega, fun i hi => by rw [gl_take _ _ _ hi]; exact h.ln i (by omega), h.even, h.small, h.pos, h1, by have := h.tsmall; omega⟩
theorem gn_take_lt {l : List Nat} (h : ∀ b, gn l b < 256) (a n b : Nat) : gn ((l.drop a).take n) b < 256 := by
  by_cases hb : b < ((l.drop a).take n).length
  · rw [gn_get _ _ hb]
    simp only [List.getElem_take, List.getElem_drop]
    have hb2 : a + b < l.length := by rw [List.length_take, List.length_drop] at hb; omega
    rw [← gn_get l (a + b) hb2]; exact h _
  · have : gn ((l.drop a).take n) b = 0 := by simp only [gn, List.getD_eq_getElem?_getD]; rw [List.getElem?_eq_none (by omega)]; rfl
    omega
theorem gl_out (ls : List (List Nat)) (i : Nat) (h : ls.length ≤ i) : gl ls i = [] := by simp only [gl, List.getD_eq_getElem?_getD]; rw [List.getElem?_eq_none h]; rfl
theorem Ds.cut {t n k a b : Nat} {ls : List (List Nat)} (h : Ev t n ls) (hb : Byt ls) (hk : k ≤ t) (hab : a < b) (hbn : b ≤ n) (ha : a % 2 = 0) (hb2 : b % 2 = 0) : Ds k (b - a) (cutL a b (ls.take k)) := by
  have hl : (ls.take k).length = k := by rw [List.length_take, h.lt]; omega
  refine ⟨by rw [cutL, List.length_map, hl], fun i hi => ?_, fun i x => ?_, by omega, by have := h.small; omega, by omega⟩
  · rw [gl_cut _ _ _ _ (by omega), gl_take _ _ _ hi, List.length_take, List.length_drop, h.ln i (by omega)]; omega
  · by_cases hi : i < k
    · rw [gl_cut _ _ _ _ (by omega), gl_take _ _ _ hi]; exact gn_take_lt (hb i) _ _ _
    · rw [gl_out _ _ (by rw [cutL, List.length_map]; omega)]; simp [gn]

set_option maxRecDepth 20000 in
set_option maxHeartbeats 1600000 in
theorem encode_false (HPC : ParC false) (C k m r W T K n c t a b : Nat) (p : Option Addr) (ls : List (List Nat)) (w : World) (hc : Cd w false C k m r W T K) (hl : Lr w .u8 p ls) (ht : t = k + m) (hd : Ev t n ls) (hbt : Byt ls)
    (hab : a < b) (hsp : Sp a b n) (htc : t ≤ c) :
    Calls Tryz.prog 40 #[.pointer (some ⟨C, 0, none⟩), .slice p t c, spanV a b] w (ParPost k m (b - a) (cutL a b (ls.take k)) w) := by
  have hk1 := hc.prm.1
  have hD : Ds k (b - a) (cutL a b (ls.take k)) := Ds.cut hd hbt (by omega) hab hsp.bn hsp.ea hsp.eb
  have HCUT := hid (fun c w h => cut_calls p k n c a b (ls.take k) w h (hd.take (by omega) hk1) hab hsp.bn)
  have HPAR := hid (fun c p w (h1 : Cd w false C k m r W T K) h3 => HPC C k m r W T K (b - a) c p (cutL a b (ls.take k)) w h1 hD h3)
  simp only [Bool.false_eq_true, if_false] at HPAR
  unfold ParPost at HPAR ⊢
  obtain ⟨pb, po, _, _, rfl, _⟩ := hl 0 (by rw [hd.lt]; omega)
  have HC := hid hc
  have HL := hid (hl.take k)
  have c0 := hc.c0
  have c8 := hc.c8
  have HT := hid ht
  have k0 : (0 : Int) ≤ (k : Int) := by omega
  have kc : (k : Int) ≤ (c : Int) := by omega
  simp only [parF, Bool.false_eq_true, if_false] at c8
  clear hc hl ht hd hbt hsp hab hD
  unfold spanV at *
  have c8a := ((Chg.refl No w).alloc (.cells #[.int .i64 (a : Int), .int .i64 (b : Int)] 51)).cell c8 id
  have hfn : ∀ W, (binOp BinOp.eql 34 (Value.func (Fn.func 63) #[.pointer (some ⟨C, 0, none⟩)] #[]) Value.nilFunc).run Tryz.prog W = .ok (.bool false) W := fun _ => rfl
  go_enter Tryz.func40, Tryz.ntmps40
  go_wp2_with fail
  clear c8a
  obtain ⟨w1, hw1⟩ : ∃ w1, w1 = w.alloc (.cells #[.int .i64 (a : Int), .int .i64 (b : Int)] 51) := ⟨_, rfl⟩
  have hC1 : Chg No w w1 := by rw [hw1]; exact (Chg.refl _ _).alloc _
  have hS : Own w1 51 w.heap.size [.int .i64 (a : Int), .int .i64 (b : Int)] [] := by rw [hw1]; exact heap_alloc_new w _
  rw [← hw1]
  have s0 : w1.cell? ⟨w.heap.size, 0, none⟩ = some (.int .i64 (a : Int)) := hS.cell (i := 0) (by simp)
  have s1 : w1.cell? ⟨w.heap.size, 1, none⟩ = some (.int .i64 (b : Int)) := hS.cell (i := 1) (by simp)
  have c0 := hC1.cell c0 id
  have c8 := hC1.cell c8 id
  have HC1 := hid hC1
  clear hw1 hS hC1
  go_region_held3 (fun w' => Chg No w1 w' ∧ w'.cell? ⟨C, 0, none⟩ = some (.int .i64 (k : Int)) ∧ w'.cell? ⟨C, 8, none⟩ = some (.func (Fn.func 63) #[.pointer (some ⟨C, 0, none⟩)] #[]) ∧ w'.cell? ⟨w.heap.size, 0, none⟩ = some (.int .i64 (a : Int)) ∧ w'.cell? ⟨w.heap.size, 1, none⟩ = some (.int .i64 (b : Int)))
    (first
      | exact ⟨(Chg.refl No w1).drew, c0, c8, s0, s1⟩
      | assumption
      | exact ⟨((Chg.refl No w1).drew).trans hC5, hC5.cell c0 id, hC5.cell c8 id, hC5.cell s0 id, hC5.cell s1 id⟩
      | exact ⟨(((Chg.refl No w1).drew).trans hC5).trans hC6, hC6.cell (hC5.cell c0 id) id, hC6.cell (hC5.cell c8 id) id, hC6.cell (hC5.cell s0 id) id, hC6.cell (hC5.cell s1 id) id⟩)
    (first
      | (go_at_call 63; refine (HPAR.out _ _ _ (HC.out.keptNo ((HC1.out.drew).trans hC5)) hL5).mono ?_; rintro e w6 ⟨G, xs, rfl, hR6, hx6, hg6, hb6, hC6⟩)
      | (go_at_call 69; refine (HCUT.out _ _ (HL.out.keptNo (HC1.out.drew))).mono ?_; rintro e w5 ⟨g1, rfl, hL5, hg5, hC5⟩))
  have hC16 : Chg No w w6 := ((HC1.out.drew).trans hC5).trans hC6
  have hw5 : w.heap.size ≤ w5.heap.size := ((HC1.out.drew).trans hC5).size
  go_wp2_with fail
  go_ret
  exact ⟨G, xs, rfl, hR6, hx6, Nat.le_trans hw5 hg6, fun x m => Nat.le_trans hw5 (hb6 x m), hC16⟩
set_option maxRecDepth 20000 in
set_option maxHeartbeats 1600000 in
theorem encode_true (HPC : ParC true) (C k m r W T K n c t a b : Nat) (p : Option Addr) (ls : List (List Nat)) (w : World) (hc : Cd w true C k m r W T K) (hl : Lr w .u8 p ls) (ht : t = k + m) (hd : Ev t n ls) (hbt : Byt ls)
    (hab : a < b) (hsp : Sp a b n) (htc : t ≤ c) :
    Calls Tryz.prog 40 #[.pointer (some ⟨C, 0, none⟩), .slice p t c, spanV a b] w (ParPost k m (b - a) (cutL a b (ls.take k)) w) := by
  have hk1 := hc.prm.1
  have hD : Ds k (b - a) (cutL a b (ls.take k)) := Ds.cut hd hbt (by omega) hab hsp.bn hsp.ea hsp.eb
  have HCUT := hid (fun c w h => cut_calls p k n c a b (ls.take k) w h (hd.take (by omega) hk1) hab hsp.bn)
  have HPAR := hid (fun c p w (h1 : Cd w true C k m r W T K) h3 => HPC C k m r W T K (b - a) c p (cutL a b (ls.take k)) w h1 hD h3)
  simp only [if_true] at HPAR
  unfold ParPost at HPAR ⊢
  obtain ⟨pb, po, _, _, rfl, _⟩ := hl 0 (by rw [hd.lt]; omega)
  have HC := hid hc
  have HL := hid (hl.take k)
  have c0 := hc.c0
  have c8 := hc.c8
  have HT := hid ht
  have k0 : (0 : Int) ≤ (k : Int) := by omega
  have kc : (k : Int) ≤ (c : Int) := by omega
  simp only [parF, if_true] at c8
  clear hc hl ht hd hbt hsp hab hD
  unfold spanV at *
  have c8a := ((Chg.refl No w).alloc (.cells #[.int .i64 (a : Int), .int .i64 (b : Int)] 51)).cell c8 id
  have hfn : ∀ W, (binOp BinOp.eql 34 (Value.func (Fn.func 65) #[.pointer (some ⟨C, 0, none⟩)] #[]) Value.nilFunc).run Tryz.prog W = .ok (.bool false) W := fun _ => rfl
  go_enter Tryz.func40, Tryz.ntmps40
  go_wp2_with fail
  clear c8a
  obtain ⟨w1, hw1⟩ : ∃ w1, w1 = w.alloc (.cells #[.int .i64 (a : Int), .int .i64 (b : Int)] 51) := ⟨_, rfl⟩
  have hC1 : Chg No w w1 := by rw [hw1]; exact (Chg.refl _ _).alloc _
  have hS : Own w1 51 w.heap.size [.int .i64 (a : Int), .int .i64 (b : Int)] [] := by rw [hw1]; exact heap_alloc_new w _
  rw [← hw1]
  have s0 : w1.cell? ⟨w.heap.size, 0, none⟩ = some (.int .i64 (a : Int)) := hS.cell (i := 0) (by simp)
  have s1 : w1.cell? ⟨w.heap.size, 1, none⟩ = some (.int .i64 (b : Int)) := hS.cell (i := 1) (by simp)
  have c0 := hC1.cell c0 id
  have c8 := hC1.cell c8 id
  have HC1 := hid hC1
  clear hw1 hS hC1
  go_region_held3 (fun w' => Chg No w1 w' ∧ w'.cell? ⟨C, 0, none⟩ = some (.int .i64 (k : Int)) ∧ w'.cell? ⟨C, 8, none⟩ = some (.func (Fn.func 65) #[.pointer (some ⟨C, 0, none⟩)] #[]) ∧ w'.cell? ⟨w.heap.size, 0, none⟩ = some (.int .i64 (a : Int)) ∧ w'.cell? ⟨w.heap.size, 1, none⟩ = some (.int .i64 (b : Int)))
    (first
      | exact ⟨(Chg.refl No w1).drew, c0, c8, s0, s1⟩
      | assumption
      | exact ⟨((Chg.refl No w1).drew).trans hC5, hC5.cell c0 id, hC5.cell c8 id, hC5.cell s0 id, hC5.cell s1 id⟩
      | exact ⟨(((Chg.refl No w1).drew).trans hC5).trans hC6, hC6.cell (hC5.cell c0 id) id, hC6.cell (hC5.cell c8 id) id, hC6.cell (hC5.cell s0 id) id, hC6.cell (hC5.cell s1 id) id⟩)
    (first
      | (go_at_call 65; refine (HPAR.out _ _ _ (HC.out.keptNo ((HC1.out.drew).trans hC5)) hL5).mono ?_; rintro e w6 ⟨G, xs, rfl, hR6, hx6, hg6, hb6, hC6⟩)
      | (go_at_call 69; refine (HCUT.out _ _ (HL.out.keptNo (HC1.out.drew))).mono ?_; rintro e w5 ⟨g1, rfl, hL5, hg5, hC5⟩))
  have hC16 : Chg No w w6 := ((HC1.out.drew).trans hC5).trans hC6
  have hw5 : w.heap.size ≤ w5.heap.size := ((HC1.out.drew).trans hC5).size
  go_wp2_with fail
  go_ret
  exact ⟨G, xs, rfl, hR6, hx6, Nat.le_trans hw5 hg6, fun x m => Nat.le_trans hw5 (hb6 x m), hC16⟩
theorem encode_calls (fast : Bool) (HPC : ParC fast) (C k m r W T K n c t a b : Nat) (p : Option Addr) (ls : List (List Nat)) (w : World) (hc : Cd w fast C k m r W T K) (hl : Lr w .u8 p ls) (ht : t = k + m) (hd : Ev t n ls) (hbt : Byt ls)
    (hab : a < b) (hsp : Sp a b n) (htc : t ≤ c) :
    Calls Tryz.prog 40 #[.pointer (some ⟨C, 0, none⟩), .slice p t c, spanV a b] w (ParPost k m (b - a) (cutL a b (ls.take k)) w) := by
  cases fast with
  | false => exact encode_false HPC C k m r W T K n c t a b p ls w hc hl ht hd hbt hab hsp htc
  | true => exact encode_true HPC C k m r W T K n c t a b p ls w hc hl ht hd hbt hab hsp htc
end Go.Proofs.YtpnmmedjamkmeaaGreat

/- The walks of the codec's VerifySpan and Verify. -/
set_option linter.unusedSimpArgs false
set_option linter.unusedVariables false
set_option linter.unusedSimpArgs false
namespace Go.Proofs.YtpnmmedjamkmeaaGreat
open Go.RowKit

/-- Are these rows' parities within the span what the data ask for? -/
def okSpan (k m a b : Nat) (ls : List (List Nat)) : Prop := par k m (b - a) (cutL a b (ls.take k)) = cutL a b (ls.drop k)
instance (k m a b : Nat) (ls : List (List Nat)) : Decidable (okSpan k m a b ls) := by unfold okSpan; infer_instance
theorem par_length (k m n : Nat) (ds : List (List Nat)) : (par k m n ds).length = m := by simp [par]
theorem gl_par (k m n : Nat) (ds : List (List Nat)) (j : Nat) (h : j < m) : gl (par k m n ds) j = parTo m n ds j k := by
  rw [gl_get _ _ (by simpa [par] using h)]; simp [par]
theorem gl_drop (ls : List (List Nat)) (k i : Nat) : gl (ls.drop k) i = gl ls (k + i) := by
  simp only [gl, List.getD_eq_getElem?_getD, List.getElem?_drop]

set_option maxRecDepth 20000 in
set_option maxHeartbeats 3200000 in
theorem VerifySpan_calls (fast : Bool) (HPC : ParC fast) (C k m r W T K n c t a b : Nat) (p : Option Addr) (ls : List (List Nat)) (w : World) (hc : Cd w fast C k m r W T K) (hl : Lr w .u8 p ls) (ht : t = k + m) (hd : Ev t n ls) (hbt : Byt ls)
    (hab : a < b) (hsp : Sp a b n) (htc : t ≤ c) :
    Calls Tryz.prog 26 #[.pointer (some ⟨C, 0, none⟩), .slice p t c, spanV a b] w fun e w' => e = .returned (.tuple #[.bool (decide (okSpan k m a b ls)), .int .i64 0]) ∧ Chg No w w' := by
  have HEN := hid (fun w h1 h2 => encode_calls fast HPC C k m r W T K n c t a b p ls w h1 h2 ht hd hbt hab hsp htc)
  have HWH := hid (fun S w h1 h2 h3 => whole_span C k m r W T K n c t S a b fast p ls w h1 h2 ht hd h3 hsp)
  unfold ParPost at HEN
  have hpar0 := parTo_lt m (b - a) (cutL a b (ls.take k))
  have HC := hid hc
  have HL := hid hl
  have HD := hid hd
  have HB := hid hbt
  have HT := hid ht
  have hn := hd.small
  have hts := hd.tsmall
  obtain ⟨hk1, hm1, hk2, hm2, _⟩ := hc.prm
  have HSP := hid hsp
  have hbn := hsp.bn
  clear hc hl hd hbt hsp
  have HP0 := hid hpar0
  clear hpar0
  have HPL := hid (par_length k m (b - a) (cutL a b (ls.take k)))
  have HGP := hid (gl_par k m (b - a) (cutL a b (ls.take k)))
  have HOK : Hid (okSpan k m a b ls ↔ par k m (b - a) (cutL a b (ls.take k)) = cutL a b (ls.drop k)) := hid Iff.rfl
  have HQL : Hid ((cutL a b (ls.drop k)).length = m) := hid (by rw [cutL, List.length_map, List.length_drop, HD.out.lt]; omega)
  have HGQ : Hid (∀ j, j < m → gl (cutL a b (ls.drop k)) j = ((gl ls (k + j)).drop a).take (b - a)) := hid (fun j hj => by
    rw [gl_cut _ _ _ _ (by rw [List.length_drop, HD.out.lt]; omega), gl_drop])
  have HPT : Hid (∀ j x, gn (parTo m (b - a) (cutL a b (ls.take k)) j k) x < 256) := hid (fun j x => HP0.out j k x)
  have HPLN : Hid (∀ j, (parTo m (b - a) (cutL a b (ls.take k)) j k).length = b - a) := hid (fun j => parTo_length _ _ _ _ _)
  clear HP0 ht
  generalize cutL a b (ls.drop k) = Q at *
  generalize par k m (b - a) (cutL a b (ls.take k)) = P at *
  unfold spanV at *
  go_enter Tryz.func26, Tryz.ntmps26
  go_wp2_with fail
  obtain ⟨w1, hw1⟩ : ∃ w1, w1 = w.alloc (.cells #[.int .i64 (a : Int), .int .i64 (b : Int)] 51) := ⟨_, rfl⟩
  have hC1 : Chg No w w1 := by rw [hw1]; exact (Chg.refl _ _).alloc _
  have hS : Own w1 51 w.heap.size [.int .i64 (a : Int), .int .i64 (b : Int)] [] := by rw [hw1]; exact heap_alloc_new w _
  rw [← hw1]
  have HC1 := hid hC1
  have HS := hid hS
  clear hw1 hS hC1
  refine (HWH.out _ _ (HC.out.keptNo HC1.out) (HL.out.keptNo HC1.out) HS.out).mono ?_
  rintro e w2 ⟨rfl, hC2⟩
  have hC12 := HC1.out.trans hC2
  have hS2 := HS.out.keptNo hC2
  have s0 : w2.cell? ⟨w.heap.size, 0, none⟩ = some (.int .i64 (a : Int)) := hS2.cell (i := 0) (by simp)
  have s1 : w2.cell? ⟨w.heap.size, 1, none⟩ = some (.int .i64 (b : Int)) := hS2.cell (i := 1) (by simp)
  have HC2 := hid hC12
  have HS2 := hid hS2
  clear hC2 hC12 hS2 HS HC1
  go_wp2_with fail
  refine (HEN.out _ (HC.out.keptNo HC2.out) (HL.out.keptNo HC2.out)).mono ?_
  rintro e w3 ⟨G, xs, rfl, hR3, hx3, hg3, hb3, hC3⟩
  have HC3 := hid (HC2.out.trans hC3)
  have HS3 := hid (HS2.out.keptNo hC3)
  have HR3 := hid hR3
  have HX3 := hid hx3
  clear hC3 hR3 hx3 hb3 HS2 HC2 s0 s1 HEN HWH
  go_wp2_with fail
  go_loopw [26] (fun i wr => ∃ j : Nat, j ≤ m ∧ i = .int .i64 (j : Int) ∧ (∀ x, x < j → gl P x = gl Q x) ∧ Chg No w3 wr) (fun i _ => m - (intOf i).toNat)
  case atStart => exact ⟨0, by omega, rfl, fun j h => by omega, Chg.refl _ _⟩
  case round =>
    obtain ⟨j, hj, rfl, hs, hC⟩ := hrel
    obtain ⟨w4, rfl⟩ : ∃ w4 : World, w4 = wr := ⟨_, rfl⟩
    have HSS := hid hs
    have HC4 := hid hC
    clear hs hC
    by_cases hlt : j < m
    · have ht := HT.out
      have hxl : xs.length = m := by
        have := congrArg List.length HX3.out
        rw [List.length_map, HPL.out] at this; exact this
      have hjx : j < xs.length := by omega
      obtain ⟨xj, hxj⟩ : ∃ xj, xj = xs[j]'hjx := ⟨_, rfl⟩
      have hxd : xj.d = gl P j := by
        have := congrArg (fun l => gl l j) HX3.out
        rw [← (show gl (xs.map Pc.d) j = gl P j from this), gl_get _ _ (by simpa using hjx), hxj]; simp
      have hR4 := HR3.out.keptNo HC4.out
      have hcj := hR4.cell (i := j) hjx
      have hin := hR4.inn xs[j] (List.getElem_mem hjx)
      rw [← hxj] at hcj hin
      have hCd := HC.out.keptNo (HC3.out.trans HC4.out)
      have c0 := hCd.c0
      have hS4 := HS3.out.keptNo HC4.out
      have s0 : w4.cell? ⟨w.heap.size, 0, none⟩ = some (.int .i64 (a : Int)) := hS4.cell (i := 0) (by simp)
      have s1 : w4.cell? ⟨w.heap.size, 1, none⟩ = some (.int .i64 (b : Int)) := hS4.cell (i := 1) (by simp)
      obtain ⟨b1, o1, q1, cc, rfl, hc1, hr1, _, hcc⟩ := (HL.out.keptNo (HC3.out.trans HC4.out)) (k + j) (by rw [HD.out.lt]; omega)
      rw [HD.out.ln (k + j) (by omega)] at hc1 hcc
      obtain ⟨qb, qo, rfl, hqc⟩ := hr1.at0 (by rw [HD.out.ln (k + j) (by omega)]; have := HD.out.pos; omega)
      have hrq : Rn w4 .u8 (some ⟨qb, qo + a, none⟩) (gl Q j) := by
        rw [HGQ.out j hlt]
        intro y hy
        have hyb : y < b - a := by rw [List.length_take, List.length_drop] at hy; omega
        refine ⟨qb, qo + a, rfl, ?_⟩
        rw [gn_cut (by omega) (by rw [HD.out.ln (k + j) (by omega)]; omega), Nat.add_assoc]
        exact hqc (a + y) (by rw [HD.out.ln (k + j) (by omega)]; omega)
      have hlq : (gl Q j).length = b - a := by rw [HGQ.out j hlt, List.length_take, List.length_drop, HD.out.ln (k + j) (by omega)]; omega
      have hlp : (gl P j).length = b - a := by rw [HGP.out j hlt]; exact HPLN.out j
      have hrp : Rn w4 .u8 (some ⟨xj.b, 0, none⟩) (gl P j) := by rw [← hxd]; exact hin.rn
      have hvj : xj.v = .slice (some ⟨xj.b, 0, none⟩) (b - a) (b - a + xj.r.length) := by
        rw [Pc.v, hxd, hlp]
      rw [hvj] at hcj
      have HEQ := hid (fun cp cq w h1 h2 => Equal_calls (some ⟨xj.b, 0, none⟩) (some ⟨qb, qo + a, none⟩) (b - a) (b - a) cp cq (gl P j) (gl Q j) w h1 h2 hlp hlq (by omega) (by omega)
        (fun i => by rw [HGP.out j hlt]; exact HPT.out j i) (fun i => by rw [HGQ.out j hlt]; exact gn_take_lt (HB.out (k + j)) _ _ _))
      have HRP := hid hrp
      have HRQ := hid hrq
      have HPQ : Hid (gl P j ≠ gl Q j → decide (okSpan k m a b ls) = false) := hid (by
        intro hne
        rw [decide_eq_false_iff_not, HOK.out]
        intro h; exact hne (by rw [h]))
      generalize xj.b = xb at *
      generalize xj.r.length = xr at *
      clear hxd hxj hjx hR4 hin hCd hS4 hr1 hqc hrq hrp hvj hxl
      have hkj : IntKind.i64.wrap ((k : Int) + (j : Int)) = ((k + j : Nat) : Int) := by rw [IntWalk.i64_in _ (by omega)]; omega
      obtain ⟨kj, hkj2⟩ : ∃ kj, kj = k + j := ⟨_, rfl⟩
      rw [← hkj2] at hkj hc1
      have i0 : (0 : Int) ≤ (kj : Int) := by omega
      have i4 : (kj : Int) < (t : Int) := by omega
      have i1 : (0 : Int) ≤ (a : Int) := by omega
      have i2 : (a : Int) ≤ (b : Int) := by omega
      have i3 : (b : Int) ≤ (cc : Int) := by omega
      clear hkj2 ht
      by_cases hxy : gl P j = gl Q j
      · have hdd : decide (gl P j = gl Q j) = true := by simpa using hxy
        have HXY := hid hxy
        rw [hdd] at HEQ
        clear hxy hdd
        go_wp2_with fail
        go_quiet ((go_at_call 42; exact Calls.quiet_of_same (HEQ.out _ _ _ HRP.out HRQ.out)))
        go_wp2_with fail
        go_roundw
        case rel => exact ⟨j + 1, by omega, by go_num, fun x h => by
          by_cases e : x = j
          · subst e; exact HXY.out
          · exact HSS.out x (by omega), HC4.out.drewN _⟩
        case measure => simp [intOf]; omega
      · have hdd : decide (gl P j = gl Q j) = false := by simpa using hxy
        have HF := hid (HPQ.out hxy)
        rw [hdd] at HEQ
        clear hxy hdd
        go_wp2_with fail
        go_quiet ((go_at_call 42; exact Calls.quiet_of_same (HEQ.out _ _ _ HRP.out HRQ.out)))
        go_wp2_with fail
        go_ret2
        exact ⟨by rw [HF.out]; rfl, (HC3.out.trans HC4.out).drewN _⟩
    · obtain rfl : j = m := by omega
      have HF : Hid (decide (okSpan k j a b ls) = true) := hid (by
        rw [decide_eq_true_iff, HOK.out]
        exact ext_gl (by rw [HPL.out, HQL.out]) fun x hx => HSS.out x (by rw [← HPL.out]; exact hx))
      go_wp2_with fail
      go_ret2
      exact ⟨by rw [HF.out]; rfl, HC3.out.trans HC4.out⟩
theorem Verify_calls (fast : Bool) (HPC : ParC fast) (C k m r W T K n c t : Nat) (p : Option Addr) (ls : List (List Nat)) (w : World) (hc : Cd w fast C k m r W T K) (hl : Lr w .u8 p ls) (ht : t = k + m) (hd : Ev t n ls) (hbt : Byt ls) (htc : t ≤ c) :
    Calls Tryz.prog 22 #[.pointer (some ⟨C, 0, none⟩), .slice p t c] w fun e w' => e = .returned (.tuple #[.bool (decide (okSpan k m 0 n ls)), .int .i64 0]) ∧ Chg No w w' := by
  have HV := hid (fun w h1 h2 => VerifySpan_calls fast HPC C k m r W T K n c t 0 n p ls w h1 h2 ht hd hbt hd.pos ⟨by omega, by omega, by omega, hd.even⟩ htc)
  have HWH := hid (fun w h1 h2 => whole_none C k m r W T K n c t fast p ls w h1 h2 ht hd)
  have HC := hid hc
  have HL := hid hl
  clear hc hl ht hd hbt
  unfold spanV at HV
  go_enter Tryz.func22, Tryz.ntmps22
  go_wp2_with fail
  refine (HWH.out _ HC.out HL.out).mono ?_
  rintro e w2 ⟨rfl, hC2⟩
  have HC2 := hid hC2
  clear hC2
  go_wp2_with fail
  refine (HV.out _ (HC.out.keptNo HC2.out) (HL.out.keptNo HC2.out)).mono ?_
  rintro e w3 ⟨rfl, hC3⟩
  have HC3 := hid (HC2.out.trans hC3)
  clear hC3
  go_wp2_with fail
  go_ret2
  exact ⟨rfl, HC3.out⟩
end Go.Proofs.YtpnmmedjamkmeaaGreat
