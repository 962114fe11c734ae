/- The walk of afft.addTimes. -/
import Derived.Test.YtpnmmedjamkmeaaGreatGivesG8
set_option linter.unusedSimpArgs false
set_option linter.unusedVariables false
set_option linter.unusedSimpArgs false
namespace Go.Proofs.YtpnmmedjamkmeaaGreat
open Go.RowKit

/-- How afft.addTimes, forward and inverse are called: a row that is written, another that is read. -/
structure RowAt (w : World) (g n : Nat) (p : Option Addr) (fd fs : Nat → GF) (rest : List Value) : Prop where
  hn : n ≤ 140737488355328
  ho : Own w 88 g (nv .u16 (rowL n fd)) rest
  hr : Rn w .u16 p (rowL n fs)
  ne : ∀ a, p = some a → a.block ≠ g
/-- While multiples are added: k of them have been. -/
def addTo (c : GF) (fd fs : Nat → GF) (k t : Nat) : GF := if t < k then fd t + c * fs t else fd t
theorem addTo_set (c : GF) (fd fs : Nat → GF) (n k : Nat) (h : k < n) : (rowL n (addTo c fd fs k)).set k (fd k + c * fs k).v = rowL n (addTo c fd fs (k + 1)) := by
  rw [rowL_set _ _ _ _ h]
  refine rowL_congr fun t _ => ?_
  unfold addTo
  by_cases e : t = k
  · subst e; rw [if_pos rfl, if_pos (by omega)]
  · rw [if_neg e]
    by_cases h : t < k
    · rw [if_pos h, if_pos (by omega)]
    · rw [if_neg h, if_neg (by omega)]
theorem addTo_zero (c : GF) (fd fs : Nat → GF) (n : Nat) : rowL n (addTo c fd fs 0) = rowL n fd := rowL_congr fun t _ => if_neg (by omega)
theorem addTo_full (c : GF) (fd fs : Nat → GF) (n : Nat) : rowL n (addTo c fd fs n) = rowL n (fun t => fd t + c * fs t) := rowL_congr fun t h => if_pos h
/-- What adding a multiple leaves. -/
def AddPost (g n : Nat) (f : Nat → GF) (rest : List Value) (w : World) (e : Ending) (w' : World) : Prop :=
  e = .returned (.tuple #[]) ∧ Own w' 88 g (nv .u16 (rowL n f)) rest ∧ Chg (Only g) w w'

set_option maxRecDepth 20000 in
theorem addTimes_none (g n cap1 cap2 : Nat) (p : Option Addr) (fd fs : Nat → GF) (rest : List Value) (w : World) (H : RowAt w g n p fd fs rest) :
    Calls Tryz.prog 149 #[.int .u16 ((0 : Nat) : Int), .slice (some ⟨g, 0, none⟩) n cap1, .slice p n cap2] w (AddPost g n (fun t => fd t + gf 0 * fs t) rest w) := by
  have HO := hid H.ho
  have HF : Hid (rowL n (fun t => fd t + gf 0 * fs t) = rowL n fd) := hid (rowL_congr fun t _ => by rw [gf_zero, GF.zero_mul, GF.add_zero])
  clear H
  go_enter Tryz.func149, Tryz.ntmps149
  go_wp2_with fail
  go_end0
  exact ⟨rfl, by rw [HF.out]; exact HO.out, Chg.refl _ _⟩

set_option maxRecDepth 20000 in
set_option maxHeartbeats 1600000 in
theorem addTimes_few (c g n cap1 cap2 : Nat) (p : Option Addr) (fd fs : Nat → GF) (rest : List Value) (w : World) (hc : c < 65536) (hc0 : c ≠ 0) (hf : n < 16) (H : RowAt w g n p fd fs rest) :
    Calls Tryz.prog 149 #[.int .u16 (c : Int), .slice (some ⟨g, 0, none⟩) n cap1, .slice p n cap2] w (AddPost g n (fun t => fd t + gf c * fs t) rest w) := by
  have H := hid H
  have d0 : ((c : Int) == 0) = false := by rw [beq_eq_false_iff_ne]; omega
  have d1 : decide ((n : Int) < 16) = true := by simp; omega
  have HM := hid (fun x (hx : x < 65536) w => gMul_calls c x hc hx w)
  have HG := hid (fun x (hx : x < 65536) => (gf_mul hc hx).symm)
  clear hc0
  unfold AddPost
  go_enter Tryz.func149, Tryz.ntmps149
  go_wp2_with fail
  go_loopw [22] (fun i wr => ∃ k : Nat, k ≤ n ∧ i = .int .i64 (k : Int) ∧ Own wr 88 g (nv .u16 (rowL n (addTo (gf c) fd fs k))) rest ∧ Chg (Only g) w wr) (fun i _ => n - (intOf i).toNat)
  case atStart => exact ⟨0, by omega, rfl, by rw [addTo_zero]; exact H.out.ho, Chg.refl _ _⟩
  case round =>
    obtain ⟨k, hk, rfl, hO, hC⟩ := hrel
    obtain ⟨w1, rfl⟩ : ∃ w1 : World, w1 = wr := ⟨_, rfl⟩
    by_cases hlt : k < n
    · obtain ⟨bb, off, rfl, c1⟩ := H.out.hr k (by simpa using hlt)
      rw [gn_rowL _ _ _ hlt] at c1
      have hbg : bb ≠ g := H.out.ne _ rfl
      have c1 := hC.cell c1 (by simpa [Only] using hbg)
      have c2 := hO.nat (i := k) (by simpa using hlt)
      rw [gn_rowL _ _ _ hlt] at c2
      have f2 := hO.frozen k
      have hv : (addTo (gf c) fd fs k k) = fd k := if_neg (by omega)
      rw [hv] at c2
      have hx := (fs k).v_lt
      have hy := (fd k).v_lt
      have hmx := gmul_lt hc (fs k).v
      have HS : Hid ((fd k).v ^^^ gmul c (fs k).v = (fd k + gf c * fs k).v) := hid (by rw [GF.v_add, GF.v_mul, gf_v hc])
      have HN := hid (addTo_set (gf c) fd fs n k hlt)
      have HO := hid hO
      have HC := hid hC
      have HMX := hid (fun w => HM.out (fs k).v hx w)
      clear hO hC hv
      generalize (fs k).v = x at *
      generalize (fd k).v = y at *
      have hxor := Go.u16_xor_nat y (gmul c x) hy hmx
      generalize gmul c x = m at *
      go_wp2_with fail
      refine wp_region_still_tail 9 (by kernel_rfl) (by kernel_rfl) ?_
      simp only [List.take_succ_cons, List.take_zero, List.drop_succ_cons, List.drop_zero]
      repeat still_step
      still_call (HMX.out _)
      repeat still_step
      try refine wpStill_nil ?_
      go_wp2_with fail
      rw [HS.out]
      go_roundw
      case rel => exact ⟨k + 1, by omega, by go_num, by rw [← HN.out]; exact (HO.out.setNat (by simpa using hlt) _).drew, (HC.out.setOnly _ _).drew⟩
      case measure => simp [intOf]; omega
    · obtain rfl : k = n := by omega
      rw [addTo_full] at hO
      go_wp2_with fail
      first | go_end0 | refine bodyPost_ret (results_none rfl _ _ _) rfl ?_
      exact ⟨rfl, hO, hC⟩

/-- The first k bits done of a table of sixteen: p = 2^k. -/
theorem u16_shr_nat (x n : Nat) : ((x : Int) / 2 ^ n) = ((x / 2 ^ n : Nat) : Int) := by simp
theorem sixty4 : (List.replicate 64 (Value.int .u16 0)).toArray = (nv .u16 (quart 0 0) ++ []).toArray := by rw [List.append_nil, ← build0]
/-- The table of one factor, held by a local variable. -/
def Q4 (w : World) (g c M : Nat) : Prop := Own w 180 g (nv .u16 (quart c M)) []

set_option maxRecDepth 100000 in
set_option maxHeartbeats 3200000 in
theorem addTimes_many (c g n cap1 cap2 : Nat) (p : Option Addr) (fd fs : Nat → GF) (rest : List Value) (w : World) (hc : c < 65536) (hc0 : c ≠ 0) (hf : ¬ n < 16) (H : RowAt w g n p fd fs rest) :
    Calls Tryz.prog 149 #[.int .u16 (c : Int), .slice (some ⟨g, 0, none⟩) n cap1, .slice p n cap2] w (AddPost g n (fun t => fd t + gf c * fs t) rest w) := by
  have H := hid H
  have d0 : ((c : Int) == 0) = false := by rw [beq_eq_false_iff_ne]; omega
  have d1 : decide ((n : Int) < 16) = false := by simp; omega
  have hm := H.out.hn
  have HM := hid (fun x (hx : x < 65536) w => gMul_calls c x hc hx w)
  have HQ0 := hid (quart_zero c)
  have HSK := hid (quart_skip c)
  have HQN := hid (quart_next c)
  have HQS := hid (fun n p low => @qv_sum c n p low)
  have HQL := hid (qv_lt hc)
  have HML := hid (gmul_lt hc)
  clear hc0 hf
  unfold AddPost
  go_enter Tryz.func149, Tryz.ntmps149
  go_wp2_with fail
  have hQ : Q4 (w.alloc (.cells (List.replicate 64 (Value.int .u16 0)).toArray 180)) w.heap.size c 0 := by
    unfold Q4
    rw [HQ0.out, ← build0]
    have := Own.made w 180 (List.replicate 64 (Value.int .u16 0)) []
    rwa [List.append_nil] at this
  have hC : Chg No w (w.alloc (.cells (List.replicate 64 (Value.int .u16 0)).toArray 180)) := (Chg.refl _ _).alloc _
  generalize hw1 : (w.alloc _ : World) = w1
  have hw2 : w.alloc (.cells (List.replicate 64 (Value.int .u16 0)).toArray 180) = w1 := hw1
  rw [hw2] at hQ hC
  clear hw1 hw2
  go_loopw [37] (fun i wr => ∃ nn : Nat, nn ≤ 4 ∧ i = .int .i64 (nn : Int) ∧ Q4 wr w.heap.size c (16 * nn) ∧ Chg No w wr) (fun i _ => 4 - (intOf i).toNat)
  case atStart => exact ⟨0, by omega, rfl, hQ, hC⟩
  case round =>
    obtain ⟨nn, hn, rfl, hQ1, hC1⟩ := hrel
    clear hQ hC
    obtain ⟨w2, rfl⟩ : ∃ w2 : World, w2 = wr := ⟨_, rfl⟩
    by_cases hn4 : nn < 4
    · have n0 : (0 : Int) ≤ (nn : Int) := by omega
      have n1 : (nn : Int) < 4 := by omega
      unfold Q4 at hQ1
      rw [← HSK.out] at hQ1
      have HQ1 := hid hQ1
      have HC1 := hid hC1
      clear hQ1 hC1
      go_wp2_with fail
      go_loopw [10] (fun b wr => ∃ p : Nat, p ≤ 4 ∧ b = .int .i64 ((2 ^ p : Nat) : Int) ∧ Q4 wr w.heap.size c (16 * nn + 2 ^ p) ∧ Chg No w wr) (fun b _ => 16 - (intOf b).toNat)
      case atStart => exact ⟨0, by omega, rfl, HQ1.out, HC1.out⟩
      case round =>
        obtain ⟨p, hp, rfl, hQ2, hC2⟩ := hrel
        clear HQ1 HC1
        obtain ⟨w3, rfl⟩ : ∃ w3 : World, w3 = wr := ⟨_, rfl⟩
        by_cases hp4 : p < 4
        · have hb8 : 2 ^ p ≤ 2 ^ 3 := Nat.pow_le_pow_right (by omega) (by omega)
          have hb1 : 1 ≤ 2 ^ p := Nat.one_le_two_pow
          have HP1 := hid (show 2 ^ (p + 1) = 2 * 2 ^ p by rw [Nat.pow_succ, Nat.mul_comm])
          have HWB := hid (word_bound (x := 2 ^ p) (n := nn) (by omega) hn4)
          have HS := hid (fun low => HQS.out nn p low hn4 hp4)
          have EW : IntKind.u16.wrap (((2 ^ p : Nat) : Int) * 2 ^ (4 * nn)) = ((2 ^ p * 16 ^ nn : Nat) : Int) := by
            have : (((2 ^ p : Nat) : Int) * 2 ^ (4 * nn)) = ((2 ^ p * 16 ^ nn : Nat) : Int) := by
              rw [show (16 : Nat) ^ nn = 2 ^ (4 * nn) from by rw [Nat.pow_mul]]; simp
            rw [this]
            exact IntWalk.u16_in _ (by have := HWB.out; omega)
          have HEW := hid EW
          clear EW HQS
          generalize 2 ^ p = b at *
          have d1 : decide ((b : Int) < 16) = true := by simp; omega
          have b0 : (0 : Int) ≤ (b : Int) := by omega
          have b9 : (b : Int) ≤ 8 := by omega
          have HQ2 := hid hQ2
          have HC2 := hid hC2
          clear hQ2 hC2
          go_wp2_with fail
          rw [HEW.out]
          refine (HM.out _ HWB.out _).mono ?_
          rintro e w4 ⟨rfl, rfl⟩
          go_wp2_with fail
          go_loopw [52] (fun l wr => ∃ low : Nat, low ≤ b ∧ l = .int .i64 (low : Int) ∧ Q4 wr w.heap.size c (16 * nn + b + low) ∧ Chg No w wr) (fun l _ => b - (intOf l).toNat)
          case atStart => exact ⟨0, by omega, rfl, HQ2.out, HC2.out⟩
          case round =>
            obtain ⟨low, hlw, rfl, hQ3, hC3⟩ := hrel
            obtain ⟨w5, rfl⟩ : ∃ w5 : World, w5 = wr := ⟨_, rfl⟩
            by_cases hlt : low < b
            · have d2 : decide (low < b) = true := by simpa using hlt
              have l0 : (0 : Int) ≤ (low : Int) := by omega
              have l1 : (low : Int) < (b : Int) := by omega
              have HX := hid (HS.out low hlt)
              unfold Q4 at hQ3
              have h1 : 16 * nn + low < 64 := by omega
              have h2 : 16 * nn + b + low < 64 := by omega
              have c1 := hQ3.nat (i := 16 * nn + low) (by simp; omega)
              rw [gn_quart _ _ _ h1, if_pos (by omega), show 16 * nn + low = nn * 16 + low from by omega] at c1
              have c2 := hQ3.nat (i := 16 * nn + b + low) (by simp; omega)
              obtain ⟨sm, hsm⟩ : ∃ sm, sm = b + low := ⟨_, rfl⟩
              rw [show 16 * nn + b + low = nn * 16 + sm from by omega] at c2
              have hf := hQ3.frozen (nn * 16 + sm)
              have l2 : (low : Int) < 16 := by omega
              have EA : IntKind.i64.wrap ((b : Int) + (low : Int)) = (sm : Int) := by rw [IntWalk.i64_in _ (by omega)]; omega
              have l3 : (0 : Int) ≤ (sm : Int) := by omega
              have l4 : (sm : Int) < 16 := by omega
              have HE := hid (show 16 * nn + b + low = nn * 16 + sm from by omega)
              clear hsm
              have HN := hid (HQN.out (16 * nn + b + low) h2)
              have HO := hid hQ3
              have HC3 := hid hC3
              rw [show 16 * nn + low = nn * 16 + low from by omega] at HX
              have hql := HQL.out (nn * 16 + low)
              have hml := HML.out (b * 16 ^ nn)
              clear hQ3 hC3
              generalize gmul c (b * 16 ^ nn) = pr at *
              generalize qv c (nn * 16 + low) = qq at *
              go_wp2_with fail
              go_still_tail 13, (by kernel_rfl)
              go_wp2_with fail
              rw [Go.u16_xor_nat _ _ hml hql]
              go_roundw
              case rel => exact ⟨low + 1, by omega, by go_num, by
                unfold Q4
                rw [show 16 * nn + b + (low + 1) = 16 * nn + b + low + 1 from by omega, ← HN.out, ← HX.out, HE.out]
                have hO := HO.out
                rw [HE.out] at hO
                exact (hO.setNat (by simp; have := HE.out; omega) _).drew, (HC3.out.setCell (p := ⟨w.heap.size, nn * 16 + sm, none⟩) (.inr (Nat.le_refl _)) _).drew⟩
              case measure => simp [intOf]; omega
            · obtain rfl : low = b := by omega
              go_wp2_with fail
              go_roundw
              case rel => exact ⟨p + 1, by omega, by rw [HP1.out]; go_num, by
                rw [HP1.out, show 16 * nn + 2 * low = 16 * nn + low + low from by omega]; exact hQ3, hC3⟩
              case measure => simp [intOf]; omega
        · obtain rfl : p = 4 := by omega
          go_wp2_with fail
          go_roundw
          case rel => exact ⟨nn + 1, by omega, by go_num, by exact hQ2, hC2⟩
          case measure => simp [intOf]; omega
    · have h64 : 16 * nn = 64 := by omega
      rw [h64] at hQ1
      clear h64
      have hgq : g < w.heap.size := H.out.ho.lt
      have HW := hid (fun x hx => @qv_word c x hx)
      have HCF := hid hc
      have HG := hid (gf_v hc)
      obtain ⟨q, hq⟩ : ∃ q, q = w.heap.size := ⟨_, rfl⟩
      rw [← hq] at hQ1 hgq ⊢
      have HQ1 := hid hQ1
      have HC1 := hid hC1
      clear hQ1 hC1 hq HM HQ0 HSK HQN HQS HML
      go_wp2_with fail
      go_loopw [72] (fun i wr => ∃ k : Nat, k ≤ n ∧ i = .int .i64 (k : Int) ∧ Own wr 88 g (nv .u16 (rowL n (addTo (gf c) fd fs k))) rest ∧ Chg (Only g) w2 wr) (fun i _ => n - (intOf i).toNat)
      case atStart => exact ⟨0, by omega, rfl, by rw [addTo_zero]; exact H.out.ho.keptNo HC1.out, Chg.refl _ _⟩
      case round =>
        obtain ⟨k, hk, rfl, hO, hC⟩ := hrel
        obtain ⟨w3, rfl⟩ : ∃ w3 : World, w3 = wr := ⟨_, rfl⟩
        by_cases hlt : k < n
        · obtain ⟨bb, off, rfl, c1⟩ := H.out.hr k (by simpa using hlt)
          rw [gn_rowL _ _ _ hlt] at c1
          have hbg : bb ≠ g := H.out.ne _ rfl
          have c1 := hC.cell (HC1.out.cell c1 id) (by simpa [Only] using hbg)
          have c2 := hO.nat (i := k) (by simpa using hlt)
          rw [gn_rowL _ _ _ hlt] at c2
          have f2 := hO.frozen k
          have hv : (addTo (gf c) fd fs k k) = fd k := if_neg (by omega)
          rw [hv] at c2
          have hx := (fs k).v_lt
          have hy := (fd k).v_lt
          have HS : Hid ((fd k).v ^^^ gmul c (fs k).v = (fd k + gf c * fs k).v) := hid (by rw [GF.v_add, GF.v_mul, HG.out])
          have HN := hid (addTo_set (gf c) fd fs n k hlt)
          have HO := hid hO
          have hQ3 := (show Own w2 _ _ _ _ from HQ1.out).kept hC (by simp [Only]; omega)
          have hqc : ∀ i, i < 64 → w3.cell? ⟨q, i, none⟩ = some (.int .u16 (qv c i : Int)) := fun i hi => by
            have := hQ3.nat (i := i) (by simpa using hi)
            rwa [gn_quart _ _ _ hi, if_pos hi] at this
          have HC := hid hC
          have HX := hid (HW.out (fs k).v hx)
          clear hO hC hv hQ3
          generalize (fs k).v = x at *
          generalize (fd k).v = y at *
          have E0 : bits BinOp.and IntKind.u16 (x : Int) 15 = ((x % 16 : Nat) : Int) := u16_and15 x hx
          have E1 : bits BinOp.and IntKind.u16 ((x : Int) / 16) 15 = ((x / 16 % 16 : Nat) : Int) := u16_and15 (x / 16) (by omega)
          have E2 : bits BinOp.and IntKind.u16 ((x : Int) / 256) 15 = ((x / 256 % 16 : Nat) : Int) := u16_and15 (x / 256) (by omega)
          have E3 : (x : Int) / 4096 = ((x / 4096 : Nat) : Int) := by omega
          obtain ⟨a0, h0⟩ : ∃ a0, x % 16 = a0 := ⟨_, rfl⟩
          obtain ⟨a1, h1⟩ : ∃ a0, x / 16 % 16 = a0 := ⟨_, rfl⟩
          obtain ⟨a2, h2⟩ : ∃ a0, x / 256 % 16 = a0 := ⟨_, rfl⟩
          obtain ⟨a3, h3⟩ : ∃ a0, x / 4096 = a0 := ⟨_, rfl⟩
          rw [h0] at E0 HX
          rw [h1] at E1 HX
          rw [h2] at E2 HX
          rw [h3] at E3 HX
          have t1 := hqc a0 (by omega)
          have t2 := hqc (16 + a1) (by omega)
          have t3 := hqc (32 + a2) (by omega)
          have t4 := hqc (48 + a3) (by omega)
          have q1 := HQL.out a0
          have q2 := HQL.out (16 + a1)
          have q3 := HQL.out (32 + a2)
          have q4 := HQL.out (48 + a3)
          have b0 : (0 : Int) ≤ (a0 : Int) := by omega
          have b0' : (a0 : Int) < 16 := by omega
          have b1 : (0 : Int) ≤ (a1 : Int) := by omega
          have b1' : (a1 : Int) < 16 := by omega
          have b2 : (0 : Int) ≤ (a2 : Int) := by omega
          have b2' : (a2 : Int) < 16 := by omega
          have b3 : (0 : Int) ≤ (a3 : Int) := by omega
          have b3' : (a3 : Int) < 16 := by omega
          clear h0 h1 h2 h3 hqc
          generalize qv c a0 = y0 at *
          generalize qv c (16 + a1) = y1 at *
          generalize qv c (32 + a2) = y2 at *
          generalize qv c (48 + a3) = y3 at *
          have x0 : (0 : Int) ≤ (x : Int) := by omega
          have x1 : (x : Int) < 65536 := by omega
          have X1 := Go.u16_xor_nat _ _ q1 q2
          have X2 := Go.u16_xor_nat _ _ (Nat.xor_lt_two_pow (n := 16) q1 q2) q3
          have X3 := Go.u16_xor_nat _ _ (Nat.xor_lt_two_pow (n := 16) (Nat.xor_lt_two_pow (n := 16) q1 q2) q3) q4
          have X4 := Go.u16_xor_nat y _ hy (Nat.xor_lt_two_pow (n := 16) (Nat.xor_lt_two_pow (n := 16) (Nat.xor_lt_two_pow (n := 16) q1 q2) q3) q4)
          rw [← HX.out] at HS
          go_wp2_with fail
          go_still_tail 31, (by kernel_rfl)
          go_wp2_with fail
          rw [HS.out]
          go_roundw
          case rel => exact ⟨k + 1, by omega, by go_num, by rw [← HN.out]; exact (HO.out.setNat (by simpa using hlt) _).drew, (HC.out.setOnly _ _).drew⟩
          case measure => simp [intOf]; omega
        · obtain rfl : k = n := by omega
          rw [addTo_full] at hO
          go_wp2_with fail
          go_end0
          exact ⟨rfl, hO, (show Chg (Only g) w w2 from HC1.out.no).trans hC⟩
theorem addTimes_calls (c g n cap1 cap2 : Nat) (p : Option Addr) (fd fs : Nat → GF) (rest : List Value) (w : World) (hc : c < 65536) (H : RowAt w g n p fd fs rest) :
    Calls Tryz.prog 149 #[.int .u16 (c : Int), .slice (some ⟨g, 0, none⟩) n cap1, .slice p n cap2] w (AddPost g n (fun t => fd t + gf c * fs t) rest w) := by
  by_cases h0 : c = 0
  · subst h0; exact addTimes_none g n cap1 cap2 p fd fs rest w H
  · by_cases h1 : n < 16
    · exact addTimes_few c g n cap1 cap2 p fd fs rest w hc h0 h1 H
    · exact addTimes_many c g n cap1 cap2 p fd fs rest w hc h0 h1 H
end Go.Proofs.YtpnmmedjamkmeaaGreat
