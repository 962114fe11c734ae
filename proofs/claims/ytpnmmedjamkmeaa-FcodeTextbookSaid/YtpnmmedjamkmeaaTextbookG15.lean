/- The walk of newton. -/
import Derived.StillTailTactics
import Derived.Test.YtpnmmedjamkmeaaTextbookG14
set_option linter.unusedSimpArgs false
set_option linter.unusedVariables false
set_option linter.unusedSimpArgs false
namespace Go.Proofs.Ytpnmmedjamkmeaa
open Go.RowKit

/-- The elements of a list of numbers. -/
def fx (xs : List Nat) : Nat → GF := fun i => gf (gn xs i)
/-- Newton's factors. -/
def fd (xs vs : List Nat) : Nat → GF := fun k => dd (fx xs) (fx vs) k 0
/-- Newton's coefficients. -/
def nwt (xs vs : List Nat) (n : Nat) : List Nat := hN (fx xs) (fd xs vs) n n
def NwtPost (xs vs : List Nat) (n : Nat) (w : World) (e : Ending) (w' : World) : Prop :=
  ∃ q z cap, e = .returned (.slice q z cap) ∧ Trm (nwt xs vs n) z ∧ Rn w' .u16 q ((nwt xs vs n).take z) ∧ Chg No w w'

set_option maxRecDepth 40000 in
set_option maxHeartbeats 6400000 in
theorem newton_calls (R n c d : Nat) (p q : Option Addr) (xs vs : List Nat) (w : World) (hR : Rng w R) (hx : Rn w .u16 p xs) (hv : Rn w .u16 q vs) (hnx : xs.length = n) (hnv : vs.length = n) (h1 : 1 ≤ n) (hm : n ≤ 1024)
    (hxb : ∀ i, gn xs i < 65536) (hvb : ∀ i, gn vs i < 65536) (hdist : ∀ i j, i < n → j < n → i ≠ j → gn xs i ≠ gn xs j) :
    Calls Try.prog 75 #[.pointer (some ⟨R, 0, none⟩), .slice p n c, .slice q n d] w (NwtPost xs vs n w) := by
  obtain ⟨bp, op, rfl, _⟩ := hx 0 (by omega)
  obtain ⟨bq, oq, rfl, _⟩ := hv 0 (by omega)
  have hRlt : R < w.heap.size := hR.lt
  have hpl : ∀ i, i < n → ∀ S : Nat → Prop, ∀ w', Chg S w w' → ¬ S bp → w'.cell? ⟨bp, op + i, none⟩ = some (.int .u16 (gn xs i : Int)) := by
    intro i hi S w' hC hS
    obtain ⟨b2, o2, he, hc⟩ := hx i (by omega)
    obtain ⟨rfl, rfl⟩ : bp = b2 ∧ op = o2 := by simpa using he
    exact hC.cell hc hS
  have hbp : bp < w.heap.size := by
    obtain ⟨b2, o2, he, hc⟩ := hx 0 (by omega)
    obtain ⟨rfl, rfl⟩ : bp = b2 ∧ op = o2 := by simpa using he
    exact World.block_lt_of_cell? _ _ hc
  have HPL := hid hpl
  have HR := hid hR
  have HXB := hid hxb
  have HVA := hid hv.addCell
  have HVL : Hid ((nv .u16 vs).length = n) := hid (by rw [nv_length, hnv])
  have HOW := hid (nilOwns w 32)
  have HD0 := hid (dst_start (fx xs) hnv hvb)
  have HDI := hid hdist
  have HM := hid (fun a b ha hb w => gMul_calls a b ha hb w)
  have HI := hid (fun a ha h0 w => gInv_calls a ha h0 w)
  have HDS := hid (fun k y h1 h2 => dat_step (xs := xs) hxb (fx vs) k y h1 h2)
  clear hpl hR hx hv hnx hnv hxb hvb hdist
  go_enter Try.func75, Try.ntmps75
  go_wp2_with (at_builtin; (with_reducible refine wpList_app HOW.out ⟨bq, oq, none⟩ (nv .u16 vs) ?_ (.int .u16 0) n d 2 ?_ ?_ ?_ ?_ ?_ ?_ ?_ ?_ ?_ ?_); exact HVA.out; exact ⟨rfl, rfl⟩; exact HVL.out; exact Try.underlying24; kernel_rfl; rfl; exact nv_one; (unfold maxLen; omega); omega; exact Nat.le_refl _; intro v1 w1 hO1 hg1)
  rcases own_of_ownsRow hO1 with ⟨_, h0, _⟩ | ⟨g, cap, rest, hv1, hgb, hOg, hlg, hcg, hmg⟩
  · exact absurd h0 (by omega)
  subst hv1
  rw [List.nil_append] at hOg
  rw [Nat.zero_add] at hcg
  simp only [Nat.zero_add]
  have hC1 : Chg No w w1 := (Chg.refl No w).grown hg1 (fun k hk => by simp [Value.ownBlock] at hk)
  have hOg : Own w1 32 g (nv .u16 (dst (fx xs) (fx vs) n 1 n)) rest := by
    have e : dst (fx xs) (fx vs) n 1 n = vs := HD0.out
    rw [e]; exact hOg
  have HOg := hid hOg
  have HC1 := hid hC1
  have hpg : bp ≠ g := by omega
  have hRg : R ≠ g := by omega
  clear hO1 hg1 hlg hmg hOg hC1 HVA HVL HOW HD0
  go_wp2_with fail
  go_loopw [9] (fun i wr => ∃ k : Nat, 1 ≤ k ∧ k ≤ n ∧ i = .int .i64 (k : Int) ∧ Own wr 32 g (nv .u16 (dst (fx xs) (fx vs) n k n)) rest ∧ Chg (Only g) w1 wr) (fun i _ => n - (intOf i).toNat)
  case atStart => exact ⟨1, by omega, h1, rfl, HOg.out, Chg.refl _ _⟩
  case round =>
    clear HOg
    obtain ⟨k, hk1, hkn, rfl, hO, hC⟩ := hrel
    obtain ⟨w2, rfl⟩ : ∃ w2 : World, w2 = wr := ⟨_, rfl⟩
    have HO := hid hO
    have HC := hid hC
    clear hO hC
    by_cases hlt : k < n
    · as_aux_lemma =>
      go_wp2_with fail
      go_loopw [10] (fun i wr => ∃ t : Nat, k ≤ t ∧ t ≤ n ∧ i = .int .i64 ((t : Int) - 1) ∧ Own wr 32 g (nv .u16 (dst (fx xs) (fx vs) n k t)) rest ∧ Chg (Only g) w1 wr) (fun i _ => (intOf i + 1).toNat)
      case atStart => exact ⟨n, by omega, Nat.le_refl _, rfl, HO.out, HC.out⟩
      case round =>
        clear HO HC
        obtain ⟨t, htk, htn, rfl, hO, hC⟩ := hrel
        obtain ⟨w3, rfl⟩ : ∃ w3 : World, w3 = wr := ⟨_, rfl⟩
        have HO := hid hO
        have HC := hid hC
        clear hO hC
        by_cases ht : k < t
        · as_aux_lemma =>
          obtain ⟨y, rfl⟩ : ∃ y, t = y + 1 := ⟨t - 1, by omega⟩
          rw [show (((y + 1 : Nat) : Int) - 1) = (y : Int) from by omega]
          obtain ⟨y1, hy1⟩ : ∃ y1, y = y1 + 1 := ⟨y - 1, by omega⟩
          obtain ⟨u, hu⟩ : ∃ u, y = k + u := ⟨y - k, by omega⟩
          have hCW : Chg (Only g) w w3 := (HC1.out.no).trans HC.out
          have r0 := (HR.out.kept hCW hRg).c0
          have r1 := (HR.out.kept hCW hRg).c1
          have p0 := HPL.out y (by omega) _ w3 hCW hpg
          have p1 := HPL.out u (by omega) _ w3 hCW hpg
          have d0 := HO.out.nat (i := y) (by rw [dst_length]; omega)
          have d1 := HO.out.nat (i := y1) (by rw [dst_length]; omega)
          have f0 := HO.out.frozen y
          have hset := HO.out.setNat (i := y) (by rw [dst_length]; omega) (dat (fx xs) (fx vs) k y)
          rw [dst_set _ _ _ _ _ (by omega)] at hset
          rw [gn_dst_y _ _ _ _ _ (by omega)] at d0
          have e1 : gn (dst (fx xs) (fx vs) n k (y + 1)) y1 = dat (fx xs) (fx vs) (k - 1) y1 := by
            have := gn_dst_p (fx xs) (fx vs) n k y (by omega)
            rwa [show y - 1 = y1 from by omega] at this
          rw [e1] at d1
          have hds := HDS.out k y hk1 (by omega)
          rw [show y - 1 = y1 from by omega, show y - k = u from by omega] at hds
          have hne := HDI.out y u (by omega) (by omega) (by omega)
          have b1 := HXB.out y
          have b2 := HXB.out u
          have b3 := dat_lt (fx xs) (fx vs) (k - 1) y
          have b4 := dat_lt (fx xs) (fx vs) (k - 1) y1
          obtain ⟨dn, hdn⟩ : ∃ dn, dn = dat (fx xs) (fx vs) k y := ⟨_, rfl⟩
          have hds2 : gmul (dat (fx xs) (fx vs) (k - 1) y ^^^ dat (fx xs) (fx vs) (k - 1) y1) (ginv (gn xs y ^^^ gn xs u)) = dn := by rw [hdn]; exact hds
          rw [← hdn] at hset
          have HSET := hid hset
          clear hset hds hdn e1
          generalize gn xs y = a at *
          generalize gn xs u = b at *
          generalize dat (fx xs) (fx vs) (k - 1) y = a2 at *
          generalize dat (fx xs) (fx vs) (k - 1) y1 = b2' at *
          have hs0 : a ^^^ b ≠ 0 := fun e => hne (by
            have : a ^^^ b ^^^ b = b := by rw [e, Nat.zero_xor]
            rwa [Nat.xor_assoc, Nat.xor_self, Nat.xor_zero] at this)
          have hs1 : a ^^^ b < 65536 := xor_lt16 b1 b2
          have hs2 : a2 ^^^ b2' < 65536 := xor_lt16 b3 b4
          have ex1 := Go.u16_xor_nat a b b1 b2
          have ex2 := Go.u16_xor_nat a2 b2' b3 b4
          obtain ⟨s, hs⟩ : ∃ s, s = a ^^^ b := ⟨_, rfl⟩
          obtain ⟨s2, hs2'⟩ : ∃ s, s = a2 ^^^ b2' := ⟨_, rfl⟩
          rw [← hs] at hs0 hs1 ex1 hds2
          rw [← hs2'] at hs2 ex2 hds2
          have HS0 := hid hs0
          have HS1 := hid hs1
          have HS2 := hid hs2
          have HDN := hid hds2
          have HNE := hid hne
          have HCW := hid hCW
          have n1 : (k : Int) ≤ (y : Int) := by omega
          have n2 : (y : Int) < 1024 := by omega
          have n3 : (0 : Int) ≤ (y : Int) := by omega
          have n4 : (u : Int) < (n : Int) := by omega
          have n5 : (y1 : Int) < (n : Int) := by omega
          have n6 : (y : Int) < (n : Int) := by omega
          have n7 : y < n + rest.length := by omega
          have n8 : y1 < n := by omega
          have n9 : u < n := by omega
          have n10 : y < n := by omega
          have w1' : IntKind.i64.wrap ((y : Int) - (k : Int)) = (u : Int) := by rw [IntWalk.i64_in _ (by omega)]; omega
          have w2' : IntKind.i64.wrap ((y : Int) - 1) = (y1 : Int) := by rw [IntWalk.i64_in _ (by omega)]; omega
          have hy1' := hid hy1
          have hu' := hid hu
          clear hs hs2' hs0 hs1 hs2 hds2 hne hCW hy1 hu
          go_wp2_with fail
          go_quiet ((go_at_call 73; exact Calls.quiet_of_same (HI.out _ HS1.out HS0.out _)))
          obtain ⟨w4, hw4⟩ : ∃ w4, w4 = w3.drewN nq := ⟨_, rfl⟩
          rw [← hw4]
          have hC4 : Chg No w3 w4 := by rw [hw4]; exact (Chg.refl _ _).drewN _
          have r0 := hC4.cell r0 id
          have d0 := hC4.cell d0 id
          have d1 := hC4.cell d1 id
          have f0 : w4.frozen? ⟨g, y, none⟩ = false := by rw [hw4]; exact f0
          have HSET : Hid (Own (w4.setCell ⟨g, y, none⟩ (.int .u16 (dn : Int))) 32 g (nv .u16 (dst (fx xs) (fx vs) n k y)) rest) := hid (by rw [hw4]; exact HSET.out)
          have HC4 := hid (HC.out.trans hC4.no)
          clear hw4 hC4
          go_wp2_with fail
          go_still_tail 19, (by kernel_rfl)
          still_call (HM.out _ _ HS2.out (ginv_lt _) _)
          repeat still_step
          refine wpStill_nil ?_
          rw [HDN.out]
          go_wp2_with fail
          go_roundw
          case rel => exact ⟨y, by omega, by omega, congrArg (Value.int .i64) (by have := hy1'.out; omega), HSET.out.drew, (HC4.out.setOnly _ _).drew⟩
          case measure => have := hy1'.out; simp [intOf]; omega
        · as_aux_lemma =>
          obtain rfl : t = k := by omega
          have d1 : decide ((t : Int) ≤ (t : Int) - 1) = false := by simp only [decide_eq_false_iff_not]; omega
          have hO2 := HO.out
          rw [dst_next] at hO2
          have HO2 := hid hO2
          clear hO2
          go_wp2_with fail
          go_roundw
          case rel => exact ⟨t + 1, by omega, by omega, by go_num, HO2.out, HC.out⟩
          case measure => simp [intOf]; omega
    · obtain rfl : k = n := by omega
      have hdl : ∀ j, j < k → w2.cell? ⟨g, j, none⟩ = some (.int .u16 ((fd xs vs j).v : Int)) := by
        intro j hj
        have h := HO.out.nat (i := j) (by rw [dst_length]; exact hj)
        rw [gn_dst _ _ _ _ _ _ hj, if_neg (by omega), dat_last _ _ _ _ hj] at h
        exact h
      have HDL := hid hdl
      have hgl : g < w2.heap.size := HO.out.lt
      have HCW : Hid (Chg (Only g) w w2) := hid ((HC1.out.no).trans HC.out)
      have HCN : Hid (Chg No w w2) := hid (HC1.out.trans' HC.out fun i hi e => by simp only [Only] at e; omega)
      have hRl2 : R < w2.heap.size := Nat.lt_of_lt_of_le hRlt HCN.out.size
      have hpl2 : bp < w2.heap.size := Nat.lt_of_lt_of_le hbp HCN.out.size
      clear hdl HO HC HDS HI HDI HC1
      go_wp2_with (at_make; go_must ((with_reducible refine wpList_mk1 32 (.int .u16 0) 2 0 k ?_ ?_ ?_ ?_ ?_ ?_ ?_ ?_); exact ⟨rfl, rfl⟩; exact Try.underlying24; kernel_rfl; rfl; omega; omega; (unfold maxLen; omega); intro w4 hO4 hC4 hs4))
      have hO4' : Own w4 32 w2.heap.size (nv .u16 (hN (fx xs) (fd xs vs) k 0)) (List.replicate (k - 0) (.int .u16 0)) := hO4
      obtain ⟨gp, hgp⟩ : ∃ gp, gp = w2.heap.size := ⟨_, rfl⟩
      rw [← hgp] at hO4' ⊢
      have HO4 := hid hO4'
      have HC4 := hid hC4
      have hggp : g ≠ gp := by omega
      have hRgp : R ≠ gp := by omega
      have hpgp : bp ≠ gp := by omega
      have hgpw : w.heap.size ≤ gp := by have := HCN.out.size; omega
      have HGP : Hid (w2.heap.size ≤ gp) := hid (by omega)
      clear hO4 hO4' hC4 hs4 hgp
      go_loopw [13, 14] (fun v i wr => ∃ s z : Nat, s + z = k ∧ i = .int .i64 ((z : Int) - 1) ∧ v = .slice (some ⟨gp, 0, none⟩) s k ∧ Own wr 32 gp (nv .u16 (hN (fx xs) (fd xs vs) k s)) (List.replicate (k - s) (.int .u16 0)) ∧ Chg (Only gp) w4 wr) (fun _ i _ => (intOf i + 1).toNat)
      case atStart => exact ⟨0, k, by omega, rfl, rfl, HO4.out, Chg.refl _ _⟩
      case round =>
        clear HO4
        obtain ⟨s, z, hsz, rfl, rfl, hO, hC⟩ := hrel
        obtain ⟨w5, rfl⟩ : ∃ w5 : World, w5 = wr := ⟨_, rfl⟩
        have HO := hid hO
        have HC := hid hC
        have HSZ := hid hsz
        clear hO hC
        cases z with
        | zero =>
          as_aux_lemma =>
          obtain rfl : s = k := by omega
          rw [show (((0 : Nat) : Int) - 1) = -1 from rfl]
          have HCP := hid (copied_calls (some ⟨gp, 0, none⟩) s s (nwt xs vs s) w5 HO.out.rn (hN_length _ _ _ _) (by omega) (Nat.le_refl _))
          unfold CopPost at HCP
          have HCE : Hid (Chg No w w5) := hid ((HCN.out.trans HC4.out).trans' HC.out fun i hi e => by simp only [Only] at e; omega)
          clear hsz
          go_wp2_with fail
          refine HCP.out.mono ?_
          rintro e w6 ⟨q, z, cap, rfl, hT, hRn, hC6⟩
          go_wp2_with fail
          go_ret
          exact ⟨q, z, cap, rfl, hT, hRn, HCE.out.trans hC6⟩
        | succ y =>
          as_aux_lemma =>
          rw [show (((y + 1 : Nat) : Int) - 1) = (y : Int) from by omega]
          have hsk : s < k := by have := HSZ.out; omega
          have hsk1 : (s : Int) < 1024 := by omega
          have hsk0 : (0 : Int) ≤ (s : Int) := by omega
          have hks : k - s = (k - s - 1) + 1 := by omega
          have hO5 := HO.out
          rw [hks, List.replicate_succ] at hO5
          have HO5 := hid hO5
          have hyk : k - 1 - s = y := by omega
          have HYK := hid hyk
          clear hO5 hks hyk hsz
          go_wp2_with (at_builtin; go_must ((with_reducible refine wpList_appRoom (HO5.out.alloc (.cells #[.int .u16 0] 32)) ⟨w5.heap.size, 0, none⟩ [.int .u16 0] ?_ s k 1 1 ?_ ?_ ?_ ?_ ?_ ?_ ?_ ?_ ?_); exact (Own.lit1 w5 32 (.int .u16 0)).addCell; exact ⟨rfl, rfl⟩; (rw [nv_length, hN_length]); rfl; (have := HSZ.out; simp; omega); (simp); exact Try.underlying24; kernel_rfl; (intro u hu; simp at hu; subst hu; rfl); intro w6 hO6 hC6))
          have hO6' : Own w6 32 gp (nv .u16 (hst (fx xs) (fd xs vs) k s (s + 1))) (List.replicate (k - s - 1) (.int .u16 0)) := by
            rw [hst_start, nv_append]
            simpa [nv] using hO6
          have hC6' : Chg (Only gp) w4 w6 := HC.out.allocOnly (.inl rfl) hC6
          have HO6 := hid hO6'
          have HC6 := hid hC6'
          clear hO6 hC6 hO6' hC6' HO5 HO HC
          go_wp2_with fail
          go_loopw [15] (fun i wr => ∃ t : Nat, 1 ≤ t ∧ t ≤ s + 1 ∧ i = .int .i64 ((t : Int) - 1) ∧ Own wr 32 gp (nv .u16 (hst (fx xs) (fd xs vs) k s t)) (List.replicate (k - s - 1) (.int .u16 0)) ∧ Chg (Only gp) w4 wr) (fun i _ => (intOf i).toNat)
          case atStart => exact ⟨s + 1, by omega, Nat.le_refl _, by go_num, HO6.out, HC6.out⟩
          case round =>
            clear HO6 HC6
            obtain ⟨t, ht1, hts, rfl, hO, hC⟩ := hrel
            obtain ⟨w7, rfl⟩ : ∃ w7 : World, w7 = wr := ⟨_, rfl⟩
            have HO := hid hO
            have HC := hid hC
            have hCA : Chg (fun i => i = g ∨ i = gp) w w7 := ((HCW.out.mono fun _ _ e => .inl e).trans (HC4.out.no)).trans (hC.mono fun _ _ e => .inr e)
            have hCB : Chg (Only gp) w2 w7 := (HC4.out.no).trans hC
            have r0 := (HR.out.kept hCA (fun e => by rcases e with e | e <;> omega)).c0
            have p0 := HPL.out y (by have := HSZ.out; omega) _ w7 hCA (fun e => by rcases e with e | e <;> omega)
            have d0 := hCB.cell (HDL.out y (by have := HSZ.out; omega)) (fun e => by simp only [Only] at e; omega)
            have HCA := hid hCA
            clear hO hC hCA hCB
            by_cases htg : 1 < t
            · as_aux_lemma =>
              obtain ⟨j, rfl⟩ : ∃ j, t = j + 1 := ⟨t - 1, by omega⟩
              rw [show (((j + 1 : Nat) : Int) - 1) = (j : Int) from by omega]
              obtain ⟨j1, hj1⟩ : ∃ j1, j = j1 + 1 := ⟨j - 1, by omega⟩
              have o0 := HO.out.nat (i := j) (by rw [hst_length]; omega)
              have o1 := HO.out.nat (i := j1) (by rw [hst_length]; omega)
              have f0 := HO.out.frozen j
              have hset := HO.out.setNat (i := j) (by rw [hst_length]; omega) (gn (hN (fx xs) (fd xs vs) k (s + 1)) j)
              rw [hst_set _ _ _ _ _ (by omega)] at hset
              rw [gn_hst_y _ _ _ _ _ (by omega)] at o0
              have e1 : gn (hst (fx xs) (fd xs vs) k s (j + 1)) j1 = gn (hN (fx xs) (fd xs vs) k s) j1 := by
                have := gn_hst_p (fx xs) (fd xs vs) k s j (by omega)
                rwa [show j - 1 = j1 from by omega] at this
              rw [e1] at o1
              have hnw := gn_hN (fx xs) (fd xs vs) k s j
              rw [HYK.out, if_neg (by omega), show j - 1 = j1 from by omega, show (fx xs y).v = gn xs y from gf_v (HXB.out y)] at hnw
              have b1 := HXB.out y
              have b2 := hN_lt (fx xs) (fd xs vs) k s j
              have b3 := hN_lt (fx xs) (fd xs vs) k s j1
              have HSET := hid hset
              clear hset e1
              generalize gn xs y = a at *
              generalize gn (hN (fx xs) (fd xs vs) k s) j = c2 at *
              generalize gn (hN (fx xs) (fd xs vs) k s) j1 = c1 at *
              generalize gn (hN (fx xs) (fd xs vs) k (s + 1)) j = nw at *
              have hgl2 := gmul_lt b2 a
              have ex1 := Go.u16_xor_nat c1 (gmul c2 a) b3 hgl2
              rw [Nat.xor_comm, ← hnw] at ex1
              have w1' : IntKind.i64.wrap ((j : Int) - 1) = (j1 : Int) := by rw [IntWalk.i64_in _ (by omega)]; omega
              have HJ1 := hid hj1
              have n1 : (0 : Int) < (j : Int) := by omega
              have n2 : (j : Int) < 1024 := by omega
              have n3 : j < s + 1 := by omega
              have n6 : (j : Int) < (s : Int) + 1 := by omega
              have n7 : (j1 : Int) < (s : Int) + 1 := by omega
              have n4 : j1 < s + 1 := by omega
              have n5 : y < k := by have := HSZ.out; omega
              clear hnw hj1 hgl2 d0
              go_wp2_with fail
              go_still_tail 22, (by kernel_rfl)
              still_call (HM.out _ _ b2 b1 _)
              repeat still_step
              refine wpStill_nil ?_
              go_wp2_with fail
              go_roundw
              case rel => exact ⟨j, by omega, by omega, congrArg (Value.int .i64) (by have := HJ1.out; omega), HSET.out.drew, (HC.out.setOnly _ _).drew⟩
              case measure => have := HJ1.out; simp [intOf]; omega
            · as_aux_lemma =>
              obtain rfl : t = 1 := by omega
              rw [show (((1 : Nat) : Int) - 1) = 0 from rfl]
              have o0 := HO.out.nat (i := 0) (by rw [hst_length]; omega)
              have f0 := HO.out.frozen 0
              have hset := HO.out.setNat (i := 0) (by rw [hst_length]; omega) (gn (hN (fx xs) (fd xs vs) k (s + 1)) 0)
              have e0 := hst_set (fx xs) (fd xs vs) k s 0 (by omega)
              rw [Nat.zero_add] at e0
              rw [e0, hst_last] at hset
              have e1 := gn_hst_y (fx xs) (fd xs vs) k s 0 (by omega)
              rw [Nat.zero_add] at e1
              rw [e1] at o0
              have hnw := gn_hN (fx xs) (fd xs vs) k s 0
              rw [HYK.out, if_pos rfl, show (fx xs y).v = gn xs y from gf_v (HXB.out y)] at hnw
              have b1 := HXB.out y
              have b2 := hN_lt (fx xs) (fd xs vs) k s 0
              have b3 := GF.v_lt (fd xs vs y)
              have HSET := hid hset
              clear hset e1 e0
              generalize gn xs y = a at *
              generalize (fd xs vs y).v = dv at *
              generalize gn (hN (fx xs) (fd xs vs) k s) 0 = c2 at *
              generalize gn (hN (fx xs) (fd xs vs) k (s + 1)) 0 = nw at *
              have hgl2 := gmul_lt b2 a
              have ex1 := Go.u16_xor_nat (gmul c2 a) dv hgl2 b3
              rw [← hnw] at ex1
              have n3 : 0 < s + 1 := by omega
              have n7 : (0 : Int) < (s : Int) + 1 := by omega
              have n5 : y < k := by have := HSZ.out; omega
              have n6 : y < k + rest.length := by have := HSZ.out; omega
              clear hnw hgl2
              go_wp2_with fail
              go_still_tail 19, (by kernel_rfl)
              still_call (HM.out _ _ b2 b1 _)
              repeat still_step
              refine wpStill_nil ?_
              go_wp2_with fail
              go_roundw
              case rel => exact ⟨s + 1, y, by have := HSZ.out; omega, by go_num, rfl, HSET.out.drew, (HC.out.setOnly _ _).drew⟩
              case measure => simp [intOf]
end Go.Proofs.Ytpnmmedjamkmeaa
