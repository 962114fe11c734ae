/- The walk of fcode's fastParity. -/
import Derived.Test.YtpnmmedjamkmeaaGreatGivesG10
import Derived.Test.YtpnmmedjamkmeaaGreatGivesG6
import Derived.Test.YtpnmmedjamkmeaaGreatGivesG7
set_option linter.unusedSimpArgs false
set_option linter.unusedVariables false
set_option linter.unusedSimpArgs false
namespace Go.Proofs.YtpnmmedjamkmeaaGreat
open Go.RowKit

/-- A row is laid anew, in a block of its own. -/
theorem Mx.put {w : World} {G n c : Nat} {bs : Nat → Nat} {rs : Nat → List Value} {F : Nat → Nat → GF} {r0 : List Value} (h : Mx w G n c bs rs F r0) {i : Nat} (hi : i < n) {b : Nat} {f : Nat → GF} {r : List Value}
    (ho : Own w 88 b (nv .u16 (rowL c f)) r) (hb : ∀ j, j < n → bs j ≠ b) (hG : b ≠ G) :
    Mx (w.setCell ⟨G, i, none⟩ (.slice (some ⟨b, 0, none⟩) c (c + r.length))) G n c (fun q => if q = i then b else bs q) (fun q => if q = i then r else rs q) (fun t q => if q = i then f t else F t q) r0 := by
  have hv : (rowsF (fun q => if q = i then b else bs q) (fun q => if q = i then r else rs q) n c (fun t q => if q = i then f t else F t q)).map Pc.v = ((rowsF bs rs n c F).map Pc.v).set i (.slice (some ⟨b, 0, none⟩) c (c + r.length)) := by
    apply List.ext_getElem (by simp)
    intro q h1 h2
    simp only [List.length_map, rowsF_length] at h1
    rw [List.getElem_map, List.getElem_set, rowsF_get _ _ _ _ _ _ h1, List.getElem_map, rowsF_get _ _ _ _ _ _ h1]
    by_cases e : q = i
    · subst e; simp [Pc.v]
    · rw [if_neg (fun e2 : i = q => e e2.symm)]; simp only [Pc.v, e, if_false, rowL_length]
  have hcl := h.len (by omega)
  refine ⟨?_, ?_, ?_, ?_, ?_⟩
  · rw [hv]; exact (Rws.out h).set (by simpa using hi) _
  · intro x hx
    obtain ⟨q, hq, rfl⟩ := rowsF_mem hx
    by_cases e : q = i
    · subst e; simp only [if_true]; exact ho.setOther hG _
    · simp only [e, if_false]; exact (h.row hq).setOther (h.neG hq) _
  · rw [show (rowsF (fun q => if q = i then b else bs q) (fun q => if q = i then r else rs q) n c (fun t q => if q = i then f t else F t q)).map Pc.b = (List.range n).map (fun q => if q = i then b else bs q) from by simp [rowsF]]
    rw [List.nodup_iff_pairwise_ne, List.pairwise_map]
    refine List.Pairwise.imp_of_mem (R := fun a b => a ≠ b) (fun {x y} hx hy hxy => ?_) (List.nodup_iff_pairwise_ne.1 List.nodup_range)
    have hx := List.mem_range.1 hx
    have hy := List.mem_range.1 hy
    by_cases e1 : x = i
    · rw [if_pos e1, if_neg (fun e2 => hxy (e1.trans e2.symm))]; exact fun e => hb y hy e.symm
    · rw [if_neg e1]
      by_cases e2 : y = i
      · rw [if_pos e2]; exact hb x hx
      · rw [if_neg e2]; exact h.ne hx hy hxy
  · intro x hx
    obtain ⟨q, hq, rfl⟩ := rowsF_mem hx
    by_cases e : q = i
    · subst e; simp only [if_true]; exact hG
    · simp only [e, if_false]; exact h.neG hq
  · intro x hx
    obtain ⟨q, hq, rfl⟩ := rowsF_mem hx
    simpa using hcl

/-- What the sum holds behind q blocks. -/
def sumF (k m : Nat) (ds : List (List Nat)) (q t i : Nat) : GF := sm q (fun q => IT (p2 m + q * p2 m) (mu m) (blk k (p2 m) ds q t) i)
theorem fast_bytes {k m n v j : Nat} {ds : List (List Nat)} (h : prm k (m : Int)) (hj : j < m) (hd : Ds k n ds) (hv : n = 2 * v) :
    byTo (fun t => FT 0 (mu m) (fun i => sumF k m ds (nblk k (p2 m)) t i) j) v = parTo m n ds j k :=
  byTo_of (by rw [parTo_length, hv]) (parTo_lt m n ds j k) fun t ht => by
    rw [we_parTo hd.even hd.lb j t (by omega)]
    exact (fast_sum h hj ds t).symm
theorem block_next {k m q i : Nat} {ds : List (List Nat)} (t : Nat) : sumF k m ds q t i + IT (p2 m + q * p2 m) (mu m) (blk k (p2 m) ds q t) i = sumF k m ds (q + 1) t i := rfl
theorem block_in {k m q : Nat} (h : prm k (m : Int)) (hq : q * p2 m < k) : p2 m + q * p2 m + p2 m ≤ 65536 ∧ (p2 m + q * p2 m) % p2 m = 0 := by
  obtain ⟨h1, h2, h3, h4, h5⟩ := h
  rw [Int.toNat_natCast] at h5
  have hM := p2_pos m
  refine ⟨?_, by rw [Nat.add_comm, Nat.add_mod_right]; exact Nat.mul_mod_left _ _⟩
  have e : 65536 = 2 ^ (16 - mu m) * p2 m := by
    unfold p2
    rw [← Nat.pow_add]
    have := mu_le16 (m := m) (by omega)
    rw [show 16 - mu m + mu m = 16 from by omega]
  have h6 : q + 1 < 2 ^ (16 - mu m) := by
    have : (q + 1) * p2 m < 2 ^ (16 - mu m) * p2 m := by rw [← e, Nat.add_mul, Nat.one_mul]; omega
    exact Nat.lt_of_mul_lt_mul_right this
  have h7 : (q + 2) * p2 m ≤ 2 ^ (16 - mu m) * p2 m := Nat.mul_le_mul_right _ h6
  rw [← e, Nat.add_mul] at h7
  omega

set_option maxRecDepth 100000 in
set_option maxHeartbeats 6400000 in
theorem fastParity_calls (C k m r W T K n c : Nat) (fast : Bool) (p : Option Addr) (ds : List (List Nat)) (w : World) (hc : Cd w fast C k m r W T K) (hd : Ds k n ds) (hl : Lr w .u8 p ds) :
    Calls Tryz.prog 65 #[.pointer (some ⟨C, 0, none⟩), .slice p k c] w (ParPost k m n ds w) := by
  obtain ⟨v, hv⟩ : ∃ v, n = 2 * v := ⟨n / 2, by have := hd.even; omega⟩
  have HC := hid hc
  have HD := hid hd
  have HL := hid hl
  have hp := hc.prm
  have HFB := hid (fun j (hj : j < m) => fast_bytes hp hj hd hv)
  have HBI := hid (fun q (hq : q * p2 m < k) => block_in hp hq)
  have HNB := hid (fun q => @nblk_iff k (p2 m) q (p2_pos m))
  have HNX := hid (fun q t i => @block_next k m q i ds t)
  have HMP := hid (le_p2 m)
  obtain ⟨hk1, hm1, hk2, hm2, hk3⟩ := hp
  rw [Int.toNat_natCast] at hk3
  have hM1 := p2_pos m
  have HU : Hid (p2 m = 2 ^ mu m) := hid rfl
  have hu16 : mu m ≤ 16 := mu_le16 (by omega)
  have c2 := hc.c2
  obtain ⟨b0, o0, q0, cc0, rfl, hd0, _, _⟩ := hl 0 (by rw [hd.lk]; omega)
  rw [hd.ln 0 (by omega), Nat.add_zero] at hd0
  have hn4 := hd.small
  have HBK : Hid (∀ q t i, blk k (p2 m) ds q t i = if q * p2 m + i < k then we (gl ds (q * p2 m + i)) t else 0) := hid (fun _ _ _ => rfl)
  have HSZ : Hid (∀ t i, sumF k m ds 0 t i = 0) := hid (fun _ _ => rfl)
  obtain ⟨NB, hNB⟩ : ∃ NB, NB = nblk k (p2 m) := ⟨_, rfl⟩
  have hd2 : Hid (∀ i, i < k → (gl ds i).length = 2 * v) := hid (fun i hi => by rw [hd.ln i hi, hv])
  rw [← hNB] at HFB HNB
  have HITC := hid (fun (s : Nat) (f g : Nat → GF) (h : ∀ i, i < 2 ^ mu m → f i = g i) (i : Nat) (hi : i < 2 ^ mu m) => IT_congr (s := s) (Nat.le_refl (mu m)) h i hi)
  clear hc hd hl hNB
  generalize hMM : p2 m = M at *
  generalize mu m = u at *
  obtain ⟨v2, rfl⟩ : ∃ v2, v = v2 := ⟨v, rfl⟩
  have e1 : (n : Int) / 2 = (v : Int) := by omega
  have HV := hid hv
  have hv1 : v ≤ 2097152 := by omega
  have M0 : (0 : Int) ≤ (M : Int) := by omega
  have M1 : (M : Int) ≤ 65536 := by omega
  have v0 : (0 : Int) ≤ (v : Int) := by omega
  have HRW := hid (fun w => rows_calls M v w (by omega) (by omega))
  have HMM := hid hMM
  clear hv hMM
  unfold RowsMade at HRW
  unfold ParPost
  go_enter Tryz.func65, Tryz.ntmps65
  go_wp2_with fail
  refine (HRW.out _).mono ?_
  rintro e w1 ⟨GS, bsS, rfl, hMS, hGS, hbS, hC1⟩
  have HMS := hid hMS
  have HGS := hid hGS
  have HBS := hid hbS
  have HC1 := hid hC1
  clear hMS hGS hbS hC1 hd0 c2
  go_wp2_with fail
  go_loopw [7] (fun f wr => ∃ q : Nat, q ≤ NB ∧ f = .int .i64 ((q * M : Nat) : Int) ∧ Mx wr GS M v bsS (fun _ => []) (sumF k m ds q) [] ∧ Chg No w wr) (fun f _ => 65536 + k - (intOf f).toNat)
  case atStart => exact ⟨0, by omega, by rw [Nat.zero_mul]; rfl, HMS.out, HC1.out⟩
  case round =>
    obtain ⟨q, hq, rfl, hM2, hC2⟩ := hrel
    obtain ⟨w2, rfl⟩ : ∃ w2 : World, w2 = wr := ⟨_, rfl⟩
    have HM2 := hid hM2
    have HC2 := hid hC2
    clear hM2 hC2 HMS HC1
    have hCd := HC.out.keptNo HC2.out
    have c0 := hCd.c0
    have c2 := hCd.c2
    rw [HMM.out] at c2
    have HNBQ := hid (HNB.out q)
    have HBIQ := hid (HBI.out q)
    have HQN : Hid ((q + 1) * M = q * M + M) := hid (by rw [Nat.add_mul, Nat.one_mul])
    have HBKQ := hid (HBK.out q)
    have HNXQ := hid (HNX.out q)
    obtain ⟨fr, hfr⟩ : ∃ fr, q * M = fr := ⟨_, rfl⟩
    rw [hfr] at HNBQ HBIQ HQN HBKQ HNXQ ⊢
    have HFR := hid hfr
    clear hCd hfr
    by_cases hlt : fr < k
    · have d1 : decide (fr < k) = true := by simpa using hlt
      have f0 : (0 : Int) ≤ (fr : Int) := by omega
      have f1 : (fr : Int) < 65536 := by omega
      go_wp2_with fail
      refine (HRW.out _).mono ?_
      rintro e w3 ⟨GB, bsB, rfl, hMB, hGB, hbB, hC3⟩
      have HMB := hid hMB
      have HGB := hid hGB
      have HBB := hid hbB
      have HC3 := hid hC3
      clear hMB hGB hbB hC3 c0 c2
      go_wp2_with fail
      go_loopw [47] (fun i wr => ∃ (i' : Nat) (bsB : Nat → Nat) (rsB : Nat → List Value), i' ≤ M ∧ i = .int .i64 (i' : Int) ∧ Mx wr GB M v bsB rsB (fun t x => if x < i' then blk k M ds q t x else 0) [] ∧ (∀ x, x < M → w2.heap.size ≤ bsB x) ∧ Chg No w2 wr) (fun i _ => M - (intOf i).toNat)
      case atStart => exact ⟨0, bsB, fun _ => [], by omega, rfl, HMB.out.congr fun t i _ _ => by rw [if_neg (by omega)], HBB.out, HC3.out⟩
      case round =>
        clear HMB HBB HC3
        obtain ⟨i, bsB, rsB, hi, rfl, hMB, hbB, hC3⟩ := hrel
        obtain ⟨w4, rfl⟩ : ∃ w4 : World, w4 = wr := ⟨_, rfl⟩
        have HMB := hid hMB
        have HBB := hid hbB
        have HC3 := hid hC3
        clear hMB hbB hC3
        by_cases hil : i < M
        · obtain ⟨fi, hfi⟩ : ∃ fi, fr + i = fi := ⟨_, rfl⟩
          have HFI := hid hfi
          have hfi2 : (fr : Int) + (i : Int) = (fi : Int) := by omega
          have hC4 := HC.out.keptNo (HC2.out.trans HC3.out)
          have c0 := hC4.c0
          have gfr := HMB.out.out.frozen i
          have gc := HMB.out.cell hil
          have hfi3 : fi < 131072 := by omega
          clear hC4
          clear hfi
          by_cases hik : fi < k
          · have d2 : decide (fi < k) = true := by simpa using hik
            obtain ⟨b1, o1, q1, cc1, he, hd1, hr1, _⟩ := (HL.out.keptNo (HC2.out.trans HC3.out)) fi (by rw [HD.out.lk]; exact hik)
            obtain ⟨rfl, rfl⟩ : b0 = b1 ∧ o0 = o1 := by simpa using he
            rw [hd2.out fi hik] at hd1
            have hn2 := HV.out
            have HWD := hid (fun w h => Words16_calls q1 v (2 * v) cc1 (gl ds fi) w h (hd2.out fi hik) rfl (HD.out.lb fi) (by omega))
            have HR1 := hid hr1
            obtain ⟨n2, hnn⟩ : ∃ n2, 2 * v = n2 := ⟨_, rfl⟩
            rw [hnn] at hd1 HWD
            unfold MadeRow at HWD
            have fi0 : (0 : Int) ≤ (fi : Int) := by omega
            have i0 : (0 : Int) ≤ (i : Int) := by omega
            have i1 : (i : Int) < (M : Int) := by omega
            clear he hr1 hnn hn2
            go_wp2_with fail
            refine (HWD.out _ HR1.out).mono ?_
            rintro e w5 ⟨g5, rfl, hO5, hg5, hC5⟩
            have gc5 := hC5.cell gc id
            have gf5 := (HMB.out.keptNo hC5).out.frozen i
            have hMB5 := (HMB.out.keptNo hC5).put hil hO5 (fun j hj => Nat.ne_of_lt (Nat.lt_of_lt_of_le (HMB.out.lt hj) hg5)) (fun e => by
              have := HMB.out.out.lt; omega)
            have HMB5 := hid hMB5
            have HG5 : Hid (w2.heap.size ≤ g5) := hid (Nat.le_trans HC3.out.size hg5)
            have HC5 := hid (HC3.out.trans hC5)
            clear hMB5 hO5 hg5 hC5 gc gfr hd1 c0
            go_wp2_with fail
            obtain ⟨w6, hw6⟩ : ∃ w6, w6 = w5.setCell ⟨GB, i, none⟩ (.slice (some ⟨g5, 0, none⟩) v v) := ⟨_, rfl⟩
            rw [← hw6]
            have hM6 : Mx w6 GB M v (fun x => if x = i then g5 else bsB x) (fun x => if x = i then [] else rsB x) (fun t x => if x < i + 1 then blk k M ds q t x else 0) [] := by
              rw [hw6]
              refine HMB5.out.congr fun t x _ _ => ?_
              by_cases e : x = i
              · subst e; rw [if_pos rfl, if_pos (by omega), HBKQ.out, HFI.out, if_pos hik]
              · rw [if_neg e]
                by_cases e2 : x < i
                · rw [if_pos e2, if_pos (by omega)]
                · rw [if_neg e2, if_neg (by omega)]
            have hC6 : Chg No w2 w6 := by rw [hw6]; exact HC5.out.setNew HGB.out _ _
            have hb6 : ∀ x, x < M → w2.heap.size ≤ (if x = i then g5 else bsB x) := fun x hx => by
              by_cases e : x = i
              · rw [if_pos e]; exact HG5.out
              · rw [if_neg e]; exact HBB.out x hx
            have HM6 := hid hM6
            have HC6 := hid hC6
            have HB6 := hid hb6
            clear hw6 hM6 hC6 hb6 gc5 gf5
            go_roundw
            case rel => exact ⟨i + 1, _, _, by omega, by go_num, HM6.out, HB6.out, HC6.out⟩
            case measure => simp [intOf]; omega
          · have d2 : decide (fi < k) = false := by simpa using hik
            have hM6 : Mx w4 GB M v bsB rsB (fun t x => if x < i + 1 then blk k M ds q t x else 0) [] := by
              refine HMB.out.congr fun t x _ _ => ?_
              by_cases e : x = i
              · subst e; rw [if_neg (by omega), if_pos (by omega), HBKQ.out, HFI.out, if_neg hik]
              · by_cases e2 : x < i
                · rw [if_pos e2, if_pos (by omega)]
                · rw [if_neg e2, if_neg (by omega)]
            have HM6 := hid hM6
            clear hM6
            go_wp2_with fail
            go_roundw
            case rel => exact ⟨i + 1, _, _, by omega, by go_num, HM6.out, HBB.out, HC3.out⟩
            case measure => simp [intOf]; omega
        · have hM6 : Mx w4 GB M v bsB rsB (fun t => blk k M ds q t) [] := HMB.out.congr fun t x _ hx => by rw [if_pos (by omega)]
          have HIR := hid (fun w h => InverseRows_calls GB M v u (M + fr) M bsB rsB (fun t => blk k M ds q t) [] w h HU.out hu16 (HBIQ.out hlt).2 (HBIQ.out hlt).1)
          unfold RowsPost at HIR
          have HM6 := hid hM6
          have c2 := (HC.out.keptNo (HC2.out.trans HC3.out)).c2
          rw [HMM.out] at c2
          obtain ⟨sh, hsh⟩ : ∃ sh, M + fr = sh := ⟨_, rfl⟩
          have HSH := hid hsh
          have hsh2 : (M : Int) + (fr : Int) = (sh : Int) := by omega
          rw [hsh] at HIR
          clear hM6 hsh
          go_wp2_with fail
          refine (HIR.out _ HM6.out).mono ?_
          rintro e w5 ⟨rfl, hM7, hC7⟩
          have HM7 := hid hM7
          have hC7' : Chg No w2 w5 := HC3.out.trans' hC7 fun y hy ⟨x, hx, e⟩ => by have := HBB.out x hx; omega
          have HC7 := hid hC7'
          clear hM7 hC7 hC7' c2
          have HBL : Hid (∀ x y, x < M → y < M → bsB x ≠ bsS y) := hid (fun x y hx hy => by have := HM2.out.lt hy; have := HBB.out x hx; omega)
          have HGL : Hid (∀ y, y < M → GB ≠ bsS y) := hid (fun y hy => by have := HM2.out.lt hy; have := HGB.out; omega)
          have HMS2 := hid (HM2.out.keptNo HC7.out)
          have HCW := hid (HC2.out.trans HC7.out)
          have HNXS : Hid (∀ t i, sumF k m ds q t i + IT sh u (blk k M ds q t) i = sumF k m ds (q + 1) t i) := hid (fun t i => by rw [← HSH.out]; exact HNXQ.out t i)
          clear HM6 HMB HIR
          generalize hBf : (fun t => IT sh u (blk k M ds q t)) = Bf at *
          have HBF : Hid (∀ t i, Bf t i = IT sh u (blk k M ds q t) i) := hid (fun t i => by rw [← hBf])
          clear hBf
          go_wp2_with fail
          go_loopw [82] (fun i wr => ∃ i' : Nat, i' ≤ M ∧ i = .int .i64 (i' : Int) ∧ Mx wr GS M v bsS (fun _ => []) (fun t x => if x < i' then sumF k m ds q t x + Bf t x else sumF k m ds q t x) [] ∧ Chg (InR bsS M) w5 wr) (fun i _ => M - (intOf i).toNat)
          case atStart => exact ⟨0, by omega, rfl, HMS2.out.congr fun t i _ _ => by rw [if_neg (by omega)], Chg.refl _ _⟩
          case round =>
            obtain ⟨i2, hi2, rfl, hMS, hC8⟩ := hrel
            obtain ⟨w6, rfl⟩ : ∃ w6 : World, w6 = wr := ⟨_, rfl⟩
            have HMS := hid hMS
            have HC8 := hid hC8
            clear hMS hC8
            by_cases hil2 : i2 < M
            · have hMB8 := HM7.out.kept HC8.out (fun ⟨y, hy, e⟩ => HGL.out y hy e) (fun x hx ⟨y, hy, e⟩ => HBL.out x y hx hy e)
              have c1 := hMB8.cell hil2
              have HRB := hid (hMB8.row hil2)
              have HRS := hid (HMS.out.row hil2)
              have i0 : (0 : Int) ≤ (i2 : Int) := by omega
              have i1 : (i2 : Int) < (M : Int) := by omega
              have HNE : Hid (bsB i2 ≠ bsS i2) := hid (HBL.out i2 i2 hil2 hil2)
              have HNG : Hid (GS ≠ bsS i2) := hid (fun e => HMS.out.neG hil2 e.symm)
              have HCS := hid (HMS.out.cell hil2)
              simp only [Nat.lt_irrefl, if_false] at HRS
              generalize hfS : (fun t => sumF k m ds q t i2) = fS at HRS
              generalize hfB : (fun t => Bf t i2) = fB at HRB
              have HFS : Hid (∀ t, fS t = sumF k m ds q t i2) := hid (fun t => by rw [← hfS])
              have HFB2 : Hid (∀ t, fB t = Bf t i2) := hid (fun t => by rw [← hfB])
              clear hfS hfB hMB8
              obtain ⟨cp1, hcp1⟩ : ∃ cp, v + (rsB i2).length = cp := ⟨_, rfl⟩
              rw [hcp1] at c1
              clear hcp1
              go_wp2_with fail
              go_loopw [89] (fun t wr => ∃ t' : Nat, t' ≤ v ∧ t = .int .i64 (t' : Int) ∧ Own wr 88 (bsS i2) (nv .u16 (rowL v (addTo 1 fS fB t'))) [] ∧ Chg (Only (bsS i2)) w6 wr) (fun t _ => v - (intOf t).toNat)
              case atStart => exact ⟨0, by omega, rfl, by rw [addTo_zero]; exact HRS.out, Chg.refl _ _⟩
              case round =>
                obtain ⟨t, ht, rfl, hO, hC9⟩ := hrel
                obtain ⟨w7, rfl⟩ : ∃ w7 : World, w7 = wr := ⟨_, rfl⟩
                clear c1
                by_cases htl : t < v
                · have c1 := (HRB.out.kept hC9 HNE.out).nat (i := t) (by simpa using htl)
                  rw [gn_rowL _ _ _ htl] at c1
                  have c2 := hO.nat (i := t) (by simpa using htl)
                  have hvv : (addTo 1 fS fB t t) = fS t := if_neg (by omega)
                  rw [gn_rowL _ _ _ htl, hvv] at c2
                  have fr2 := hO.frozen t
                  have c3 := hC9.cell HCS.out HNG.out
                  rw [List.length_nil, Nat.add_zero] at c3
                  have HN := hid (addTo_set1 fS fB v t htl)
                  have hx := (fB t).v_lt
                  have hy := (fS t).v_lt
                  have HO := hid hO
                  have HC9 := hid hC9
                  clear hO hC9 hvv
                  generalize (fB t).v = x at *
                  generalize (fS t).v = y at *
                  have hxor := Go.u16_xor_nat y x hy hx
                  have t0 : (0 : Int) ≤ (t : Int) := by omega
                  have t1 : (t : Int) < (v : Int) := by omega
                  go_wp2_with fail
                  go_roundw
                  case rel => exact ⟨t + 1, by omega, by go_num, by rw [← HN.out]; exact HO.out.setNat (by simpa using htl) _, HC9.out.setOnly _ _⟩
                  case measure => simp [intOf]; omega
                · have hte : ¬ t < v := htl
                  have hO2 : Own w7 88 (bsS i2) (nv .u16 (rowL v (fun t => fS t + fB t))) [] := by
                    rw [show t = v from by omega, addTo_one] at hO; exact hO
                  have hM9 : Mx w7 GS M v bsS (fun _ => []) (fun t x => if x < i2 + 1 then sumF k m ds q t x + Bf t x else sumF k m ds q t x) [] := (HMS.out.one hil2 hC9 hO2).congr fun t x _ _ => by
                    by_cases e : x = i2
                    · subst e; rw [if_pos rfl, if_pos (by omega), HFS.out, HFB2.out]
                    · rw [if_neg e]
                      by_cases e2 : x < i2
                      · rw [if_pos e2, if_pos (by omega)]
                      · rw [if_neg e2, if_neg (by omega)]
                  have hC10 : Chg (InR bsS M) w5 w7 := HC8.out.trans' hC9 fun y _ e => ⟨i2, hil2, e⟩
                  have HM9 := hid hM9
                  have HC10 := hid hC10
                  clear hM9 hC10 hO2 hO hC9
                  go_wp2_with fail
                  go_roundw
                  case rel => exact ⟨i2 + 1, by omega, by go_num, HM9.out, HC10.out⟩
                  case measure => simp [intOf]; omega
            · have hM9 : Mx w6 GS M v bsS (fun _ => []) (sumF k m ds (q + 1)) [] := HMS.out.congr fun t x _ hx => by rw [if_pos (by omega), HBF.out]; exact HNXS.out t x
              have hC10 : Chg No w w6 := HCW.out.trans' HC8.out fun y hy ⟨x, hx, e⟩ => by have := HBS.out x hx; omega
              have c2 := (HC.out.keptNo hC10).c2
              rw [HMM.out] at c2
              have HM9 := hid hM9
              have HC10 := hid hC10
              clear hM9 hC10
              go_wp2_with fail
              go_roundw
              case rel => exact ⟨q + 1, (HNBQ.out.2 hlt), by rw [HQN.out]; go_num, HM9.out, HC10.out⟩
              case measure => simp [intOf]; omega
    · have hq2 : q = NB := by have := HNBQ.out; omega
      have HQE := hid hq2
      have d1 : decide (fr < k) = false := by simpa using hlt
      have HFW := hid (fun w h => ForwardRows_calls GS M v u 0 M bsS (fun _ => []) (sumF k m ds q) [] w h HU.out hu16 (Nat.zero_mod _) (by omega))
      unfold RowsPost at HFW
      clear hq2 c2
      go_wp2_with fail
      refine (HFW.out _ HM2.out).mono ?_
      rintro e w3 ⟨rfl, hM3, hC3⟩
      have HM3 := hid hM3
      have hC4 : Chg No w w3 := HC2.out.trans' hC3 fun y hy ⟨x, hx, e⟩ => by have := HBS.out x hx; omega
      have HC3 := hid hC4
      have c1 := (HC.out.keptNo hC4).c1
      clear hM3 hC3 hC4 c0
      have m0 : (0 : Int) ≤ (m : Int) := by omega
      go_wp2_with (at_make; go_must ((with_reducible refine wpList_mk1 35 (.slice none 0 0) 24 m m ?_ ?_ ?_ ?_ ?_ ?_ ?_ ?_); exact ⟨rfl, rfl⟩; exact Tryz.underlying22; kernel_rfl; rfl; omega; omega; (unfold maxLen; omega); intro W4 hO4 hC4 hs4))
      have hR4 : Rws W4 35 5 .u8 w3.heap.size [] (List.replicate m (.slice none 0 0)) :=
        ⟨by simpa [Own] using hO4, fun _ h => (by cases h), by simp, fun _ h => (by cases h), fun _ h => (by cases h)⟩
      have HCW4 := hid (HC3.out.trans hC4)
      have HC3S := hid HC3.out.size
      obtain ⟨G, hG⟩ : ∃ G, G = w3.heap.size := ⟨_, rfl⟩
      have HG := hid hG
      rw [← hG] at hR4 ⊢
      clear hO4 c1 hG hs4
      go_loopw [115] (fun j wr => ∃ (j' : Nat) (xs : List Pc), j' ≤ m ∧ j = .int .i64 (j' : Int) ∧ Rws wr 35 5 .u8 G xs (List.replicate (m - j') (.slice none 0 0)) ∧ xs.map Pc.d = (List.range j').map (fun j => parTo m n ds j k) ∧ (∀ x ∈ xs, w3.heap.size ≤ x.b) ∧ Chg No w3 wr) (fun j _ => m - (intOf j).toNat)
      case atStart => exact ⟨0, [], by omega, rfl, by simpa using hR4, by simp, fun _ h => (by cases h), hC4⟩
      case round =>
        clear hR4 hC4
        obtain ⟨j, xs, hj, rfl, hR, hx, hxb, hC5⟩ := hrel
        obtain ⟨w5, rfl⟩ : ∃ w5 : World, w5 = wr := ⟨_, rfl⟩
        have HX := hid hx
        have HXB := hid hxb
        have HC5 := hid hC5
        by_cases hjl : j < m
        · have hjM : j < M := by have := HMP.out; omega
          have hM5 := HM3.out.keptNo hC5
          have hcj := hM5.cell hjM
          have hrow := hM5.row hjM
          have hxl : xs.length = j := by simpa using congrArg List.length hx
          have HXL := hid hxl
          rw [show m - j = m - (j + 1) + 1 from by omega, List.replicate_succ] at hR
          have HR := hid hR
          have hgc := hR.out.restCell
          rw [List.length_map, hxl] at hgc
          have hBY := HFB.out j hjl
          rw [← HQE.out] at hBY
          have HBYC := hid (fun w h => Bytes16_calls (some ⟨bsS j, 0, none⟩) v (v + 0) (fun t => FT 0 u (sumF k m ds q t) j) w h (by omega))
          have hBY2 : byTo (fun t => FT 0 u (sumF k m ds q t) j) v = parTo m n ds j k := hBY
          unfold MadeRow at HBYC
          rw [hBY2, ← HV.out] at HBYC
          have HRN := hid hrow.rn
          rw [List.length_nil] at hcj
          clear hR hx hxb hC5 hxl hM5 hrow hBY hBY2
          have j0 : (0 : Int) ≤ (j : Int) := by omega
          have j1 : (j : Int) < (M : Int) := by omega
          have j2 : (j : Int) < (m : Int) := by omega
          go_wp2_with fail
          refine (HBYC.out _ HRN.out).mono ?_
          rintro e w6 ⟨g6, rfl, hO6, hg6, hC6⟩
          have gc6 := hC6.cell hgc id
          have gf6 := (HR.out.keptNo hC6).out.frozen j
          have hR6 := (HR.out.keptNo hC6).put (x := ⟨g6, parTo m n ds j k, []⟩) hO6
            (fun y hy => Nat.ne_of_lt (Nat.lt_of_lt_of_le (HR.out.blk hy) hg6)) (fun e => by
              have := HR.out.out.lt
              have e : g6 = G := e
              omega) (by simp; omega)
          rw [HXL.out] at hR6
          have hvv : (⟨g6, parTo m n ds j k, []⟩ : Pc).v = .slice (some ⟨g6, 0, none⟩) n n := by simp [Pc.v]
          rw [hvv] at hR6
          have HR6 := hid hR6
          have HG6 : Hid (w3.heap.size ≤ g6) := hid (Nat.le_trans HC5.out.size hg6)
          have HC6 := hid (HC5.out.trans hC6)
          clear hR6 hO6 hg6 hC6 hgc hvv hcj
          go_wp2_with fail
          go_roundw
          case rel => exact ⟨j + 1, _, by omega, by go_num, HR6.out, map_range_succ HX.out rfl, fun x hx => by
            rcases List.mem_append.1 hx with hx | hx
            · exact HXB.out x hx
            · rw [List.mem_singleton.1 hx]; exact HG6.out, HC6.out.setNew (Nat.le_of_eq HG.out.symm) _ _⟩
          case measure => simp [intOf]; omega
        · have hje : ¬ j < m := hjl
          have hR7 : Rws w5 35 5 .u8 G xs [] := by
            rw [show m - j = 0 from by omega] at hR; exact hR
          have hX7 : xs.map Pc.d = par k m n ds := by rw [hx, show j = m from by omega]; rfl
          have HR7 := hid hR7
          have HX7 := hid hX7
          have HCF := hid (HC3.out.trans hC5)
          clear hR7 hX7 hR hx hxb hC5
          go_wp2_with fail
          go_ret
          exact ⟨G, xs, rfl, HR7.out, HX7.out, by rw [HG.out]; exact HC3S.out, fun x hx => Nat.le_trans HC3S.out (HXB.out x hx), HCF.out⟩
theorem parC_fast : ParC true := fun C k m r W T K n c p ds w h1 h2 h3 => fastParity_calls C k m r W T K n c true p ds w h1 h2 h3
theorem parC (fast : Bool) : ParC fast := by
  cases fast with
  | false => exact parC_direct
  | true => exact parC_fast
end Go.Proofs.YtpnmmedjamkmeaaGreat

/- Walks of the law's codecs and encoded. -/
set_option linter.unusedSimpArgs false
set_option linter.unusedVariables false
set_option linter.unusedSimpArgs false
namespace Go.Proofs.YtpnmmedjamkmeaaGreat
open Go.RowKit

theorem NewPost.mono {fast : Bool} {k m : Nat} {w w0 : World} {e : Ending} {w' : World} (h : NewPost fast k m w e w') (hc : Chg No w0 w) : NewPost fast k m w0 e w' := by
  obtain ⟨C, W, T, K, he, h1, a, b, c, d, h2⟩ := h
  have := hc.size
  exact ⟨C, W, T, K, he, h1, by omega, by omega, by omega, by omega, hc.trans h2⟩
/-- Two codecs, one of each backend, in a list. -/
structure Cs (w : World) (base k m G : Nat) (C W T K : Bool → Nat) : Prop where
  own : Own w 31 G [.pointer (some ⟨C false, 0, none⟩), .pointer (some ⟨C true, 0, none⟩)] []
  cd : ∀ f, Cd w f (C f) k m (mu (p2 m + k)) (W f) (T f) (K f)
  old : ∀ f, base ≤ C f ∧ base ≤ W f ∧ base ≤ T f ∧ base ≤ K f
theorem Cs.keptNo {w w' : World} {base k m G : Nat} {C W T K : Bool → Nat} (h : Cs w base k m G C W T K) (hc : Chg No w w') : Cs w' base k m G C W T K :=
  ⟨h.own.keptNo hc, fun f => (h.cd f).keptNo hc, h.old⟩
def CodecsPost (k m : Nat) (w : World) (e : Ending) (w' : World) : Prop :=
  ∃ G C W T K, e = .returned (.slice (some ⟨G, 0, none⟩) 2 2) ∧ Cs w' w.heap.size k m G C W T K ∧ w.heap.size ≤ G ∧ Chg No w w'
set_option maxRecDepth 20000 in
theorem codecs_calls (k m : Nat) (h : prm k (m : Int)) (w : World) :
    Calls Tryz.prog 10 #[.int .i64 (k : Int), .int .i64 (m : Int)] w (CodecsPost k m w) := by
  have H1 := hid (fNew_direct k m h w)
  have H2 := hid (fun w => fNew_fast k m h w)
  clear h
  go_enter Tryz.func10, Tryz.ntmps10
  go_wp2_with fail
  refine H1.out.mono ?_
  rintro e w1 ⟨C1, W1, T1, K1, rfl, hD1, a1, b1, c1, d1, hC1⟩
  have HD1 := hid hD1
  have HC1 := hid hC1
  have HB1 := hid (And.intro a1 (And.intro b1 (And.intro c1 d1)))
  clear hD1 hC1 a1 b1 c1 d1
  go_wp2_with fail
  refine (H2.out _).mono ?_
  rintro e w2 ⟨C2, W2, T2, K2, rfl, hD2, a2, b2, c2, d2, hC2⟩
  have HD2 := hid hD2
  have HC2 := hid hC2
  have HB2 := hid (And.intro a2 (And.intro b2 (And.intro c2 d2)))
  clear hD2 hC2 a2 b2 c2 d2
  go_wp2_with fail
  go_ret
  have hs := HC1.out.size
  obtain ⟨a1, b1, c1, d1⟩ := HB1.out
  obtain ⟨a2, b2, c2, d2⟩ := HB2.out
  refine ⟨w2.heap.size, fun f => if f then C2 else C1, fun f => if f then W2 else W1, fun f => if f then T2 else T1, fun f => if f then K2 else K1, rfl, ⟨?_, ?_, ?_⟩, ?_, ?_⟩
  · simp only [if_true, Bool.false_eq_true, if_false]; exact heap_alloc_new w2 _
  · intro f
    cases f with
    | false => simp only [Bool.false_eq_true, if_false]; exact (HD1.out.keptNo HC2.out).keptNo ((Chg.refl _ _).alloc _)
    | true => simp only [if_true]; exact HD2.out.keptNo ((Chg.refl _ _).alloc _)
  · intro f
    cases f with
    | false => simp only [Bool.false_eq_true, if_false]; omega
    | true => simp only [if_true]; omega
  · have := HC2.out.size; omega
  · exact (HC1.out.trans HC2.out).alloc _

theorem cutL_all {n : Nat} {ls : List (List Nat)} (h : ∀ l ∈ ls, l.length = n) : cutL 0 n ls = ls := by
  unfold cutL
  conv => rhs; rw [← List.map_id ls]
  apply List.map_congr_left
  intro l hl
  rw [List.drop_zero, Nat.sub_zero, List.take_of_length_le (by rw [h l hl]; omega)]; rfl
theorem Ds.mem {k n : Nat} {ds : List (List Nat)} (h : Ds k n ds) : ∀ l ∈ ds, l.length = n := by
  intro l hl
  obtain ⟨i, hi, rfl⟩ := List.getElem_of_mem hl
  have := h.ln i (by have := h.lk; omega)
  rwa [gl_get _ _ hi] at this
theorem par_mem {k m n : Nat} {ds : List (List Nat)} : ∀ l ∈ par k m n ds, l.length = n := by
  intro l hl
  unfold par at hl
  obtain ⟨j, _, rfl⟩ := List.mem_map.1 hl
  exact parTo_length _ _ _ _ _
theorem gl_app_lo {a b : List (List Nat)} {i : Nat} (h : i < a.length) : gl (a ++ b) i = gl a i := by
  simp only [gl, List.getD_eq_getElem?_getD]; rw [List.getElem?_append_left h]
theorem gl_app_hi {a b : List (List Nat)} (i : Nat) : gl (a ++ b) (a.length + i) = gl b i := by
  simp only [gl, List.getD_eq_getElem?_getD]; rw [List.getElem?_append_right (by omega), Nat.add_sub_cancel_left]
/-- What Encode makes of whole rows. -/
theorem encTo_full {k m n : Nat} {ds js : List (List Nat)} {xs : List Pc} (hd : Ds k n ds) (hx : xs.map Pc.d = ds ++ js) (hj : js.length = m) (hjn : ∀ l ∈ js, l.length = n) :
    (encTo k 0 n (parOf k m 0 n xs) xs m).map Pc.d = ds ++ par k m n ds := by
  have hk := hd.lk
  have hp : parOf k m 0 n xs = par k m n ds := by
    unfold parOf
    rw [hx, ← hk, List.take_left, Nat.sub_zero, cutL_all hd.mem]
  have hlen : xs.length = k + m := by
    have := congrArg List.length hx
    simp only [List.length_map, List.length_append] at this; omega
  rw [hp]
  refine ext_gl (by simp [par_length, hlen, hk]) fun i hi => ?_
  rw [List.length_map, encTo_length] at hi
  have hg : gl ((encTo k 0 n (par k m n ds) xs m).map Pc.d) i = if k ≤ i ∧ i < k + m then spl 0 n (gl (par k m n ds) (i - k)) (gl (xs.map Pc.d) i) else gl (xs.map Pc.d) i := by
    simp only [gl, List.getD_eq_getElem?_getD, List.getElem?_map]
    rw [encTo_get?, List.getElem?_eq_getElem hi]
    simp only [Option.map_some, Option.getD_some]
    split <;> rfl
  rw [hg, hx]
  by_cases h : k ≤ i
  · obtain ⟨j, rfl⟩ : ∃ j, i = ds.length + j := ⟨i - k, by omega⟩
    have hjm : j < m := by omega
    rw [if_pos (by omega), gl_app_hi, gl_app_hi, show ds.length + j - k = j from by omega, gl_par _ _ _ _ _ hjm]
    have h2 : (gl js j).length = n := by
      rw [gl_get _ _ (by omega)]; exact hjn _ (List.getElem_mem _)
    unfold spl
    rw [List.take_zero, List.nil_append, List.drop_eq_nil_of_le (by omega), List.append_nil]
  · rw [if_neg (by omega), gl_app_lo (by omega), gl_app_lo (by omega)]
theorem Ds.ev {k m n : Nat} {ds js : List (List Nat)} (hd : Ds k n ds) (hj : js.length = m) (hjn : ∀ l ∈ js, l.length = n) (hk1 : 1 ≤ k) (hk2 : k + m ≤ 131072) : Ev (k + m) n (ds ++ js) := by
  have hk := hd.lk
  refine ⟨by simp [hk, hj], fun i hi => ?_, hd.even, hd.small, hd.pos, by omega, hk2⟩
  by_cases h : i < k
  · rw [gl_app_lo (by omega), hd.ln i h]
  · obtain ⟨j, rfl⟩ : ∃ j, i = ds.length + j := ⟨i - k, by omega⟩
    rw [gl_app_hi, gl_get _ _ (by omega)]; exact hjn _ (List.getElem_mem _)
theorem Byt.app {a b : List (List Nat)} (ha : Byt a) (hb : Byt b) : Byt (a ++ b) := by
  intro i x
  by_cases h : i < a.length
  · rw [gl_app_lo h]; exact ha i x
  · obtain ⟨j, rfl⟩ : ∃ j, i = a.length + j := ⟨i - a.length, by omega⟩
    rw [gl_app_hi]; exact hb j x
theorem byt_par {k m n : Nat} {ds : List (List Nat)} : Byt (par k m n ds) := by
  intro j x
  by_cases h : j < m
  · rw [gl_par _ _ _ _ _ h]; exact parTo_lt _ _ _ _ _ _
  · rw [gl_out _ _ (by rw [par_length]; omega)]; simp [gn]
/-- The numbers that a fresh parity shard holds. -/
def junk (n j : Nat) : List Nat := (List.range n).map fun i => (i + j + 1) % 256
def junkTo (n j k : Nat) : List Nat := fillTo (fun i => (i + j + 1) % 256) n k
theorem junk_length (n j : Nat) : (junk n j).length = n := by simp [junk]
theorem junkTo_full (n j : Nat) : junkTo n j n = junk n j := by
  refine ext_gn (by simp [junkTo, fillTo_length, junk_length]) fun i hi => ?_
  unfold junkTo at hi ⊢
  rw [fillTo_length] at hi
  rw [gn_fillTo _ _ _ _ hi, if_pos hi]
  simp [junk, gn, hi]
theorem junk_lt (n j i : Nat) : gn (junk n j) i < 256 := by
  by_cases h : i < n
  · simp [junk, gn, h]; omega
  · rw [gn_out _ _ (by rw [junk_length]; omega)]; omega
end Go.Proofs.YtpnmmedjamkmeaaGreat

/- The walk of the law's encoded. -/
set_option linter.unusedSimpArgs false
set_option linter.unusedVariables false
set_option linter.unusedSimpArgs false
namespace Go.Proofs.YtpnmmedjamkmeaaGreat
open Go.RowKit

/-- Encode over rows that the code has made. -/
theorem Encode_rows (fast : Bool) (C k m r W T K n base : Nat) (v : Value) (xs : List Pc) (w : World) (hc : Cd w fast C k m r W T K) (hR : RowsV w 35 5 .u8 base v xs)
    (hd : Ev (k + m) n (xs.map Pc.d)) (hb : Byt (xs.map Pc.d)) (hap : Apart xs C W T K) :
    Calls Tryz.prog 17 #[.pointer (some ⟨C, 0, none⟩), v] w fun e w' => e = .returned (.int .i64 0) ∧ RowsV w' 35 5 .u8 base v (encTo k 0 n (parOf k m 0 n xs) xs m) ∧ Chg (InB xs) w w' := by
  have hlen : xs.length = k + m := by have := hd.lt; rwa [List.length_map] at this
  have hk := hc.prm.1
  rcases hR with ⟨rfl, rfl⟩ | ⟨G, r0, rfl, h2, h3, h4, h5⟩
  · simp at hlen; omega
  · rw [hlen]
    refine (Encode_calls fast (parC fast) C k m r W T K n (k + m + r0.length) (k + m) G xs r0 w hc h2 rfl hd hb (by omega) hap).mono ?_
    rintro e w' ⟨he, hR', hC⟩
    refine ⟨he, .inr ⟨G, r0, ?_, hR', h3, ?_, ?_⟩, hC⟩
    · rw [encTo_length, hlen]
    · rw [encTo_length]; exact h4
    · intro x hx
      have hm : x.b ∈ (encTo k 0 n (parOf k m 0 n xs) xs m).map Pc.b := List.mem_map_of_mem hx
      rw [encTo_b] at hm
      obtain ⟨y, hy, e⟩ := List.mem_map.1 hm
      rw [← e]; exact h5 y hy
theorem Apart.new {xs : List Pc} {C W T K b : Nat} (h : ∀ x ∈ xs, b ≤ x.b) (h1 : C < b) (h2 : W < b) (h3 : T < b) (h4 : K < b) : Apart xs C W T K :=
  fun x hx => by have := h x hx; exact ⟨by omega, by omega, by omega, by omega⟩
theorem Cd.lts {w : World} {fast : Bool} {C k m r W T K : Nat} (h : Cd w fast C k m r W T K) : C < w.heap.size ∧ W < w.heap.size ∧ T < w.heap.size ∧ K < w.heap.size :=
  ⟨h.own.lt, h.ws.lt, TabAt.lt h.tab, (Array.getElem?_eq_some_iff.1 h.kern).1⟩
theorem RowsV.ge {w : World} {eo ei : TypeId} {k : IntKind} {base : Nat} {v : Value} {xs : List Pc} (h : RowsV w eo ei k base v xs) : ∀ x ∈ xs, base ≤ x.b := by
  rcases h with ⟨_, rfl⟩ | ⟨_, _, _, _, _, _, h5⟩
  · exact fun _ h => by cases h
  · exact h5
/-- What encoded leaves. -/
def EncPost (k m n : Nat) (ds : List (List Nat)) (w : World) (e : Ending) (w' : World) : Prop :=
  ∃ v xs, e = .returned v ∧ RowsV w' 35 5 .u8 w.heap.size v xs ∧ xs.map Pc.d = ds ++ par k m n ds ∧ Chg No w w'

set_option maxRecDepth 20000 in
set_option maxHeartbeats 3200000 in
theorem encoded_calls (fast : Bool) (C k m r W T K n c : Nat) (p : Option Addr) (ds : List (List Nat)) (w : World) (hc : Cd w fast C k m r W T K) (hd : Ds k n ds) (hl : Lr w .u8 p ds) :
    Calls Tryz.prog 11 #[.pointer (some ⟨C, 0, none⟩), .int .i64 (m : Int), .slice p k c] w (EncPost k m n ds w) := by
  obtain ⟨hk1, hm1, hk2, hm2, hk3⟩ := hc.prm
  rw [Int.toNat_natCast] at hk3
  have hm0 := le_p2 m
  have HC := hid hc
  have HD := hid hd
  have HL := hid hl
  have HCP := hid (Copies_calls p c k ds w hl hd.lk (by omega))
  have HEC := hid (fun v xs w h1 h2 h3 h4 h5 => Encode_rows fast C k m r W T K n w.heap.size v xs w h1 h2 h3 h4 h5)
  have HEC2 := hid (fun base v xs w h1 h2 h3 h4 h5 => Encode_rows fast C k m r W T K n base v xs w h1 h2 h3 h4 h5)
  unfold CopyPost at HCP
  obtain ⟨b0, o0, q0, cc0, rfl, hd0, _, _⟩ := hl 0 (by rw [hd.lk]; omega)
  rw [hd.ln 0 (by omega), Nat.add_zero] at hd0
  have hn4 := hd.small
  have HC0 := hid hd0
  have hkm : k + m ≤ 131072 := by omega
  clear hc hd hl hd0 hk3 hm0 HEC
  have HLT := hid HC.out.lts
  go_enter Tryz.func11, Tryz.ntmps11
  go_wp2_with fail
  refine HCP.out.mono ?_
  rintro e w1 ⟨v1, xs1, rfl, hR1, hx1, hC1⟩
  have HR1 := hid hR1
  have HX1 := hid hx1
  have HC1 := hid hC1
  clear hR1 hx1 hC1
  go_wp2_with fail
  go_loopw [7, 8] (fun v j wr => ∃ (j' : Nat) (xs : List Pc), j' ≤ m ∧ j = .int .i64 (j' : Int) ∧ RowsV wr 35 5 .u8 w.heap.size v xs ∧ xs.map Pc.d = ds ++ (List.range j').map (junk n) ∧ Chg No w wr) (fun _ j _ => m - (intOf j).toNat)
  case atStart => exact ⟨0, xs1, by omega, rfl, HR1.out, by rw [HX1.out]; simp, HC1.out⟩
  case round =>
    clear HR1 HX1 HC1 HCP
    obtain ⟨j, xs, hj, rfl, hR, hx, hC⟩ := hrel
    obtain ⟨w2, rfl⟩ : ∃ w2 : World, w2 = wr := ⟨_, rfl⟩
    have HR := hid hR
    have HX := hid hx
    have HCW := hid hC
    have HXL : Hid (xs.length = k + j) := hid (by
      have := congrArg List.length hx
      simpa [HD.out.lk] using this)
    clear hR hx hC
    by_cases hjl : j < m
    · have c0 := HCW.out.cell HC0.out id
      go_wp2_with (at_make; go_must ((with_reducible refine wpList_mk1 5 (.int .u8 0) 1 n n ?_ ?_ ?_ ?_ ?_ ?_ ?_ ?_); exact ⟨rfl, rfl⟩; exact Tryz.underlying35; kernel_rfl; rfl; omega; omega; (unfold maxLen; omega); intro W3 hO3 hC3 hs3))
      have hO4 : Own W3 5 w2.heap.size (nv .u8 (junkTo n j 0)) [] := by
        unfold junkTo; rw [fillTo_zero, nv_replicate]; simpa using hO3
      clear hO3 c0
      have HC3 := hid hC3
      clear hC3 hs3
      go_loopw [26] (fun i wr => ∃ i' : Nat, i' ≤ n ∧ i = .int .i64 (i' : Int) ∧ Own wr 5 w2.heap.size (nv .u8 (junkTo n j i')) [] ∧ Chg No w2 wr) (fun i _ => n - (intOf i).toNat)
      case atStart => exact ⟨0, by omega, rfl, hO4, HC3.out⟩
      case round =>
        clear hO4 HC3
        obtain ⟨i, hi, rfl, hO, hC4⟩ := hrel
        obtain ⟨w3, rfl⟩ : ∃ w3 : World, w3 = wr := ⟨_, rfl⟩
        have HO := hid hO
        have HC4 := hid hC4
        clear hO hC4
        by_cases hil : i < n
        · have c1 := HO.out.nat (i := i) (by unfold junkTo; rw [fillTo_length]; exact hil)
          have f1 := HO.out.frozen i
          generalize gn (junkTo n j i) i = y at *
          have HS := hid (fillTo_set (fun i => (i + j + 1) % 256) n i hil)
          have HV : Hid (((i : Int) + (j : Int) + 1) % 256 = (((i + j + 1) % 256 : Nat) : Int)) := hid (by omega)
          go_wp2_with fail
          rw [HV.out]
          go_roundw
          case rel => exact ⟨i + 1, by omega, by go_num, by unfold junkTo; rw [← HS.out]; exact HO.out.setNat (by unfold junkTo; rw [fillTo_length]; exact hil) _, HC4.out.setNew (Nat.le_refl _) _ _⟩
          case measure => simp [intOf]; omega
        · have hOf : Own w3 5 w2.heap.size (nv .u8 (junk n j)) [] := by
            rw [← junkTo_full]
            have := HO.out
            rwa [show i = n from by omega] at this
          have HOF := hid hOf
          have hR3 := HR.out.keptNo HC4.out
          have HR3 := hid hR3
          have HS3 := hid HCW.out.size
          have HS4 := hid HC4.out.size
          clear hOf hR3
          go_wp2_with (at_builtin; go_must ((with_reducible refine wpList_app (HR3.out.keptNo ((Chg.refl No w3).alloc (.cells #[.slice (some ⟨w2.heap.size, 0, none⟩) n n] 35))).owns ⟨w3.heap.size, 0, none⟩ [.slice (some ⟨w2.heap.size, 0, none⟩) n n] ?_ (.slice none 0 0) 1 1 24 ?_ ?_ ?_ ?_ ?_ ?_ ?_ ?_ ?_ ?_); exact (Own.lit1 w3 35 _).addCell; exact ⟨rfl, rfl⟩; rfl; exact Tryz.underlying22; kernel_rfl; rfl; (intro u hu; simp at hu; subst hu; rfl); (rw [HXL.out]; unfold maxLen; omega); (rw [HXL.out]; omega); (have := HS3.out; have := HS4.out; simp; omega); intro v5 W5 hO5 hg5))
          have hR5 : RowsV W5 35 5 .u8 w.heap.size v5 (xs ++ [⟨w2.heap.size, junk n j, []⟩]) :=
            (HR3.out.keptNo ((Chg.refl No w3).alloc _)).snoc (by decide) (x := ⟨w2.heap.size, junk n j, []⟩) (HOF.out.alloc _) HS3.out
              (fun y hy => Nat.ne_of_lt (HR.out.lt y hy)) (by rw [junk_length]; omega) (by
                have e : (⟨w2.heap.size, junk n j, []⟩ : Pc).v = .slice (some ⟨w2.heap.size, 0, none⟩) n n := by simp [Pc.v, junk_length]
                rw [e]; exact hO5) hg5
          have hC5 : Chg No w W5 := (HR3.out.keptNo ((Chg.refl No w3).alloc _)).chg ((HCW.out.trans HC4.out).alloc _) (Nat.le_refl _) hg5
          have hx5 : (xs ++ [(⟨w2.heap.size, junk n j, []⟩ : Pc)]).map Pc.d = ds ++ (List.range (j + 1)).map (junk n) := by
            rw [List.map_append, HX.out, List.range_succ, List.map_append, List.append_assoc]; rfl
          have HR5 := hid hR5
          have HC5 := hid hC5
          have HX5 := hid hx5
          clear hR5 hC5 hx5 hO5 hg5
          go_wp2_with fail
          go_roundw
          case rel => exact ⟨j + 1, _, by omega, by go_num, HR5.out, HX5.out, HC5.out⟩
          case measure => simp [intOf]; omega
    · have hje : (List.range j).map (junk n) = (List.range m).map (junk n) := by rw [show j = m from by omega]
      have hjl2 : ((List.range m).map (junk n)).length = m := by simp
      have hjn : ∀ l ∈ (List.range m).map (junk n), l.length = n := by
        intro l hl
        obtain ⟨q, _, rfl⟩ := List.mem_map.1 hl
        exact junk_length _ _
      have hjb : Byt ((List.range m).map (junk n)) := by
        intro q x
        by_cases h : q < m
        · rw [gl_get _ _ (by simpa using h)]; simp only [List.getElem_map, List.getElem_range]; exact junk_lt _ _ _
        · rw [gl_out _ _ (by simpa using h)]; simp [gn]
      have hx2 : xs.map Pc.d = ds ++ (List.range m).map (junk n) := by rw [HX.out, hje]
      have hEV : Ev (k + m) n (xs.map Pc.d) := by rw [hx2]; exact HD.out.ev hjl2 hjn hk1 hkm
      have hBY : Byt (xs.map Pc.d) := by rw [hx2]; exact Byt.app HD.out.lb hjb
      have HEV := hid hEV
      have HBY := hid hBY
      have HFU := hid (encTo_full HD.out hx2 hjl2 hjn)
      have hap : Apart xs C W T K := Apart.new HR.out.ge HLT.out.1 HLT.out.2.1 HLT.out.2.2.1 HLT.out.2.2.2
      have HAP := hid hap
      have HCD := hid (HC.out.keptNo HCW.out)
      clear hje hjl2 hjn hjb hx2 hEV hBY hap
      go_wp2_with fail
      refine (HEC2.out _ _ _ _ HCD.out HR.out HEV.out HBY.out HAP.out).mono ?_
      rintro e w4 ⟨rfl, hR4, hC4⟩
      have hC5 : Chg No w w4 := HCW.out.trans' hC4 fun q hq ⟨x, hx, e⟩ => by have := HR.out.ge x hx; omega
      have HR4 := hid hR4
      have HC5 := hid hC5
      clear hR4 hC4 hC5
      go_wp2_with fail
      go_ret
      exact ⟨_, _, rfl, HR4.out, HFU.out, HC5.out⟩
end Go.Proofs.YtpnmmedjamkmeaaGreat

/- The walk of the law's fixed. -/
set_option linter.unusedSimpArgs false
set_option linter.unusedVariables false
set_option linter.unusedSimpArgs false
namespace Go.Proofs.YtpnmmedjamkmeaaGreat
open Go.RowKit

theorem prm22 : prm 2 ((2 : Nat) : Int) := by
  unfold prm; decide
theorem fac00 : fac 2 0 0 = 44235 := by
  unfold fac gdiv
  rw [show p2 2 = 2 from by decide, show el 0 ^^^ el (2 + 0) = 44234 from by decide, ← inv_unique (a := 44234) (b := 44235) (by omega) (by omega) (by decide)]
  decide
theorem fac01 : fac 2 0 1 = 44234 := by
  unfold fac gdiv
  rw [show p2 2 = 2 from by decide, show el 0 ^^^ el (2 + 1) = 44235 from by decide, ← inv_unique (a := 44235) (b := 44234) (by omega) (by omega) (by decide)]
  decide
theorem fac10 : fac 2 1 0 = 44234 := by
  unfold fac gdiv
  rw [show p2 2 = 2 from by decide, show el 1 ^^^ el (2 + 0) = 44235 from by decide, ← inv_unique (a := 44235) (b := 44234) (by omega) (by omega) (by decide)]
  decide
theorem fac11 : fac 2 1 1 = 44235 := by
  unfold fac gdiv
  rw [show p2 2 = 2 from by decide, show el 1 ^^^ el (2 + 1) = 44234 from by decide, ← inv_unique (a := 44234) (b := 44235) (by omega) (by omega) (by decide)]
  decide
theorem par_fixed : par 2 2 2 [[1, 0], [0, 0]] = [[203, 172], [202, 172]] := by
  have h0 : parTo 2 2 [[1, 0], [0, 0]] 0 2 = [203, 172] := by
    simp only [parTo, fac00, fac01]
    decide +kernel
  have h1 : parTo 2 2 [[1, 0], [0, 0]] 1 2 = [202, 172] := by
    simp only [parTo, fac10, fac11]
    decide +kernel
  have : par 2 2 2 [[1, 0], [0, 0]] = [parTo 2 2 [[1, 0], [0, 0]] 0 2, parTo 2 2 [[1, 0], [0, 0]] 1 2] := rfl
  rw [this, h0, h1]
theorem ds_fixed : Ds 2 2 [[1, 0], [0, 0]] := by
  refine ⟨rfl, fun i hi => ?_, fun i b => ?_, rfl, by omega, by omega⟩
  · have : i = 0 ∨ i = 1 := by omega
    rcases this with rfl | rfl <;> rfl
  · by_cases h : i < 2
    · have : i = 0 ∨ i = 1 := by omega
      by_cases hb : b < 2
      · have hb' : b = 0 ∨ b = 1 := by omega
        rcases this with rfl | rfl <;> rcases hb' with rfl | rfl <;> decide
      · rw [gn_out _ _ (by rcases this with rfl | rfl <;> (show 2 ≤ b; omega))]; omega
    · rw [gl_out _ _ (by show 2 ≤ i; omega)]; simp [gn]
/-- Four rows of two bytes, written out. -/
theorem lit4 (w : World) (a0 a1 b0 b1 c0 c1 d0 d1 : Nat) :
    Rws (((((w.alloc (.cells #[.int .u8 (a0 : Int), .int .u8 (a1 : Int)] 5)).alloc (.cells #[.int .u8 (b0 : Int), .int .u8 (b1 : Int)] 5)).alloc (.cells #[.int .u8 (c0 : Int), .int .u8 (c1 : Int)] 5)).alloc
      (.cells #[.int .u8 (d0 : Int), .int .u8 (d1 : Int)] 5)).alloc (.cells #[.slice (some ⟨w.heap.size, 0, none⟩) 2 2, .slice (some ⟨w.heap.size + 1, 0, none⟩) 2 2, .slice (some ⟨w.heap.size + 1 + 1, 0, none⟩) 2 2, .slice (some ⟨w.heap.size + 1 + 1 + 1, 0, none⟩) 2 2] 35))
      35 5 .u8 (w.heap.size + 1 + 1 + 1 + 1) [⟨w.heap.size, [a0, a1], []⟩, ⟨w.heap.size + 1, [b0, b1], []⟩, ⟨w.heap.size + 1 + 1, [c0, c1], []⟩, ⟨w.heap.size + 1 + 1 + 1, [d0, d1], []⟩] [] := by
  have h1 : Own (w.alloc (.cells #[.int .u8 (a0 : Int), .int .u8 (a1 : Int)] 5)) 5 w.heap.size (nv .u8 [a0, a1]) [] := heap_alloc_new w _
  generalize hw1 : w.alloc (.cells #[.int .u8 (a0 : Int), .int .u8 (a1 : Int)] 5) = w1 at *
  have s1 : w1.heap.size = w.heap.size + 1 := by rw [← hw1]; simp
  have h2 : Own (w1.alloc (.cells #[.int .u8 (b0 : Int), .int .u8 (b1 : Int)] 5)) 5 w1.heap.size (nv .u8 [b0, b1]) [] := heap_alloc_new w1 _
  replace h1 := h1.alloc (.cells #[.int .u8 (b0 : Int), .int .u8 (b1 : Int)] 5)
  generalize hw2 : w1.alloc (.cells #[.int .u8 (b0 : Int), .int .u8 (b1 : Int)] 5) = w2 at *
  have s2 : w2.heap.size = w1.heap.size + 1 := by rw [← hw2]; simp
  have h3 : Own (w2.alloc (.cells #[.int .u8 (c0 : Int), .int .u8 (c1 : Int)] 5)) 5 w2.heap.size (nv .u8 [c0, c1]) [] := heap_alloc_new w2 _
  replace h1 := h1.alloc (.cells #[.int .u8 (c0 : Int), .int .u8 (c1 : Int)] 5)
  replace h2 := h2.alloc (.cells #[.int .u8 (c0 : Int), .int .u8 (c1 : Int)] 5)
  generalize hw3 : w2.alloc (.cells #[.int .u8 (c0 : Int), .int .u8 (c1 : Int)] 5) = w3 at *
  have s3 : w3.heap.size = w2.heap.size + 1 := by rw [← hw3]; simp
  have h4 : Own (w3.alloc (.cells #[.int .u8 (d0 : Int), .int .u8 (d1 : Int)] 5)) 5 w3.heap.size (nv .u8 [d0, d1]) [] := heap_alloc_new w3 _
  replace h1 := h1.alloc (.cells #[.int .u8 (d0 : Int), .int .u8 (d1 : Int)] 5)
  replace h2 := h2.alloc (.cells #[.int .u8 (d0 : Int), .int .u8 (d1 : Int)] 5)
  replace h3 := h3.alloc (.cells #[.int .u8 (d0 : Int), .int .u8 (d1 : Int)] 5)
  generalize hw4 : w3.alloc (.cells #[.int .u8 (d0 : Int), .int .u8 (d1 : Int)] 5) = w4 at *
  have s4 : w4.heap.size = w3.heap.size + 1 := by rw [← hw4]; simp
  have e1 : w1.heap.size = w.heap.size + 1 := s1
  have e2 : w2.heap.size = w.heap.size + 1 + 1 := by omega
  have e3 : w3.heap.size = w.heap.size + 1 + 1 + 1 := by omega
  have e4 : w4.heap.size = w.heap.size + 1 + 1 + 1 + 1 := by omega
  rw [e1] at h2
  rw [e2] at h3
  rw [e3] at h4
  refine ⟨?_, ?_, ?_, ?_, ?_⟩
  · rw [← e4]; exact heap_alloc_new w4 _
  · intro x hx
    simp only [List.mem_cons, List.not_mem_nil, or_false] at hx
    rcases hx with rfl | rfl | rfl | rfl
    · exact h1.alloc _
    · exact h2.alloc _
    · exact h3.alloc _
    · exact h4.alloc _
  · simp; omega
  · intro x hx
    simp only [List.mem_cons, List.not_mem_nil, or_false] at hx
    rcases hx with rfl | rfl | rfl | rfl <;> simp only <;> omega
  · intro x hx
    simp only [List.mem_cons, List.not_mem_nil, or_false] at hx
    rcases hx with rfl | rfl | rfl | rfl <;> simp
theorem lit4_chg (w : World) (o1 o2 o3 o4 o5 : Obj) : Chg No w (((((w.alloc o1).alloc o2).alloc o3).alloc o4).alloc o5) := ((((Chg.refl _ _).alloc _).alloc _).alloc _).alloc _ |>.alloc _
set_option maxRecDepth 20000 in
set_option maxHeartbeats 3200000 in
theorem fixed_calls (w : World) :
    Calls Tryz.prog 7 #[] w fun e w' => e = .returned (.bool true) ∧ Chg No w w' := by
  have HCO := hid (fun w => codecs_calls 2 2 prm22 w)
  unfold CodecsPost at HCO
  go_enter Tryz.func7, Tryz.ntmps7
  go_wp2_with fail
  refine (HCO.out _).mono ?_
  rintro e w1 ⟨G, C, W, T, K, rfl, hCs, hG, hC1⟩
  have HCS := hid hCs
  have HG := hid hG
  have HC1 := hid hC1
  clear hCs hG hC1
  go_wp2_with fail
  go_loopw [7] (fun i wr => ∃ i' : Nat, i' ≤ 2 ∧ i = .int .i64 (i' : Int) ∧ Chg No w1 wr) (fun i _ => 2 - (intOf i).toNat)
  case atStart => exact ⟨0, by omega, rfl, Chg.refl _ _⟩
  case round =>
    obtain ⟨i, hi, rfl, hC2⟩ := hrel
    obtain ⟨w2, rfl⟩ : ∃ w2 : World, w2 = wr := ⟨_, rfl⟩
    have HC2 := hid hC2
    clear hC2
    by_cases hil : i < 2
    · obtain ⟨f, hf⟩ : ∃ f : Bool, w2.cell? ⟨G, i, none⟩ = some (.pointer (some ⟨C f, 0, none⟩)) := by
        have ho := HCS.out.own.keptNo HC2.out
        have : i = 0 ∨ i = 1 := by omega
        rcases this with rfl | rfl
        · exact ⟨false, ho.cell (i := 0) (by simp)⟩
        · exact ⟨true, ho.cell (i := 1) (by simp)⟩
      go_wp2_with fail
      have hR := lit4 w2 1 0 0 0 9 9 9 9
      have hCL := lit4_chg w2 (.cells #[.int .u8 1, .int .u8 0] 5) (.cells #[.int .u8 0, .int .u8 0] 5) (.cells #[.int .u8 9, .int .u8 9] 5) (.cells #[.int .u8 9, .int .u8 9] 5)
        (.cells #[.slice (some ⟨w2.heap.size, 0, none⟩) 2 2, .slice (some ⟨w2.heap.size + 1, 0, none⟩) 2 2, .slice (some ⟨w2.heap.size + 1 + 1, 0, none⟩) 2 2, .slice (some ⟨w2.heap.size + 1 + 1 + 1, 0, none⟩) 2 2] 35)
      change Rws (((((w2.alloc (.cells #[.int .u8 1, .int .u8 0] 5)).alloc (.cells #[.int .u8 0, .int .u8 0] 5)).alloc (.cells #[.int .u8 9, .int .u8 9] 5)).alloc (.cells #[.int .u8 9, .int .u8 9] 5)).alloc
        (.cells #[.slice (some ⟨w2.heap.size, 0, none⟩) 2 2, .slice (some ⟨w2.heap.size + 1, 0, none⟩) 2 2, .slice (some ⟨w2.heap.size + 1 + 1, 0, none⟩) 2 2, .slice (some ⟨w2.heap.size + 1 + 1 + 1, 0, none⟩) 2 2] 35)) _ _ _ _ _ _ at hR
      generalize ((((w2.alloc (.cells #[.int .u8 1, .int .u8 0] 5)).alloc (.cells #[.int .u8 0, .int .u8 0] 5)).alloc (.cells #[.int .u8 9, .int .u8 9] 5)).alloc (.cells #[.int .u8 9, .int .u8 9] 5)).alloc
        (.cells #[.slice (some ⟨w2.heap.size, 0, none⟩) 2 2, .slice (some ⟨w2.heap.size + 1, 0, none⟩) 2 2, .slice (some ⟨w2.heap.size + 1 + 1, 0, none⟩) 2 2, .slice (some ⟨w2.heap.size + 1 + 1 + 1, 0, none⟩) 2 2] 35) = w3 at *
      have hcd := HCS.out.cd f
      have hlt := hcd.lts
      have hs2 := HC2.out.size
      have HENC := hid (Encode_calls f (parC f) (C f) 2 2 (mu (p2 2 + 2)) (W f) (T f) (K f) 2 4 4 (w2.heap.size + 1 + 1 + 1 + 1) _ [] w3 (hcd.keptNo (HC2.out.trans hCL)) hR rfl
        (Ds.ev (k := 2) (m := 2) (n := 2) (ds := [[1, 0], [0, 0]]) (js := [[9, 9], [9, 9]]) ds_fixed rfl (by intro l hl; simp at hl; subst hl; rfl) (by omega) (by omega)) (Byt.app (a := [[1, 0], [0, 0]]) (b := [[9, 9], [9, 9]]) ds_fixed.lb (by
          intro i x
          by_cases h : i < 2
          · have : i = 0 ∨ i = 1 := by omega
            by_cases hb : x < 2
            · have hb' : x = 0 ∨ x = 1 := by omega
              rcases this with rfl | rfl <;> rcases hb' with rfl | rfl <;> decide
            · rw [gn_out _ _ (by rcases this with rfl | rfl <;> (show 2 ≤ x; omega))]; omega
          · rw [gl_out _ _ (by show 2 ≤ i; omega)]; simp [gn])) (by omega) (Apart.new (b := w2.heap.size) (by
            intro x hx
            simp only [List.mem_cons, List.not_mem_nil, or_false] at hx
            rcases hx with rfl | rfl | rfl | rfl <;> simp only <;> omega) (by omega) (by omega) (by omega) (by omega)))
      have HFU := hid (encTo_full (k := 2) (m := 2) (n := 2) (ds := [[1, 0], [0, 0]]) (js := [[9, 9], [9, 9]]) (xs := [⟨w2.heap.size, [1, 0], []⟩, ⟨w2.heap.size + 1, [0, 0], []⟩, ⟨w2.heap.size + 1 + 1, [9, 9], []⟩, ⟨w2.heap.size + 1 + 1 + 1, [9, 9], []⟩]) ds_fixed rfl rfl (by intro l hl; simp at hl; subst hl; rfl))
      have HCL := hid hCL
      clear hR hCL hcd hlt hs2
      refine HENC.out.mono ?_
      rintro e w4 ⟨rfl, hR4, hC4⟩
      have hL4 := hR4.lr
      rw [HFU.out, par_fixed] at hL4
      have HL4 := hid hL4
      have hC5 : Chg No w2 w4 := HCL.out.trans' hC4 fun q hq ⟨x, hx, e⟩ => by
        simp only [List.mem_cons, List.not_mem_nil, or_false] at hx
        rcases hx with rfl | rfl | rfl | rfl <;> simp only at e <;> omega
      have HC5 := hid hC5
      clear hR4 hC4 hL4 hC5 HENC HFU HCL
      generalize w2.heap.size + 1 + 1 + 1 + 1 = g2 at *
      go_wp2_with fail
      have hR := lit4 w4 1 0 0 0 203 172 202 172
      have hCL := lit4_chg w4 (.cells #[.int .u8 1, .int .u8 0] 5) (.cells #[.int .u8 0, .int .u8 0] 5) (.cells #[.int .u8 203, .int .u8 172] 5) (.cells #[.int .u8 202, .int .u8 172] 5)
        (.cells #[.slice (some ⟨w4.heap.size, 0, none⟩) 2 2, .slice (some ⟨w4.heap.size + 1, 0, none⟩) 2 2, .slice (some ⟨w4.heap.size + 1 + 1, 0, none⟩) 2 2, .slice (some ⟨w4.heap.size + 1 + 1 + 1, 0, none⟩) 2 2] 35)
      change Rws (((((w4.alloc (.cells #[.int .u8 1, .int .u8 0] 5)).alloc (.cells #[.int .u8 0, .int .u8 0] 5)).alloc (.cells #[.int .u8 203, .int .u8 172] 5)).alloc (.cells #[.int .u8 202, .int .u8 172] 5)).alloc
        (.cells #[.slice (some ⟨w4.heap.size, 0, none⟩) 2 2, .slice (some ⟨w4.heap.size + 1, 0, none⟩) 2 2, .slice (some ⟨w4.heap.size + 1 + 1, 0, none⟩) 2 2, .slice (some ⟨w4.heap.size + 1 + 1 + 1, 0, none⟩) 2 2] 35)) _ _ _ _ _ _ at hR
      generalize ((((w4.alloc (.cells #[.int .u8 1, .int .u8 0] 5)).alloc (.cells #[.int .u8 0, .int .u8 0] 5)).alloc (.cells #[.int .u8 203, .int .u8 172] 5)).alloc (.cells #[.int .u8 202, .int .u8 172] 5)).alloc
        (.cells #[.slice (some ⟨w4.heap.size, 0, none⟩) 2 2, .slice (some ⟨w4.heap.size + 1, 0, none⟩) 2 2, .slice (some ⟨w4.heap.size + 1 + 1, 0, none⟩) 2 2, .slice (some ⟨w4.heap.size + 1 + 1 + 1, 0, none⟩) 2 2] 35) = w5 at *
      have HALL := hid (all_calls (some ⟨g2, 0, none⟩) (some ⟨w4.heap.size + 1 + 1 + 1 + 1, 0, none⟩) 4 4 4 4 [[1, 0], [0, 0], [203, 172], [202, 172]] [[1, 0], [0, 0], [203, 172], [202, 172]] w5 (HL4.out.keptNo hCL) hR.lr rfl rfl (by unfold maxLen; omega))
      have HC6 := hid (HC5.out.trans hCL)
      clear hR hCL
      refine HALL.out.mono ?_
      rintro e w6 ⟨rfl, hC6⟩
      have HC7 := hid ((HC2.out.trans HC6.out).trans hC6)
      have hdd : decide (([[1, 0], [0, 0], [203, 172], [202, 172]] : List (List Nat)) = [[1, 0], [0, 0], [203, 172], [202, 172]]) = true := by decide
      rw [hdd]
      clear hC6 hdd
      go_wp2_with fail
      go_roundw
      case rel => exact ⟨i + 1, by omega, by go_num, HC7.out⟩
      case measure => simp [intOf]; omega
    · have hie : ¬ i < 2 := hil
      go_wp2_with fail
      refine (HCO.out _).mono ?_
      rintro e w3 ⟨G, C, W, T, K, rfl, hCs, hG, hC3⟩
      have HC3 := hid ((HC1.out.trans HC2.out).trans hC3)
      clear hCs hG hC3
      go_wp2_with fail
      go_ret
      exact ⟨rfl, HC3.out⟩
end Go.Proofs.YtpnmmedjamkmeaaGreat

/- The walk of the law's good. -/
set_option linter.unusedSimpArgs false
set_option linter.unusedVariables false
set_option linter.unusedSimpArgs false
namespace Go.Proofs.YtpnmmedjamkmeaaGreat
open Go.RowKit

/-- Is the work light? -/
def lightB (k m n : Nat) : Bool := decide (n ≤ 4194304 ∧ k * m * (n + 64) ≤ 8388608 ∧ (k + m) * n ≤ 4194304)
theorem light_eq (k n x : Nat) (h : prm k (x : Int)) (hn : n ≤ 140737488355328) (w : World) :
    Calls Tryz.prog 20 #[.int .i64 (k : Int), .int .i64 (x : Int), .int .i64 (n : Int)] w fun e w' => e = .returned (.bool (lightB k x n)) ∧ w' = w := by
  obtain ⟨a, b, c, d, _⟩ := h
  by_cases h1 : n ≤ 4194304
  · have d1 : decide ((n : Int) ≤ 4194304) = true := by simp; omega
    have hkx : k * x ≤ 65536 * 65536 := Nat.mul_le_mul c (by omega)
    have hkxn : k * x * (n + 64) ≤ 65536 * 65536 * (4194304 + 64) := Nat.mul_le_mul hkx (by omega)
    have hs : (k + x) * n ≤ 131072 * 4194304 := Nat.mul_le_mul (by omega) h1
    have E1 : ((k : Int) * (x : Int)) = ((k * x : Nat) : Int) := by simp
    have E2 : (((k * x : Nat) : Int) * ((n : Int) + 64)) = ((k * x * (n + 64) : Nat) : Int) := by simp
    have E3 : (((k : Int) + (x : Int)) * (n : Int)) = (((k + x) * n : Nat) : Int) := by simp
    have W1 : IntKind.i64.wrap ((k : Int) * (x : Int)) = ((k * x : Nat) : Int) := by rw [E1]; exact IntWalk.i64_in _ (by omega)
    have W2 : IntKind.i64.wrap (((k * x : Nat) : Int) * ((n : Int) + 64)) = ((k * x * (n + 64) : Nat) : Int) := by rw [E2]; exact IntWalk.i64_in _ (by omega)
    have W3 : IntKind.i64.wrap (((k : Int) + (x : Int)) * (n : Int)) = (((k + x) * n : Nat) : Int) := by rw [E3]; exact IntWalk.i64_in _ (by omega)
    clear E1 E2 E3
    have HL : Hid (lightB k x n = decide (n ≤ 4194304 ∧ k * x * (n + 64) ≤ 8388608 ∧ (k + x) * n ≤ 4194304)) := hid rfl
    generalize k * x * (n + 64) = B at *
    generalize (k + x) * n = C at *
    generalize k * x = A at *
    by_cases h2 : B ≤ 8388608
    · have d2 : decide ((B : Int) ≤ 8388608) = true := by simp; omega
      go_enter Tryz.func20, Tryz.ntmps20
      go_wp2_with fail
      go_ret
      refine ⟨?_, rfl⟩
      rw [HL.out]
      show Ending.returned (.bool (decide ((C : Int) ≤ 4194304))) = _
      congr 2
      rw [decide_eq_decide]
      constructor
      · intro h; exact ⟨h1, h2, by omega⟩
      · intro h; have := h.2.2; omega
    · have d2 : decide ((B : Int) ≤ 8388608) = false := by simp; omega
      go_enter Tryz.func20, Tryz.ntmps20
      go_wp2_with fail
      go_ret
      refine ⟨?_, rfl⟩
      rw [HL.out, decide_eq_false (fun h => h2 h.2.1)]; rfl
  · have d1 : decide ((n : Int) ≤ 4194304) = false := by simp; omega
    have HL : Hid (lightB k x n = false) := hid (decide_eq_false (fun h => h1 h.1))
    go_enter Tryz.func20, Tryz.ntmps20
    go_wp2_with fail
    go_ret
    exact ⟨by rw [HL.out]; rfl, rfl⟩

/-- What good promises. -/
def GoodPost (n : Nat) (m : Int) (ds : List (List Nat)) (w : World) (e : Ending) (w' : World) : Prop :=
  ∃ t : Bool, e = .returned (.bool t) ∧ (t = true → ∃ x len : Nat, m = (x : Int) ∧ prm n (x : Int) ∧ Ds n len ds ∧ 2 ≤ len ∧ lightB n x len = true) ∧ Chg No w w'

set_option maxRecDepth 20000 in
set_option maxHeartbeats 3200000 in
theorem good_calls (m : Int) (p q : Option Addr) (n c ll lc : Nat) (ds : List (List Nat)) (w : World) (hl : Lr w .u8 p ds) (hn : ds.length = n) (hb : Byt ds) :
    Calls Tryz.prog 8 #[.agg #[.int .i64 m, .slice p n c, .slice q ll lc]] w (GoodPost n m ds w) := by
  have HL := hid hl
  have HN := hid hn
  have HB := hid hb
  by_cases hp : prm n m
  · obtain ⟨x, rfl⟩ : ∃ x : Nat, m = x := ⟨m.toNat, by have := hp.2.1; omega⟩
    have HP := hid (refParams_calls n (x : Int))
    rw [decide_eq_true hp] at HP
    have HPR := hid hp
    have hp1 := hp.1
    have hp3 := hp.2.2.1
    obtain ⟨b0, o0, q0, cc0, rfl, hd0, _, hln0, _⟩ := hl 0 (by omega)
    rw [Nat.add_zero] at hd0
    obtain ⟨len, hlen⟩ : ∃ len, (gl ds 0).length = len := ⟨_, rfl⟩
    rw [hlen] at hd0 hln0
    have HLE := hid (light_eq n len x hp hln0)
    clear hl hn hb hp
    generalize hLB : lightB n x len = LB at *
    have HLB := hid hLB
    have HLEN := hid hlen
    clear hLB hlen
    go_enter Tryz.func8, Tryz.ntmps8
    go_wp2_with fail
    refine (HP.out _).mono ?_
    rintro e w1 ⟨rfl, rfl⟩
    obtain ⟨w2, hw2⟩ : ∃ w2, w2 = w.alloc (.cells #[.int .i64 (x : Int), .slice (some ⟨b0, o0, none⟩) n c, .slice q ll lc] 25) := ⟨_, rfl⟩
    have hC2 : Chg No w w2 := by rw [hw2]; exact (Chg.refl _ _).alloc _
    have hS : Own w2 25 w.heap.size [.int .i64 (x : Int), .slice (some ⟨b0, o0, none⟩) n c, .slice q ll lc] [] := by rw [hw2]; exact heap_alloc_new w _
    rw [← hw2]
    have s0 : w2.cell? ⟨w.heap.size, 0, none⟩ = some (.int .i64 (x : Int)) := hS.cell (i := 0) (by simp)
    have s1 : w2.cell? ⟨w.heap.size, 1, none⟩ = some (.slice (some ⟨b0, o0, none⟩) n c) := hS.cell (i := 1) (by simp)
    have hd0 := hC2.cell hd0 id
    have HL2 := hid (HL.out.keptNo hC2)
    have HC2 := hid hC2
    clear hw2 hS hC2
    go_wp2_with fail
    go_loopw [15] (fun i wr => ∃ j : Nat, j ≤ n ∧ i = .int .i64 (j : Int) ∧ (∀ y, y < j → (gl ds y).length = len ∧ 2 ≤ len ∧ len % 2 = 0) ∧ wr = w2) (fun i _ => n - (intOf i).toNat)
    case atStart => exact ⟨0, by omega, rfl, fun y h => by omega, rfl⟩
    case round =>
      obtain ⟨j, hj, rfl, hs, rfl⟩ := hrel
      have HS := hid hs
      clear hs
      by_cases hjl : j < n
      · obtain ⟨b1, o1, q1, cc1, he, hd1, _, hln1, _⟩ := HL2.out j (by rw [HN.out]; exact hjl)
        obtain ⟨rfl, rfl⟩ : b0 = b1 ∧ o0 = o1 := by simpa using he
        obtain ⟨lj, hlj⟩ : ∃ lj, (gl ds j).length = lj := ⟨_, rfl⟩
        rw [hlj] at hd1 hln1
        have HLJ := hid hlj
        clear he hlj
        by_cases k1 : lj < 2
        · have d1 : decide ((lj : Int) < 2) = true := by simp; omega
          go_wp2_with fail
          go_ret
          exact ⟨false, rfl, fun h => Bool.noConfusion h, HC2.out⟩
        have d1 : decide ((lj : Int) < 2) = false := by simp; omega
        by_cases k2 : lj % 2 = 0
        · have d2 : ((lj : Int) % 2 != 0) = false := by rw [bne_eq_false_iff_eq]; omega
          have d2' : ((lj : Int) % 2 == 0) = true := by rw [beq_iff_eq]; omega
          by_cases k3 : lj = len
          · have d3 : ((lj : Int) != (len : Int)) = false := by rw [bne_eq_false_iff_eq]; omega
            have d3' : ((lj : Int) == (len : Int)) = true := by rw [beq_iff_eq]; omega
            have HK := hid (And.intro k1 (And.intro k2 k3))
            clear k1 k2 k3
            go_wp2_with fail
            go_roundw
            case rel => exact ⟨j + 1, by omega, by go_num, fun y h => by
              by_cases e : y = j
              · subst e
                obtain ⟨k1, k2, k3⟩ := HK.out
                exact ⟨by rw [HLJ.out, k3], by omega, by omega⟩
              · exact HS.out y (by omega), by first | rfl | trivial⟩
            case measure => simp [intOf]; omega
          · have d3 : ((lj : Int) != (len : Int)) = true := by simp; omega
            have d3' : ((lj : Int) == (len : Int)) = false := by rw [beq_eq_false_iff_ne]; omega
            clear k2 k3
            go_wp2_with fail
            go_ret
            exact ⟨false, rfl, fun h => Bool.noConfusion h, HC2.out⟩
        · have d2 : ((lj : Int) % 2 != 0) = true := by simp; omega
          have d2' : ((lj : Int) % 2 == 0) = false := by rw [beq_eq_false_iff_ne]; omega
          clear k2
          go_wp2_with fail
          go_ret
          exact ⟨false, rfl, fun h => Bool.noConfusion h, HC2.out⟩
      · have hje : ¬ j < n := hjl
        have HF : Hid (∀ y, y < n → (gl ds y).length = len ∧ 2 ≤ len ∧ len % 2 = 0) := hid (fun y h => HS.out y (by omega))
        go_wp2_with fail
        go_quiet ((go_at_call 20; exact Calls.quiet_of_same (HLE.out _)))
        go_wp2_with fail
        go_ret
        refine ⟨LB, rfl, fun h => ?_, HC2.out.drewN _⟩
        have hf := HF.out 0 (by omega)
        have hlb : lightB n x len = true := by rw [HLB.out, h]
        have hsm : len ≤ 4194304 := (of_decide_eq_true hlb).1
        exact ⟨x, len, rfl, HPR.out, ⟨HN.out, fun i hi => (HF.out i hi).1, HB.out, hf.2.2, hsm, by omega⟩, hf.2.1, hlb⟩
  · have HP := hid (refParams_calls n m)
    rw [decide_eq_false hp] at HP
    clear hl hn hb hp
    go_enter Tryz.func8, Tryz.ntmps8
    go_wp2_with fail
    refine (HP.out _).mono ?_
    rintro e w1 ⟨rfl, rfl⟩
    go_wp2_with fail
    go_ret
    exact ⟨false, rfl, fun h => Bool.noConfusion h, (Chg.refl _ _).alloc _⟩
end Go.Proofs.YtpnmmedjamkmeaaGreat
