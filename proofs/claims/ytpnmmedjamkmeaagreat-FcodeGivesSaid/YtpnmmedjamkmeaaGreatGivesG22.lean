/- The walk of FcodeGives. -/
import Derived.Test.YtpnmmedjamkmeaaGreatGivesG19
import Derived.Test.YtpnmmedjamkmeaaGreatGivesG21
set_option linter.unusedSimpArgs false
set_option linter.unusedVariables false
set_option linter.unusedSimpArgs false
namespace Go.Proofs.YtpnmmedjamkmeaaGreat
open Go.RowKit

theorem wrapIdx4 (y : Int) (k m : Nat) : ∃ i : Nat, i ≤ k + m ∧ (y.tmod ((k + m + 1 : Nat) : Int) + (k : Int) + (m : Int) + 1).tmod ((k + m + 1 : Nat) : Int) = (i : Int) := by
  obtain ⟨i, h1, h2⟩ := wrapIdx y (k + m + 1) (by omega)
  refine ⟨i, by omega, ?_⟩
  rw [← h2]; congr 1; omega
/-- Rows of a copy, as rows with holes. -/
theorem Hr.of_rws {w : World} {B : Nat → Prop} {G : Nat} {xs : List Pc} {r0 : List Value} (h : Rws w 35 5 .u8 G xs r0) (hB : B G) (hx : ∀ x ∈ xs, ¬ B x.b) : Hr w B G (xs.map Pc.d) (xs.map Pc.v) r0 := by
  refine ⟨h.out, by simp, hB, fun i hi => ?_⟩
  rw [List.length_map] at hi
  have hm : xs[i] ∈ xs := List.getElem_mem hi
  have hg : gl (xs.map Pc.d) i = xs[i].d := by rw [gl_get _ _ (by simpa using hi)]; simp
  refine ⟨some ⟨xs[i].b, 0, none⟩, xs[i].d.length + xs[i].r.length, by rw [hg]; simp [Pc.v], by rw [hg]; exact (h.inn _ hm).rn, fun x e => ?_, by rw [hg]; exact h.len _ hm, by rw [hg]; omega⟩
  simp only [Option.some.injEq] at e
  subst e; exact hx _ hm
def clTo (cl : Nat → Bool) (j : Nat) : Nat → Bool := fun i => cl i && decide (i < j)
theorem rows_set {cw : List (List Nat)} {cl : Nat → Bool} {t j : Nat} (hj : j < t) (h : cl j = true) : (rowsOf cw (clTo cl j) t).set j [] = rowsOf cw (clTo cl (j + 1)) t := by
  refine ext_gl (by simp) fun i hi => ?_
  rw [List.length_set, rowsOf_length] at hi
  rw [gl_set _ _ _ _ (by simpa using hj), gl_rowsOf _ _ _ _ hi, gl_rowsOf _ _ _ _ hi]
  unfold clTo
  by_cases e : i = j
  · subst e; simp [h]
  · rw [if_neg e]
    by_cases h2 : i < j
    · simp [h2, show i < j + 1 from by omega]
    · simp [h2, show ¬ i < j + 1 from by omega]
theorem rows_skip {cw : List (List Nat)} {cl : Nat → Bool} {t j : Nat} (h : cl j = false) : rowsOf cw (clTo cl j) t = rowsOf cw (clTo cl (j + 1)) t := by
  refine ext_gl (by simp) fun i hi => ?_
  rw [rowsOf_length] at hi
  rw [gl_rowsOf _ _ _ _ hi, gl_rowsOf _ _ _ _ hi]
  unfold clTo
  by_cases e : i = j
  · subst e; simp [h]
  · by_cases h2 : i < j
    · simp [h2, show i < j + 1 from by omega]
    · simp [h2, show ¬ i < j + 1 from by omega]
theorem rows_full {cw : List (List Nat)} {cl : Nat → Bool} {t : Nat} : rowsOf cw (clTo cl t) t = rowsOf cw cl t := by
  refine ext_gl (by simp) fun i hi => ?_
  rw [rowsOf_length] at hi
  rw [gl_rowsOf _ _ _ _ hi, gl_rowsOf _ _ _ _ hi]
  unfold clTo
  simp [hi]
theorem take_rows {cw : List (List Nat)} {cl : Nat → Bool} {t k : Nat} (hk : k ≤ t) (hl : cw.length = t) : (rowsOf cw (fun i => cl i && decide (k ≤ i)) t).take k = cw.take k := by
  refine ext_gl (by simp [hl]) fun i hi => ?_
  rw [List.length_take, rowsOf_length] at hi
  rw [gl_take _ _ _ (by omega), gl_take _ _ _ (by omega), gl_rowsOf _ _ _ _ (by omega)]
  simp [show ¬ k ≤ i from by omega]

set_option maxRecDepth 100000 in
set_option maxHeartbeats 12800000 in
theorem gives_walk (m y : Int) (p q : Option Addr) (k c ll lc : Nat) (ds : List (List Nat)) (hs : List Int) (w : World) (hl : Lr w .u8 p ds) (hlk : ds.length = k) (hb : Byt ds) (hh : Rd w .i64 q hs) (hhl : hs.length = ll) :
    Calls Tryz.prog 3 #[dataV m p q k c ll lc, .int .i64 y] w fun e w' => e = .returned (.bool true) ∧ Chg No w w' := by
  unfold dataV
  have HL := hid hl
  have HH := hid hh
  have HHL := hid hhl
  have HFX := hid fixed_calls
  have HGD := hid (fun w h => good_calls m p q k c ll lc ds w h hlk hb)
  have HLK := hid hlk
  unfold GoodPost at HGD
  clear hl hlk hb hh hhl
  go_enter Tryz.func3, Tryz.ntmps3
  go_wp2_with fail
  refine (HFX.out _).mono ?_
  rintro e w1 ⟨rfl, hC1⟩
  have hS : Own (w.alloc (.cells #[.int .i64 m, .slice p k c, .slice q ll lc] 25)) 25 w.heap.size [.int .i64 m, .slice p k c, .slice q ll lc] [] := heap_alloc_new w _
  have hS1 := hS.keptNo hC1
  have hC : Chg No w w1 := ((Chg.refl No w).alloc _).trans hC1
  have s0 : w1.cell? ⟨w.heap.size, 0, none⟩ = some (.int .i64 m) := hS1.cell (i := 0) (by simp)
  have s1 : w1.cell? ⟨w.heap.size, 1, none⟩ = some (.slice p k c) := hS1.cell (i := 1) (by simp)
  have s2 : w1.cell? ⟨w.heap.size, 2, none⟩ = some (.slice q ll lc) := hS1.cell (i := 2) (by simp)
  have HS := hid hS1
  have HC := hid hC
  generalize w.heap.size = D at *
  clear hS hS1 hC1 hC
  go_wp2_with fail
  refine (HGD.out _ (HL.out.keptNo HC.out)).mono ?_
  rintro e w2 ⟨t, rfl, hgd, hC2⟩
  have HC2 := hid (HC.out.trans hC2)
  have HS2 := hid (HS.out.keptNo hC2)
  clear hC2 s0 s1 s2 HS HC
  cases t with
  | false =>
    clear hgd
    go_wp2_with fail
    go_ret
    exact ⟨rfl, HC2.out⟩
  | true =>
    obtain ⟨x, n, rfl, hprm, hds, hn2, hlt⟩ := hgd rfl
    have HPRM := hid hprm
    have HDS := hid hds
    obtain ⟨b0, o0, q0, cc0, rfl, hd0, _, _⟩ := HL.out 0 (by rw [HLK.out]; exact hprm.1)
    have hk1 := hprm.1
    have hk2 := hprm.2.2.1
    have hm1 := hprm.2.1
    have hm2 := hprm.2.2.2.1
    have hn4 := hds.small
    have hn1 := hds.pos
    have hkm : k + x ≤ 131072 := by omega
    have s0 : w2.cell? ⟨D, 0, none⟩ = some (.int .i64 (x : Int)) := HS2.out.cell (i := 0) (by simp)
    have s1 : w2.cell? ⟨D, 1, none⟩ = some (.slice (some ⟨b0, o0, none⟩) k c) := HS2.out.cell (i := 1) (by simp)
    have HCO := hid (fun w => codecs_calls k x hprm w)
    unfold CodecsPost at HCO
    clear hgd hprm hds hd0 HGD HFX hlt
    go_wp2_with fail
    go_quiet (fail)
    obtain ⟨w3, hw3⟩ : ∃ w3, w3 = w2.drewN nq := ⟨_, rfl⟩
    rw [← hw3]
    have HC3 : Hid (Chg No w w3) := hid (by rw [hw3]; exact HC2.out.drewN _)
    have HS3 : Hid (Own w3 25 D [.int .i64 (x : Int), .slice (some ⟨b0, o0, none⟩) k c, .slice q ll lc] []) := hid (by rw [hw3]; exact HS2.out.drewN _)
    clear hw3 s0 s1 HC2 HS2
    have s2 : w3.cell? ⟨D, 2, none⟩ = some (.slice q ll lc) := HS3.out.cell (i := 2) (by simp)
    obtain ⟨tt, htt⟩ : ∃ tt, tt = k + x := ⟨_, rfl⟩
    have HTT := hid htt
    obtain ⟨cn, hcn, hci⟩ := wrapIdx4 y k x
    have e1 : (k : Int) + (x : Int) = (tt : Int) := by omega
    have e2 : (tt : Int) + 1 = ((tt + 1 : Nat) : Int) := by omega
    rw [← htt] at hcn hci hkm
    obtain ⟨T1, hT1⟩ : ∃ T1, T1 = tt + 1 := ⟨_, rfl⟩
    rw [← hT1] at e2 hci
    have hz1 : -(T1 : Int) < y.tmod (T1 : Int) := by
      have := Int.lt_tmod_of_pos y (b := (T1 : Int)) (by omega); omega
    have hz2 : y.tmod (T1 : Int) < (T1 : Int) := Int.tmod_lt_of_pos y (by omega)
    have ht0 : ((T1 : Int) == 0) = false := by rw [beq_eq_false_iff_ne]; omega
    obtain ⟨z, hz⟩ : ∃ z, y.tmod (T1 : Int) = z := ⟨_, rfl⟩
    rw [hz] at hz1 hz2 hci
    have hz0 := hz
    have hwa : IntKind.i64.wrap (z + (k : Int)) = z + (k : Int) := IntWalk.i64_in _ (by omega)
    have hwb : IntKind.i64.wrap (z + (k : Int) + (x : Int)) = z + (k : Int) + (x : Int) := IntWalk.i64_in _ (by omega)
    have hwc : IntKind.i64.wrap (z + (k : Int) + (x : Int) + 1) = z + (k : Int) + (x : Int) + 1 := IntWalk.i64_in _ (by omega)
    have HCH := hid (fun w (h : Rd w .i64 q hs) => chosen_calls q ll lc tt cn hs w h HHL.out (by omega) hkm hcn)
    unfold ChosenPost at HCH
    have HRH := hid (HH.out.kept HC3.out fun _ _ => id)
    have hT2 : T1 ≤ 131073 := by omega
    have hT3 : 1 ≤ T1 := by omega
    clear htt hT1 hz
    go_wp2_with fail
    refine (HCH.out _ HRH.out).mono ?_
    rintro e w4 ⟨GL, cl, rfl, hO4, hcnt, hGL, hC4⟩
    have HO4 := hid hO4
    have HCN := hid hcnt
    have HC4 := hid (HC3.out.trans hC4)
    have HS4 := hid (HS3.out.keptNo hC4)
    clear hO4 hcnt hGL hC4 HC3 HS3 HCH HRH s2 e2 hT2 hT3 hwa hwb hwc hci hz1 hz2 ht0 hz0
    go_wp2_with fail
    refine (HCO.out _).mono ?_
    rintro e w5 ⟨G, C, W, T, K, rfl, hCs, hG, hC5⟩
    have HCS := hid hCs
    have HC5 := hid (HC4.out.trans hC5)
    have HS5 := hid (HS4.out.keptNo hC5)
    have HO5 := hid (HO4.out.keptNo hC5)
    clear hCs hG hC5 HC4 HS4 HO4
    go_wp2_with fail
    go_loopw [57] (fun i wr => ∃ i' : Nat, i' ≤ 2 ∧ i = .int .i64 (i' : Int) ∧ Chg No w5 wr) (fun i _ => 2 - (intOf i).toNat)
    case atStart => exact ⟨0, by omega, rfl, Chg.refl _ _⟩
    case round =>
      obtain ⟨i, hi, rfl, hC6⟩ := hrel
      obtain ⟨w6, rfl⟩ : ∃ w6 : World, w6 = wr := ⟨_, rfl⟩
      have HC6 := hid hC6
      clear hC6
      by_cases hil : i < 2
      · as_aux_lemma =>
        obtain ⟨f, hf⟩ : ∃ f : Bool, w6.cell? ⟨G, i, none⟩ = some (.pointer (some ⟨C f, 0, none⟩)) := by
          have ho := HCS.out.own.keptNo HC6.out
          have : i = 0 ∨ i = 1 := by omega
          rcases this with rfl | rfl
          · exact ⟨false, ho.cell (i := 0) (by simp)⟩
          · exact ⟨true, ho.cell (i := 1) (by simp)⟩
        have hcd := (HCS.out.cd f).keptNo HC6.out
        have hlts := hcd.lts
        have s1 : w6.cell? ⟨D, 1, none⟩ = some (.slice (some ⟨b0, o0, none⟩) k c) := (HS5.out.keptNo HC6.out).cell (i := 1) (by simp)
        have hCw6 := HC5.out.trans HC6.out
        have HCW6 := hid hCw6
        have HEN := hid (encoded_calls f (C f) k x (mu (p2 x + k)) (W f) (T f) (K f) n c (some ⟨b0, o0, none⟩) ds w6 hcd HDS.out (HL.out.keptNo hCw6))
        unfold EncPost at HEN
        have HCD := hid hcd
        have HLTS := hid hlts
        have HO6 := hid (HO5.out.keptNo HC6.out)
        have HS6 := hid (HS5.out.keptNo HC6.out)
        clear hcd hlts hCw6 HO5 HS5 HCO
        generalize C f = Cf at *
        generalize W f = Wf at *
        generalize T f = Tf at *
        generalize K f = Kf at *
        generalize mu (p2 x + k) = rr at *
        clear HCS
        go_wp2_with fail
        refine HEN.out.mono ?_
        rintro e w7 ⟨v7, xs, rfl, hR7, hx7, hC7⟩
        have hCW : Cw k x n (k + x) (ds ++ par k x n ds) := cw_of HDS.out HPRM.out
        have hxl : xs.length = tt := by
          have := congrArg List.length hx7
          rwa [List.length_map, hCW.len, ← HTT.out] at this
        obtain ⟨Gs, rs, rfl, hR7, hGs, hms, hbs⟩ := hR7.some (by omega)
        rw [hxl] at hms ⊢
        obtain ⟨ct, hct⟩ : ∃ ct, ct = tt + rs.length := ⟨_, rfl⟩
        rw [← hct] at hms ⊢
        have hkt : k ≤ ct := by have := HTT.out; omega
        have hkt2 : k ≤ tt := by have := HTT.out; omega
        have hLs := hR7.lr
        rw [hx7] at hLs
        have hLs1 := hLs.take k
        rw [List.take_left' HLK.out] at hLs1
        have hLd := HL.out.keptNo (HCW6.out.trans hC7)
        have hA1 := fun N => all_q (some ⟨Gs, 0, none⟩) (some ⟨b0, o0, none⟩) k k ct c ds ds (w7.drewN N) (hLs1.keptNo ((Chg.refl No w7).drewN N)) (hLd.keptNo ((Chg.refl No w7).drewN N)) HLK.out HLK.out (by unfold maxLen; omega)
        simp only [decide_true] at hA1
        have HA1 := hid hA1
        have HR7 := hid hR7
        have HX7 := hid hx7
        have HC7 := hid hC7
        have hnt : ((tt : Int) != (tt : Int)) = false := by simp
        have s1 : w7.cell? ⟨D, 1, none⟩ = some (.slice (some ⟨b0, o0, none⟩) k c) := (HS6.out.keptNo hC7).cell (i := 1) (by simp)
        have k0 : (0 : Int) ≤ (k : Int) := by omega
        have k1 : (k : Int) ≤ (ct : Int) := by omega
        have k2 : (k : Int) ≤ (tt : Int) := by omega
        clear hR7 hx7 hC7 hLs hLs1 hLd hA1 hxl hGs hbs hCW hct HEN
        go_wp2_with fail
        go_quiet ((go_at_call 12; with_reducible exact Calls.quiet_of (HA1.out _)))
        obtain ⟨w8, hw8⟩ : ∃ w8, w8 = w7.drewN nq := ⟨_, rfl⟩
        rw [← hw8]
        have hC78 : Chg No w7 w8 := by rw [hw8]; exact (Chg.refl _ _).drewN _
        have HC8 := hid (HC7.out.trans hC78)
        have HR8 := hid (HR7.out.keptNo hC78)
        clear hw8 hC78 HR7 s1 HA1 HC7 hnt
        have hCPA := fun w' (h : Chg No w8 w') => Copies_calls (some ⟨Gs, 0, none⟩) ct tt (ds ++ par k x n ds) w' (by have := (HR8.out.keptNo h).lr; rwa [HX7.out] at this) (by rw [(cw_of HDS.out HPRM.out).len, ← HTT.out]) (by omega)
        unfold CopyPost at hCPA
        have HCP := hid hCPA
        clear hCPA
        obtain ⟨cw, hcw⟩ : ∃ cw, cw = ds ++ par k x n ds := ⟨_, rfl⟩
        rw [← hcw] at HX7 HCP
        have HCWE := hid hcw
        have HCW : Hid (Cw k x n tt cw) := hid (by rw [hcw, HTT.out]; exact cw_of HDS.out HPRM.out)
        clear hcw
        go_wp2_with fail
        refine (HCP.out w8 (Chg.refl _ _)).mono ?_
        rintro e w9 ⟨va, xa, rfl, hRa, hxa, hC9⟩
        have hxal : xa.length = tt := by
          have := congrArg List.length hxa
          rwa [List.length_map, HCW.out.len] at this
        obtain ⟨Ga, ra, rfl, hRa, hGa, hma, hba⟩ := hRa.some (by omega)
        rw [hxal] at hma ⊢
        obtain ⟨ca, hca⟩ : ∃ ca, ca = tt + ra.length := ⟨_, rfl⟩
        rw [← hca] at hma ⊢
        have HRa := hid hRa
        have HXa := hid hxa
        have HC9 := hid hC9
        have HMa := hid hca
        clear hRa hxa hC9 hba hca hxal
        go_wp2_with fail
        refine (HCP.out w9 HC9.out).mono ?_
        rintro e w10 ⟨vb, xb, rfl, hRb, hxb, hC10⟩
        have hxbl : xb.length = tt := by
          have := congrArg List.length hxb
          rwa [List.length_map, HCW.out.len] at this
        obtain ⟨Gb, rb, rfl, hRb, hGb, hmb, hbb⟩ := hRb.some (by omega)
        rw [hxbl] at hmb ⊢
        obtain ⟨cb, hcb⟩ : ∃ cb, cb = tt + rb.length := ⟨_, rfl⟩
        rw [← hcb] at hmb ⊢
        obtain ⟨B, hB⟩ : ∃ B : Nat → Prop, B = fun b => b = Ga ∨ b = Gb := ⟨_, rfl⟩
        have hag := HRa.out.out.lt
        have hbg := hRb.out.lt
        have hs9 := hC10.size
        have hs8 := HC9.out.size
        have hr0 : cw = rowsOf cw (clTo cl 0) tt := (rows_none HCW.out.len (fun i _ => by simp [clTo])).symm
        have hHa : Hr w10 B Ga (rowsOf cw (clTo cl 0) tt) (xa.map Pc.v) ra := by
          have := Hr.of_rws (B := B) (HRa.out.keptNo hC10) (by rw [hB]; exact .inl rfl) (fun y hy h => by
            rw [hB] at h
            rcases h with h | h
            · exact HRa.out.ne y hy h
            · have := HRa.out.blk hy; omega)
          rwa [HXa.out, hr0] at this
        have hHb : Hr w10 B Gb (rowsOf cw (clTo cl 0) tt) (xb.map Pc.v) rb := by
          have := Hr.of_rws (B := B) hRb (by rw [hB]; exact .inr rfl) (fun y hy h => by
            rw [hB] at h
            rcases h with h | h
            · have := hbb y hy; omega
            · exact hRb.ne y hy h)
          rwa [hxb, hr0] at this
        have HHa := hid hHa
        have HHb := hid hHb
        have HC10 := hid (HC9.out.trans hC10)
        have HBE := hid hB
        have hab : Ga ≠ Gb := by omega
        have hGb8 : w8.heap.size ≤ Gb := by omega
        have hkb : k ≤ cb := by omega
        have hka : k ≤ ca := by have := HMa.out; omega
        clear hRb hxb hC10 hbb hcb hxbl hHa hHb HRa HXa HMa hB hr0 hag hbg hs9 hs8 HCP hma hmb hGb
        go_wp2_with fail
        go_loopw [87] (fun i wr => ∃ (j : Nat) (vsa vsb : List Value), j ≤ tt ∧ i = .int .i64 (j : Int) ∧ Hr wr B Ga (rowsOf cw (clTo cl j) tt) vsa ra ∧ Hr wr B Gb (rowsOf cw (clTo cl j) tt) vsb rb ∧ Chg No w8 wr) (fun i _ => tt - (intOf i).toNat)
        case atStart => exact ⟨0, _, _, by omega, rfl, HHa.out, HHb.out, HC10.out⟩
        case round =>
          clear HHa HHb HC9 HC10
          obtain ⟨j, vsa, vsb, hj, rfl, hHa, hHb, hC11⟩ := hrel
          obtain ⟨w11, rfl⟩ : ∃ w11 : World, w11 = wr := ⟨_, rfl⟩
          have HHa := hid hHa
          have HHb := hid hHb
          have HC11 := hid hC11
          have HO11 := hid ((HO6.out.keptNo HC8.out).keptNo hC11)
          by_cases hjt : j < tt
          · as_aux_lemma =>
            have hjt2 : (j : Int) < (tt : Int) := by omega
            have hcl := HO11.out.cell' (bw_get cl tt j hjt)
            have hla : vsa.length = tt := by rw [hHa.len, rowsOf_length]
            have hlb : vsb.length = tt := by rw [hHb.len, rowsOf_length]
            cases hc : cl j with
            | true =>
              as_aux_lemma =>
              rw [hc] at hcl
              have hwA : Chg No w11 (w11.alloc (.cells #[] 5)) := (Chg.refl No w11).alloc _
              have hA1 := hHa.keptNo hwA
              have hB1 := hHb.keptNo hwA
              have hga := hA1.out.cell (i := j) (by omega)
              have hfa := hA1.out.frozen j
              have hBn : ¬ B w11.heap.size := fun h => by
                rw [HBE.out] at h
                have h1 := hHa.out.lt
                have h2 := hHb.out.lt
                rcases h with h | h <;> omega
              have hA2 : Hr ((w11.alloc (.cells #[] 5)).setCell ⟨Ga, j, none⟩ (.slice none 0 0)) B Ga ((rowsOf cw (clTo cl j) tt).set j []) (vsa.set j (.slice none 0 0)) ra :=
                hA1.set (i := j) (by omega) (q := none) (l := []) (c := 0) (Rn_nil _ _ _) (fun x h => by cases h) (by simp) (by simp)
              have hwS : Chg (Only Ga) (w11.alloc (.cells #[] 5)) ((w11.alloc (.cells #[] 5)).setCell ⟨Ga, j, none⟩ (.slice none 0 0)) := (Chg.refl (Only Ga) _).setCell (p := ⟨Ga, j, none⟩) (.inl rfl) _
              have hB2 := hB1.kept hwS (fun e => hab e.symm) (fun b e => by rw [show b = Ga from e]; exact hHa.bg)
              have hgb := hB2.out.cell (i := j) (by omega)
              have hfb := hB2.out.frozen j
              have hB3 : Hr (((w11.alloc (.cells #[] 5)).setCell ⟨Ga, j, none⟩ (.slice none 0 0)).setCell ⟨Gb, j, none⟩ (.slice (some ⟨w11.heap.size, 0, none⟩) 0 0)) B Gb ((rowsOf cw (clTo cl j) tt).set j []) (vsb.set j (.slice (some ⟨w11.heap.size, 0, none⟩) 0 0)) rb :=
                hB2.set (i := j) (by omega) (q := some ⟨w11.heap.size, 0, none⟩) (l := []) (c := 0) (Rn_nil _ _ _) (fun x h => by simp only [Option.some.injEq] at h; subst h; exact hBn) (by simp) (by simp)
              have hA3 := hA2.kept ((Chg.refl (Only Gb) _).setCell (p := ⟨Gb, j, none⟩) (.inl rfl) (.slice (some ⟨w11.heap.size, 0, none⟩) 0 0)) (fun e => hab e) (fun b e => by rw [show b = Gb from e]; exact hHb.bg)
              have hC12 : Chg No w8 (((w11.alloc (.cells #[] 5)).setCell ⟨Ga, j, none⟩ (.slice none 0 0)).setCell ⟨Gb, j, none⟩ (.slice (some ⟨w11.heap.size, 0, none⟩) 0 0)) :=
                ((hC11.alloc _).setCell (p := ⟨Ga, j, none⟩) (.inr hGa) _).setCell (p := ⟨Gb, j, none⟩) (.inr hGb8) _
              rw [rows_set hjt hc] at hA3 hB3
              generalize vsa[j] = va0 at hga
              generalize vsb[j] = vb0 at hgb
              have HA3 := hid hA3
              have HB3 := hid hB3
              have HC12 := hid hC12
              clear hA1 hB1 hA2 hwS hB2 hB3 hA3 hC12 hwA hBn hHa hHb hC11 hc hla hlb
              go_wp2_with fail
              go_roundw
              case rel => exact ⟨j + 1, _, _, by omega, by go_num, HA3.out, HB3.out, HC12.out⟩
              case measure => simp [intOf]; omega
            | false =>
              as_aux_lemma =>
              rw [hc] at hcl
              have hsk := rows_skip (cw := cw) (t := tt) hc
              have HA3 : Hid (Hr w11 B Ga (rowsOf cw (clTo cl (j + 1)) tt) vsa ra) := hid (by rw [← hsk]; exact hHa)
              have HB3 : Hid (Hr w11 B Gb (rowsOf cw (clTo cl (j + 1)) tt) vsb rb) := hid (by rw [← hsk]; exact hHb)
              clear hHa hHb hC11 hc hla hlb hsk
              go_wp2_with fail
              go_roundw
              case rel => exact ⟨j + 1, _, _, by omega, by go_num, HA3.out, HB3.out, HC11.out⟩
              case measure => simp [intOf]; omega
          · have hjn : j = tt := by omega
            subst hjn
            rw [rows_full] at hHa hHb
            have hjt2 : ¬ ((j : Int) < (j : Int)) := by omega
            have HHa := hid hHa
            have HHb := hid hHb
            have hCK := Copies_calls (some ⟨Ga, 0, none⟩) ca j (rowsOf cw cl j) w11 hHa.lr (by simp) (by omega)
            unfold CopyPost at hCK
            have HCK := hid hCK
            clear hCK hHa hHb hC11 hj hjt
            go_wp2_with fail
            refine HCK.out.mono ?_
            rintro e w12 ⟨vk, xk, rfl, hRk, hxk, hC12⟩
            have hxkl : xk.length = j := by
              have := congrArg List.length hxk
              rwa [List.length_map, rowsOf_length] at this
            obtain ⟨Gk, rk, rfl, hRk, hGk, hmk, hbk⟩ := hRk.some (by omega)
            rw [hxkl] at hmk ⊢
            obtain ⟨ck, hck⟩ : ∃ ck, ck = j + rk.length := ⟨_, rfl⟩
            rw [← hck] at hmk ⊢
            have hLk := hRk.lr
            rw [hxk] at hLk
            have HLK2 := hid hLk
            have hC612 := HC8.out.trans (HC11.out.trans hC12)
            have HCD := hid (HCD.out.keptNo hC612)
            have HO12 := hid (HO11.out.keptNo hC12)
            have HC12 := hid (HC11.out.trans hC12)
            have HHa := hid (HHa.out.keptNo hC12)
            have HHb := hid (HHb.out.keptNo hC12)
            have hs68 := HC8.out.size
            have hne : ∀ b, b < w6.heap.size → b ≠ Ga := fun b h => by omega
            have hc1 := hne Cf HLTS.out.1
            have hc2 := hne Wf HLTS.out.2.1
            have hc3 := hne Tf HLTS.out.2.2.1
            have hc4 := hne Kf HLTS.out.2.2.2
            have HNE : Hid (Cf ≠ Ga ∧ Wf ≠ Ga ∧ Tf ≠ Ga ∧ Kf ≠ Ga) := hid ⟨hc1, hc2, hc3, hc4⟩
            have hcj : (k : Int) + (x : Int) = (j : Int) := e1
            have hjj : cnt (k + x) cl = cn := by rw [← HTT.out]; exact HCN.out
            have HJJ := hid hjj
            have HSB : Hid (∀ w', Chg No w12 w' → ∀ b, B b → b < w'.heap.size) := hid (fun w' h b hb => by
              rw [HBE.out] at hb
              have h1 := HHa.out.out.lt
              have h2 := HHb.out.out.lt
              have h3 := h.size
              rcases hb with hb | hb <;> omega)
            clear hRk hxk hC12 hGk hbk hck hxkl hLk hne hc1 hc2 hc3 hc4 HCK HO11 hC612 hmk hjj
            by_cases hcx : cn ≤ x
            · as_aux_lemma =>
              have hR := Rec_ok f B Cf k x rr Wf Tf Kf n ca Ga ds cl vsa ra w12 HCD.out (by rw [← HCWE.out, ← HTT.out]; exact HHa.out) (HSB.out w12 (Chg.refl _ _)) HDS.out (by rw [HJJ.out]; exact hcx) HNE.out.1
              rw [← HTT.out, ← HCWE.out] at hR
              have HR := hid hR
              clear hR
              have hcx2 : ¬ ((x : Int) < (cn : Int)) := by omega
              go_wp2_with fail
              refine HR.out.mono ?_
              rintro e w13 ⟨rfl, ⟨vsa2, hHa2⟩, hC13⟩
              have hb13 := HHb.out.kept hC13 (fun e => hab e.symm) (fun b e => by rw [show b = Ga from e]; exact hHa2.bg)
              have hcd13 := HCD.out.kept hC13 HNE.out.1 HNE.out.2.1 HNE.out.2.2.1 HNE.out.2.2.2
              have hC8 : Chg No w8 w13 := HC12.out.trans' hC13 fun q hq e => by simp only [Only] at e; omega
              have hsB : ∀ b, B b → b < w13.heap.size := fun b hb => Nat.lt_of_lt_of_le (HSB.out w12 (Chg.refl _ _) b hb) hC13.size
              have hD := RecData_ok f B Cf k x rr Wf Tf Kf n cb Gb ds cl vsb rb w13 hcd13 (by rw [← HCWE.out, ← HTT.out]; exact hb13) hsB HDS.out (by rw [HJJ.out]; exact hcx)
              rw [← HTT.out, ← HCWE.out] at hD
              have HD := hid hD
              have HHa2 := hid hHa2
              have HC13 := hid hC8
              have HO13 := hid (HO12.out.kept hC13 (fun e => by
                have h := HO6.out.lt
                simp only [Only] at e
                omega))
              clear hD hb13 hcd13 hC8 hsB hHa2 hC13 HR
              go_wp2_with fail
              refine HD.out.mono ?_
              rintro e w14 ⟨rfl, ⟨vsb2, hHb2⟩, hC14⟩
              have hHa3 := HHa2.out.kept hC14 (fun e => hab e) (fun b e => by rw [show b = Gb from e]; exact hHb2.bg)
              have hC8 : Chg No w8 w14 := HC13.out.trans' hC14 fun q hq e => by simp only [Only] at e; omega
              have HO14 := hid (HO13.out.kept hC14 (fun e => by
                have h := HO6.out.lt
                simp only [Only] at e
                omega))
              have hLw := (HR8.out.keptNo hC8).lr
              rw [HX7.out] at hLw
              have hA1 := fun N => all_q (some ⟨Ga, 0, none⟩) (some ⟨Gs, 0, none⟩) j j ca ct cw cw (w14.drewN N) (hHa3.lr.keptNo ((Chg.refl No w14).drewN N)) (hLw.keptNo ((Chg.refl No w14).drewN N)) HCW.out.len HCW.out.len (by unfold maxLen; omega)
              have hLb := hHb2.lr.take k
              rw [take_rows hkt2 HCW.out.len] at hLb
              have htl : (cw.take k).length = k := by rw [List.length_take, HCW.out.len]; omega
              have hA2 := fun N => all_q (some ⟨Gb, 0, none⟩) (some ⟨Gs, 0, none⟩) k k cb ct (cw.take k) (cw.take k) (w14.drewN N) (hLb.keptNo ((Chg.refl No w14).drewN N)) ((hLw.take k).keptNo ((Chg.refl No w14).drewN N)) htl htl (by unfold maxLen; omega)
              simp only [decide_true] at hA1 hA2
              have HA1 := hid hA1
              have HA2 := hid hA2
              have HHb2 := hid hHb2
              have HC14 := hid hC8
              have hkb2 : (k : Int) ≤ (cb : Int) := by omega
              clear hHa3 hC8 hLw hA1 hLb htl hA2 hHb2 hC14 HD HHa2
              go_wp2_with fail
              go_quiet ((go_at_call 12; first | (with_reducible exact Calls.quiet_of (HA1.out _)) | (with_reducible exact Calls.quiet_of (HA2.out _))))
              obtain ⟨w15, hw15⟩ : ∃ w15, w15 = w14.drewN nq := ⟨_, rfl⟩
              rw [← hw15]
              have hC15 : Chg No w14 w15 := by rw [hw15]; exact (Chg.refl _ _).drewN _
              have HC15 := hid (HC14.out.trans hC15)
              have HHb3 := hid (HHb2.out.keptNo hC15)
              have HO15 := hid (HO14.out.keptNo hC15)
              have HR15 := hid (HR8.out.keptNo HC15.out)
              clear hw15 hC15 HA1 HA2 HHb2 HO14 HC14
              go_wp2_with fail
              go_loopw [19] (fun i wr => ∃ z : Nat, k ≤ z ∧ z ≤ j ∧ i = .int .i64 (z : Int) ∧ Chg No w15 wr) (fun i _ => j - (intOf i).toNat)
              case atStart => exact ⟨k, Nat.le_refl _, hkt2, rfl, Chg.refl _ _⟩
              case round =>
                obtain ⟨z, hkz, hzj, rfl, hC16⟩ := hrel
                obtain ⟨w16, rfl⟩ : ∃ w16 : World, w16 = wr := ⟨_, rfl⟩
                have HC16 := hid hC16
                clear hC16
                by_cases hzl : z < j
                · as_aux_lemma =>
                  have hzl2 : (z : Int) < (j : Int) := by omega
                  have z0 : (0 : Int) ≤ (z : Int) := by omega
                  have hcl := (HO15.out.keptNo HC16.out).cell' (bw_get cl j z hzl)
                  have hb16 := HHb3.out.keptNo HC16.out
                  have hlb : vsb2.length = j := by rw [hb16.len, rowsOf_length]
                  obtain ⟨qz, cz, hv, hrz, _, hlz, _⟩ := hb16.el z (by omega)
                  have hcb := hb16.out.cell (i := z) (by omega)
                  rw [hv] at hcb
                  rw [gl_rowsOf _ _ _ _ hzl] at hcb hrz hlz
                  have hxl : xs.length = j := by
                    have := congrArg List.length HX7.out
                    rwa [List.length_map, HCW.out.len] at this
                  have hcs := (HR15.out.keptNo HC16.out).cell (i := z) (by omega)
                  have hrs := ((HR15.out.keptNo HC16.out).inn _ (List.getElem_mem (show z < xs.length by omega))).rn
                  have hxd : (xs[z]'(by omega)).d = gl cw z := by
                    have h := HX7.out
                    rw [← h, gl_get _ _ (by simp; omega), List.getElem_map]
                  rw [hxd] at hrs
                  unfold Pc.v at hcs
                  rw [hxd, HCW.out.ln z hzl] at hcs
                  obtain ⟨bz, hbz⟩ : ∃ bz, bz = (xs[z]'(by omega)).b := ⟨_, rfl⟩
                  obtain ⟨cs, hcs2⟩ : ∃ cs, cs = n + (xs[z]'(by omega)).r.length := ⟨_, rfl⟩
                  rw [← hbz, ← hcs2] at hcs
                  rw [← hbz] at hrs
                  cases hc : cl z with
                  | true =>
                    as_aux_lemma =>
                    rw [hc] at hcl hcb
                    simp only [hkz, decide_true, Bool.and_self, if_true, List.length_nil] at hcb
                    clear hb16 hv hrz hlz hrs hxd hbz hcs2 hxl hlb
                    go_wp2_with fail
                    go_quiet (fail)
                    go_wp2_with fail
                    go_roundw
                    case rel => exact ⟨z + 1, by omega, by omega, by go_num, HC16.out.drewN _⟩
                    case measure => simp [intOf]; omega
                  | false =>
                    as_aux_lemma =>
                    rw [hc] at hcl hcb hrz hlz
                    simp only [Bool.false_and, Bool.false_eq_true, if_false] at hcb hrz hlz
                    have hln := HCW.out.ln z hzl
                    have HEQ := hid (fun w h1 h2 => equal_calls qz (some ⟨bz, 0, none⟩) n n cz cs (gl cw z) (gl cw z) w h1 h2 hln hln (by unfold maxLen; omega))
                    rw [hln] at hcb
                    simp only [decide_true] at HEQ
                    have HRZ := hid hrz
                    have HRS := hid hrs
                    clear hb16 hv hrz hlz hrs hxd hbz hcs2 hxl hlb hln
                    go_wp2_with fail
                    go_quiet ((go_at_call 16; exact Calls.quiet_of (HEQ.out _ HRZ.out HRS.out)))
                    go_wp2_with fail
                    go_roundw
                    case rel => exact ⟨z + 1, by omega, by omega, by go_num, HC16.out.drewN _⟩
                    case measure => simp [intOf]; omega
                · as_aux_lemma =>
                  obtain rfl : z = j := by omega
                  have hzl2 : ¬ ((z : Int) < (z : Int)) := by omega
                  have HCF := hid (((HC6.out.trans HC8.out).trans HC15.out).trans HC16.out)
                  go_wp2_with fail
                  go_roundw
                  case rel => exact ⟨i + 1, by omega, by go_num, HCF.out⟩
                  case measure => simp [intOf]; omega
            · as_aux_lemma =>
              have hR := Rec_no f Cf k x rr Wf Tf Kf n ca (some ⟨Ga, 0, none⟩) ds cl w12 HCD.out (by rw [← HCWE.out, ← HTT.out]; exact HHa.out.lr) HDS.out (by rw [HJJ.out]; omega)
              have hD := fun w' (h : Chg No w12 w') => RecData_no f Cf k x rr Wf Tf Kf n cb (some ⟨Gb, 0, none⟩) ds cl w' (HCD.out.keptNo h) (by rw [← HCWE.out, ← HTT.out]; exact HHb.out.lr.keptNo h) HDS.out (by rw [HJJ.out]; omega)
              rw [← HTT.out, HCN.out] at hR
              rw [← HTT.out, HCN.out] at hD
              have HAL := hid (fun p q c d w h1 h2 => all_calls p q j j c d (rowsOf cw cl j) (rowsOf cw cl j) w h1 h2 (by simp) (by simp) (by unfold maxLen; omega))
              simp only [decide_true] at HAL
              have hcx2 : (x : Int) < (cn : Int) := by omega
              have hpart : (((cn : Int) == (j : Int)) = true ∧ gone j cn = 161) ∨ (((cn : Int) == (j : Int)) = false ∧ gone j cn = 9) := by
                by_cases h : cn = j
                · exact .inl ⟨by rw [h]; simp, if_pos h⟩
                · exact .inr ⟨by rw [beq_eq_false_iff_ne]; omega, if_neg h⟩
              obtain ⟨v, hv⟩ : ∃ v, v = gone j cn := ⟨_, rfl⟩
              rw [← hv] at hR hD hpart
              have HR := hid hR
              have HD := hid hD
              clear hR hD hv
              rcases hpart with ⟨hd, rfl⟩ | ⟨hd, rfl⟩
              all_goals as_aux_lemma =>
                go_wp2_with fail
                refine HR.out.mono ?_
                rintro e w13 ⟨rfl, hC13⟩
                have HC13 := hid hC13
                clear hC13 HR
                go_wp2_with fail
                refine (HD.out w13 HC13.out).mono ?_
                rintro e w14 ⟨rfl, hC14⟩
                have HC14 := hid (HC13.out.trans hC14)
                clear hC14 HD HC13
                go_wp2_with fail
                refine (HAL.out _ _ _ _ w14 (HHa.out.lr.keptNo HC14.out) (HLK2.out.keptNo HC14.out)).mono ?_
                rintro e w15 ⟨rfl, hC15⟩
                have HC15 := hid (HC14.out.trans hC15)
                clear hC15 HC14
                go_wp2_with fail
                refine (HAL.out _ _ _ _ w15 (HHb.out.lr.keptNo HC15.out) (HLK2.out.keptNo HC15.out)).mono ?_
                rintro e w16 ⟨rfl, hC16⟩
                have HCF := hid (((HC6.out.trans HC8.out).trans HC12.out).trans (HC15.out.trans hC16))
                clear hC16 HC15
                go_wp2_with fail
                go_roundw
                case rel => exact ⟨i + 1, by omega, by go_num, HCF.out⟩
                case measure => simp [intOf]; omega
      · as_aux_lemma =>
        obtain rfl : i = 2 := by omega
        clear hil
        go_wp2_with fail
        refine (HCO.out _).mono ?_
        rintro e w7 ⟨G', C', W', T', K', rfl, hCs', hG', hC7⟩
        have HC7 := hid ((HC5.out.trans HC6.out).trans hC7)
        clear hCs' hG' hC7
        go_wp2_with fail
        go_ret
        exact ⟨rfl, HC7.out⟩
end Go.Proofs.YtpnmmedjamkmeaaGreat
