/- The walk of FcodeUpdates. -/
import Derived.Test.YtpnmmedjamkmeaaUpdatesG16
set_option linter.unusedSimpArgs false
set_option linter.unusedVariables false
set_option linter.unusedSimpArgs false
namespace Go.Proofs.Ytpnmmedjamkmeaa
open Go.RowKit

theorem Lr.drop {w : World} {kk : IntKind} {b off : Nat} {ls : List (List Nat)} (h : Lr w kk (some ⟨b, off, none⟩) ls) (k : Nat) : Lr w kk (some ⟨b, off + k, none⟩) (ls.drop k) := by
  intro i hi
  rw [List.length_drop] at hi
  obtain ⟨b1, o1, q, c, he, h1, h2⟩ := h (k + i) (by omega)
  obtain ⟨rfl, rfl⟩ : b = b1 ∧ off = o1 := by simpa using he
  rw [gl_drop]
  exact ⟨b, off + k, q, c, rfl, by rw [show off + k + i = off + (k + i) from by omega]; exact h1, h2⟩
theorem drop_app {α : Type} {a b : List α} {k : Nat} (h : a.length = k) : (a ++ b).drop k = b := by rw [← h, List.drop_left]
theorem take_app {α : Type} {a b : List α} {k : Nat} (h : a.length = k) : (a ++ b).take k = a := by rw [← h, List.take_left]
theorem fr_full {k n : Nat} {fs : List (List Nat)} (h : fs.length = k) (hl : ∀ y, y < k → (gl fs y).length = 0 ∨ (gl fs y).length = n) (hb : Byt fs) : Fr k n fs := ⟨h, hl, hb⟩

set_option maxRecDepth 100000 in
set_option maxHeartbeats 12800000 in
theorem updates_walk (m : Int) (p q ph : Option Addr) (k c ll lc hn hc : Nat) (ds fs : List (List Nat)) (w : World) (hl : Lr w .u8 p ds) (hlk : ds.length = k) (hb : Byt ds) (hf : Lr w .u8 ph fs) (hfk : fs.length = hn) (hfb : Byt fs) :
    Calls Try.prog 6 #[dataV m p q k c ll lc, .slice ph hn hc] w fun e w' => e = .returned (.bool true) ∧ Chg No w w' := by
  unfold dataV
  have HL := hid hl
  have HF := hid hf
  have HFX := hid fixed_calls
  have HGD := hid (fun w h => good_calls m p q k c ll lc ds w h hlk hb)
  have HLK := hid hlk
  have HFK := hid hfk
  have HFB := hid hfb
  unfold GoodPost at HGD
  clear hl hlk hb hf hfk hfb
  go_enter Try.func6, Try.ntmps6
  go_wp2_with fail
  refine (HFX.out _).mono ?_
  rintro e w1 ⟨rfl, hC1⟩
  have hS : Own (w.alloc (.cells #[.int .i64 m, .slice p k c, .slice q ll lc] 40)) 40 w.heap.size [.int .i64 m, .slice p k c, .slice q ll lc] [] := heap_alloc_new w _
  have hS1 := hS.keptNo hC1
  have hC : Chg No w w1 := ((Chg.refl No w).alloc _).trans hC1
  have s0 : w1.cell? ⟨w.heap.size, 0, none⟩ = some (.int .i64 m) := hS1.cell (i := 0) (by simp)
  have s1 : w1.cell? ⟨w.heap.size, 1, none⟩ = some (.slice p k c) := hS1.cell (i := 1) (by simp)
  have s2 : w1.cell? ⟨w.heap.size, 2, none⟩ = some (.slice q ll lc) := hS1.cell (i := 2) (by simp)
  have HS := hid hS1
  have HC := hid hC
  generalize w.heap.size = D at *
  clear hS hS1 hC1 hC
  go_wp2_with fail
  refine (HGD.out _ (HL.out.keptNo HC.out)).mono ?_
  rintro e w2 ⟨t, rfl, hgd, hC2⟩
  have HC2 := hid (HC.out.trans hC2)
  have HS2 := hid (HS.out.keptNo hC2)
  have s1 := hC2.cell s1 id
  clear hC2 s0 s2 HS HC
  cases t with
  | false =>
    clear hgd
    go_wp2_with fail
    go_ret
    exact ⟨rfl, HC2.out⟩
  | true =>
    obtain ⟨x, n, rfl, hprm, hds, hn2, hlt⟩ := hgd rfl
    have HPRM := hid hprm
    have HDS := hid hds
    by_cases hnk : k = hn
    · subst hnk
      obtain ⟨b0, o0, q0, cc0, rfl, hd0, _, _⟩ := HL.out 0 (by rw [HLK.out]; exact hprm.1)
      rw [hds.ln 0 hprm.1, Nat.add_zero] at hd0
      have hk1 := hprm.1
      have hk2 := hprm.2.2.1
      have hm1 := hprm.2.1
      have hm2 := hprm.2.2.2.1
      have hn4 := hds.small
      have hkm : k + x ≤ 131072 := by omega
      have s0 : w2.cell? ⟨D, 0, none⟩ = some (.int .i64 (x : Int)) := HS2.out.cell (i := 0) (by simp)
      have HD0 := hid hd0
      have HCO := hid (fun w => codecs_calls k x hprm w)
      unfold CodecsPost at HCO
      have hkk : ((k : Int) != (k : Int)) = false := by simp
      clear hgd hprm hds hd0 HGD HFX hlt
      go_wp2_with fail
      go_quiet (fail)
      obtain ⟨w3, hw3⟩ : ∃ w3, w3 = w2.drewN nq := ⟨_, rfl⟩
      rw [← hw3]
      have HC3 : Hid (Chg No w w3) := hid (by rw [hw3]; exact HC2.out.drewN _)
      have HS3 : Hid (Own w3 40 D [.int .i64 (x : Int), .slice (some ⟨b0, o0, none⟩) k c, .slice q ll lc] []) := hid (by rw [hw3]; exact HS2.out.drewN _)
      have s1 : w3.cell? ⟨D, 1, none⟩ = some (.slice (some ⟨b0, o0, none⟩) k c) := HS3.out.cell (i := 1) (by simp)
      clear hw3 s0 HC2 HS2 hkk
      have hCP := Copies_calls (some ⟨b0, o0, none⟩) c k ds w3 (HL.out.keptNo HC3.out) HLK.out (by omega)
      unfold CopyPost at hCP
      have HCP := hid hCP
      clear hCP
      go_wp2_with fail
      refine HCP.out.mono ?_
      rintro e w4 ⟨v4, xs4, rfl, hR4, hx4, hC4⟩
      have hxl4 : xs4.length = k := by
        have := congrArg List.length hx4
        rwa [List.length_map, HLK.out] at this
      obtain ⟨G4, r4, rfl, hR4, hG4, hm4, hb4⟩ := hR4.some (by omega)
      rw [hxl4] at hm4 ⊢
      have HR4 := hid hR4
      have HX4 := hid hx4
      have HC4 := hid hC4
      have HB4 := hid hb4
      have HG4 := hid hG4
      obtain ⟨c4, hc4⟩ : ∃ c4, c4 = k + r4.length := ⟨_, rfl⟩
      rw [← hc4]
      have hc4k : k ≤ c4 := by omega
      clear hR4 hx4 hC4 hb4 hG4 hxl4 HCP hm4 hc4 s1
      go_wp2_with fail
      go_loopw [47] (fun i wr => ∃ (z : Nat) (xs : List Pc), z ≤ k ∧ i = .int .i64 (z : Int) ∧ Rws wr 42 5 .u8 G4 xs r4 ∧ xs.map Pc.d = nextTo z ds fs ∧ (∀ y ∈ xs, w3.heap.size ≤ y.b) ∧ (∀ y, y < z → (gl fs y).length = 0 ∨ (gl fs y).length = n) ∧ Chg No w3 wr) (fun i _ => k - (intOf i).toNat)
      case atStart => exact ⟨0, xs4, by omega, rfl, HR4.out, by rw [nextTo_zero]; exact HX4.out, HB4.out, fun y h => by omega, HC4.out⟩
      case round =>
        clear HR4 HX4 HB4 HC4
        obtain ⟨z, xs, hz, rfl, hR5, hx5, hb5, hl5, hC5⟩ := hrel
        obtain ⟨w5, rfl⟩ : ∃ w5 : World, w5 = wr := ⟨_, rfl⟩
        have HR5 := hid hR5
        have HX5 := hid hx5
        have HB5 := hid hb5
        have HL5 := hid hl5
        have HC5 := hid hC5
        have hxl : xs.length = k := by
          have := congrArg List.length hx5
          rwa [List.length_map, nextTo_length, HLK.out] at this
        have HXL := hid hxl
        have HCW := hid (HC3.out.trans hC5)
        clear hR5 hx5 hb5 hl5 hC5 hxl
        by_cases hzl : z < k
        · as_aux_lemma =>
          have s1 : w5.cell? ⟨D, 1, none⟩ = some (.slice (some ⟨b0, o0, none⟩) k c) := (HS3.out.keptNo HC5.out).cell (i := 1) (by simp)
          have c0 := HCW.out.cell HD0.out id
          obtain ⟨bf, of, qf, cf, rfl, hcf, hrf, hlf, hcfc⟩ := (HF.out.keptNo HCW.out) z (by rw [HFK.out]; exact hzl)
          obtain ⟨l, hle⟩ : ∃ l, l = gl fs z := ⟨_, rfl⟩
          rw [← hle] at hcf hrf hlf hcfc
          have HLE := hid hle
          have HRF := hid hrf
          clear hle hrf
          by_cases h0 : l.length = 0
          · rw [h0] at hcf
            have HZ : Hid ((gl fs z).length = 0) := hid (by rw [← HLE.out]; exact h0)
            clear h0 hlf hcfc
            go_wp2_with fail
            have hn5 := nextTo_skip (ds := ds) HZ.out
            have hl6 : ∀ y, y < z + 1 → (gl fs y).length = 0 ∨ (gl fs y).length = n := fun y hy => by
              by_cases e : y = z
              · rw [e]; exact .inl HZ.out
              · exact HL5.out y (by omega)
            have HL6 := hid hl6
            have HN5 := hid hn5
            clear hl6 hn5
            go_roundw
            case rel => exact ⟨z + 1, xs, by omega, by go_num, HR5.out, by rw [HN5.out]; exact HX5.out, HB5.out, HL6.out, HC5.out⟩
            case measure => simp [intOf]; omega
          · obtain ⟨lf, hlfe⟩ : ∃ lf, l.length = lf := ⟨_, rfl⟩
            rw [hlfe] at hcf h0 hlf hcfc
            have n0 : ((lf : Int) != 0) = true := by simp; omega
            have HLF := hid hlfe
            clear hlfe
            by_cases hln : lf = n
            · subst hln
              have n1 : ((lf : Int) != (lf : Int)) = false := by simp
              obtain ⟨b', off', rfl, _⟩ := HRF.out 0 (by rw [HLF.out]; omega)
              have HRC : Hid (∀ jj u, (nv .u8 l)[jj]? = some u → w5.cell? ((⟨b', off', none⟩ : Addr).add jj) = some u) := hid (by
                intro jj u hu
                have hadd : (⟨b', off', none⟩ : Addr).add jj = ⟨b', off' + jj, none⟩ := by unfold Addr.add; split <;> simp_all
                have hjl : jj < l.length := by
                  have := (List.getElem?_eq_some_iff.1 hu).1
                  simpa using this
                obtain ⟨b2, off2, he, hc2⟩ := HRF.out jj hjl
                obtain ⟨rfl, rfl⟩ : b' = b2 ∧ off' = off2 := by simpa using he
                rw [hadd, hc2, ← nv_get? _ _ _ hjl, hu])
              have HRA : Hid (∀ jj u, (nv .u8 l)[jj]? = some u → (w5.alloc (.cells #[] 5)).cell? ((⟨b', off', none⟩ : Addr).add jj) = some u) := hid (fun jj u hu =>
                ((Chg.refl No w5).alloc (.cells #[] 5)).cell (HRC.out jj u hu) id)
              have HER := hid (emptyRow w5 5)
              have HSZ : Hid (w5.heap.size ≤ (w5.alloc (.cells #[] 5)).heap.size) := hid (by simp)
              have HZX : Hid (z < xs.length) := hid (by rw [HXL.out]; exact hzl)
              have hnvl : (nv .u8 l).length = lf := by rw [nv_length]; exact HLF.out
              have HNV := hid hnvl
              clear hnvl hlf
              go_wp2_with (first
                | (at_builtin; (with_reducible refine wpList_app HER.out ⟨b', off', none⟩ (nv .u8 l) ?_ (.int .u8 0) lf cf 1 ?_ ?_ ?_ ?_ ?_ ?_ ?_ ?_ ?_ ?_); exact HRA.out; exact ⟨rfl, rfl⟩; exact HNV.out; exact Try.underlying42; kernel_rfl; rfl; exact nv_one; (unfold maxLen; omega); omega; exact HSZ.out; intro v2 W2 hO2 hg2
                   rcases own_of_ownsRow hO2 with ⟨_, h0, _⟩ | ⟨g2, cap2, rest2, hv2, hb2, hOg, hlg, hcg, hmg⟩
                   exact absurd h0 (by omega)
                   subst hv2
                   rw [List.nil_append] at hOg
                   have hC12 : Chg No w5 W2 := ((Chg.refl No w5).alloc (.cells #[] 5)).grown hg2 (fun k hk => .inr (by simp only [Value.ownBlock, Option.some.injEq] at hk; omega))
                   have hR2 := HR5.out.keptNo hC12
                   have hgc := hR2.cell HZX.out
                   have hgf := hR2.out.frozen z
                   generalize xs[z] = old7 at hgc
                   have HC12 := hid hC12
                   have HR2 := hid hR2
                   have HB2 := hid hb2
                   have HCG := hid hcg
                   have HMG := hid hmg
                   clear hg2 hC12 hb2 hcg hlg hR2 hmg
                   have HOG := hid hOg
                   clear hO2 hOg))
              have hv2 : (⟨g2, l, rest2⟩ : Pc).v = .slice (some ⟨g2, 0, none⟩) lf cap2 := by
                have := HCG.out
                simp only [Pc.v]; rw [← this, HLF.out, Nat.zero_add]
              have hne2 : ∀ y ∈ xs, y.b ≠ g2 := fun y hy => Nat.ne_of_lt (Nat.lt_of_lt_of_le (HR5.out.blk hy) HB2.out)
              have hG2 : g2 ≠ G4 := Nat.ne_of_gt (Nat.lt_of_lt_of_le HR5.out.out.lt HB2.out)
              have hR6 := HR2.out.swap HZX.out (x := ⟨g2, l, rest2⟩) HOG.out hne2 hG2 (by show l.length ≤ _; rw [HLF.out]; omega)
              rw [hv2] at hR6
              have hx6 : (xs.set z ⟨g2, l, rest2⟩).map Pc.d = nextTo (z + 1) ds fs := by
                rw [map_set_d, HX5.out]
                show (nextTo z ds fs).set z l = _
                rw [HLE.out]
                exact nextTo_set (by rw [HLK.out]; exact hzl) (by rw [← HLE.out, HLF.out]; omega)
              have hb6 : ∀ y ∈ xs.set z ⟨g2, l, rest2⟩, w3.heap.size ≤ y.b := fun y hy => by
                rcases List.mem_or_eq_of_mem_set hy with hy | rfl
                · exact HB5.out y hy
                · exact Nat.le_trans HC5.out.size HB2.out
              have hl6 : ∀ y, y < z + 1 → (gl fs y).length = 0 ∨ (gl fs y).length = lf := fun y hy => by
                by_cases e : y = z
                · rw [e, ← HLE.out, HLF.out]; exact .inr rfl
                · exact HL5.out y (by omega)
              have hC6 : Chg No w3 (W2.setCell ⟨G4, z, none⟩ (.slice (some ⟨g2, 0, none⟩) lf cap2)) := (HC5.out.trans HC12.out).setNew HG4.out _ _
              have HR6 := hid hR6
              have HX6 := hid hx6
              have HB6 := hid hb6
              have HL6 := hid hl6
              have HC6 := hid hC6
              clear hv2 hne2 hG2 hR6 hx6 hb6 hl6 hC6 hgc hgf
              go_roundw
              case rel => exact ⟨z + 1, _, by omega, by go_num, HR6.out, HX6.out, HB6.out, HL6.out, HC6.out⟩
              case measure => simp [intOf]; omega
            · have n1 : ((lf : Int) != (n : Int)) = true := by simp; omega
              clear hln h0 hlf hcfc
              go_wp2_with fail
              go_ret
              exact ⟨rfl, HCW.out⟩
        · as_aux_lemma =>
          have hze : z = k := by omega
          have hx5 : xs.map Pc.d = nextTo k ds fs := by rw [← hze]; exact HX5.out
          have hfr : Fr k n fs := fr_full HFK.out (fun y hy => HL5.out y (by omega)) HFB.out
          have HFR := hid hfr
          have hdn := ds_next HDS.out hfr
          have HDN := hid hdn
          have hLN : Lr w5 .u8 (some ⟨G4, 0, none⟩) (nextTo k ds fs) := by rw [← hx5]; exact HR5.out.lr
          have HLN := hid hLN
          have HUP := hid (fun xs' (h : xs'.map Pc.d = ds ++ par k x n ds) => upd_rows (xs := xs') HDS.out hfr h)
          have HNXL := hid hdn.lk
          have HNXN := hid hdn.ln
          generalize nextTo k ds fs = nx at *
          clear hze hx5 hfr hdn hLN HL5 HX5 HB5 HXL
          go_wp2_with fail
          refine (HCO.out _).mono ?_
          rintro e w7 ⟨G, C, W, T, K, rfl, hCs, hG, hC7⟩
          have HCS := hid hCs
          have HC7 := hid (HCW.out.trans hC7)
          have HS7 := hid (HS3.out.keptNo (HC5.out.trans hC7))
          have HLN7 := hid (HLN.out.keptNo hC7)
          have HR7 := hid (HR5.out.keptNo hC7)
          clear hCs hG hC7 HC5 HCW HLN HR5
          go_wp2_with fail
          go_loopw [79] (fun i wr => ∃ i' : Nat, i' ≤ 2 ∧ i = .int .i64 (i' : Int) ∧ Chg No w7 wr) (fun i _ => 2 - (intOf i).toNat)
          case atStart => exact ⟨0, by omega, rfl, Chg.refl _ _⟩
          case round =>
            obtain ⟨i, hi, rfl, hC8⟩ := hrel
            obtain ⟨w8, rfl⟩ : ∃ w8 : World, w8 = wr := ⟨_, rfl⟩
            have HC8 := hid hC8
            clear hC8
            by_cases hil : i < 2
            · as_aux_lemma =>
              obtain ⟨f, hf⟩ : ∃ f : Bool, w8.cell? ⟨G, i, none⟩ = some (.pointer (some ⟨C f, 0, none⟩)) := by
                have ho := HCS.out.own.keptNo HC8.out
                have : i = 0 ∨ i = 1 := by omega
                rcases this with rfl | rfl
                · exact ⟨false, ho.cell (i := 0) (by simp)⟩
                · exact ⟨true, ho.cell (i := 1) (by simp)⟩
              have hcd := (HCS.out.cd f).keptNo HC8.out
              have hlts := hcd.lts
              have s1 : w8.cell? ⟨D, 1, none⟩ = some (.slice (some ⟨b0, o0, none⟩) k c) := (HS7.out.keptNo HC8.out).cell (i := 1) (by simp)
              have HCW8 := hid (HC7.out.trans HC8.out)
              obtain ⟨tt, htt⟩ : ∃ tt, tt = k + x := ⟨_, rfl⟩
              have HEN := hid (fun w h1 h2 => encoded_calls f (C f) k x (mu (p2 x + k)) (W f) (T f) (K f) n c (some ⟨b0, o0, none⟩) ds w h1 HDS.out h2)
              have HEN2 := hid (fun w h1 h2 => encoded_calls f (C f) k x (mu (p2 x + k)) (W f) (T f) (K f) n c4 (some ⟨G4, 0, none⟩) nx w h1 HDN.out h2)
              have HUC := hid (fun c c2 G xs q r0 w h1 h2 h3 h4 h5 h6 h7 => Update_calls f (C f) k x (mu (p2 x + k)) (W f) (T f) (K f) n c c2 tt G xs q fs r0 w h1 h2 htt h3 h4 h5 HFR.out h6 h7)
              have HVC := hid (fun c p ls w h1 h2 h3 h4 h5 => Verify_calls f (parC f) (C f) k x (mu (p2 x + k)) (W f) (T f) (K f) n c tt p ls w h1 h2 htt h3 h4 h5)
              have HEC := hid (fun c G xs r0 w h1 h2 h3 h4 h5 h6 => Encode_calls f (parC f) (C f) k x (mu (p2 x + k)) (W f) (T f) (K f) n c tt G xs r0 w h1 h2 htt h3 h4 h5 h6)
              have HTT := hid htt
              have htk : k < tt := by omega
              have htt2 : tt ≤ 131072 := by omega
              have hadd : (k : Int) + (x : Int) = (tt : Int) := by omega
              clear htt
              unfold EncPost at HEN HEN2
              have HCD := hid hcd
              have HLTS := hid hlts
              clear hcd hlts
              generalize C f = Cf at *
              generalize W f = Wf at *
              generalize T f = Tf at *
              generalize K f = Kf at *
              generalize mu (p2 x + k) = rr at *
              clear HCS
              go_wp2_with fail
              refine (HEN.out _ HCD.out (HL.out.keptNo HCW8.out)).mono ?_
              rintro e w9 ⟨v9, xs9, rfl, hR9, hx9, hC9⟩
              have hxl9 : xs9.length = tt := by
                have := congrArg List.length hx9
                rw [HTT.out]; simpa [HDS.out.lk, par_length] using this
              obtain ⟨Gs, rs, rfl, hR9, hGs, hms, hbs⟩ := hR9.some (by omega)
              rw [hxl9] at hms ⊢
              obtain ⟨ct, hct⟩ : ∃ ct, ct = tt + rs.length := ⟨_, rfl⟩
              rw [← hct] at hms ⊢
              have HXL9 := hid hxl9
              have HR9 := hid hR9
              have HX9 := hid hx9
              have HC9 := hid hC9
              have HGS := hid hGs
              have HBS := hid hbs
              have HXB : Hid (∀ y ∈ xs9, y.b < w9.heap.size) := hid (fun y hy => hR9.blk hy)
              have hctk : tt ≤ ct := by omega
              clear hR9 hx9 hC9 hGs hbs hxl9 hct hf s1
              go_wp2_with fail
              refine (HEN2.out _ (HCD.out.keptNo HC9.out) (HLN7.out.keptNo (HC8.out.trans HC9.out))).mono ?_
              rintro e w10 ⟨v10, ws, rfl, hR10, hx10, hC10⟩
              have hwl : ws.length = tt := by
                have := congrArg List.length hx10
                rw [HTT.out]; simpa [HDN.out.lk, par_length] using this
              obtain ⟨Gw, rw', rfl, hR10, hGw, hmw, hbw⟩ := hR10.some (by omega)
              rw [hwl] at hmw ⊢
              obtain ⟨cw, hcw⟩ : ∃ cw, cw = tt + rw'.length := ⟨_, rfl⟩
              rw [← hcw] at hmw ⊢
              have hcwk : tt ≤ cw := by omega
              have HWL := hid hwl
              have HR10 := hid hR10
              have HX10 := hid hx10
              have HC10 := hid (HC9.out.trans hC10)
              have HR9 := hid (HR9.out.keptNo hC10)
              have HSZ9 := hid hC10.size
              have HGW := hid hGw
              have HBW := hid hbw
              clear hR10 hx10 hC10 hGw hbw hwl hcw HEN2
              have hCP := Copies_calls ph hc k fs w10 (HF.out.keptNo (HCW8.out.trans HC10.out)) HFK.out (by omega)
              unfold CopyPost at hCP
              have HCP := hid hCP
              clear hCP
              go_wp2_with fail
              refine HCP.out.mono ?_
              rintro e w11 ⟨v11, zs, rfl, hR11, hx11, hC11⟩
              have hzl : zs.length = k := by
                have := congrArg List.length hx11
                rwa [List.length_map, HFK.out] at this
              obtain ⟨Gz, rz, rfl, hR11, hGz, hmz, hbz⟩ := hR11.some (by omega)
              rw [hzl] at hmz ⊢
              obtain ⟨cz, hcz⟩ : ∃ cz, cz = k + rz.length := ⟨_, rfl⟩
              rw [← hcz] at hmz ⊢
              have hczk : k ≤ cz := by omega
              have HR11 := hid hR11
              have HX11 := hid hx11
              have HC11 := hid (HC10.out.trans hC11)
              have HR9 := hid (HR9.out.keptNo hC11)
              have HR10 := hid (HR10.out.keptNo hC11)
              have HSZ10 := hid hC11.size
              have HGZ := hid hGz
              have HBZ := hid hbz
              have hnt : ((tt : Int) != (tt : Int)) = false := by simp
              clear hR11 hx11 hC11 hGz hbz hzl hcz HCP
              have hev9 : Ev tt n (xs9.map Pc.d) := by rw [HX9.out, HTT.out]; exact HDS.out.ev (par_length _ _ _ _) par_mem hk1 hkm
              have hby9 : Byt (xs9.map Pc.d) := by rw [HX9.out]; exact Byt.app HDS.out.lb byt_par
              have hap9 : Apart xs9 Cf Wf Tf Kf := Apart.new HBS.out HLTS.out.1 HLTS.out.2.1 HLTS.out.2.2.1 HLTS.out.2.2.2
              have hLz : Lr w11 .u8 (some ⟨Gz, 0, none⟩) fs := by have := HR11.out.lr; rwa [HX11.out] at this
              have hU := HUC.out ct cz Gs xs9 (some ⟨Gz, 0, none⟩) rs w11 (HCD.out.keptNo HC11.out) HR9.out hev9 hby9 hLz hctk hap9
              have HU := hid hU
              have HAP9 := hid hap9
              clear hev9 hby9 hap9 hLz hU HUC
              go_wp2_with fail
              refine HU.out.mono ?_
              rintro e w12 ⟨rfl, hR12, hC12⟩
              obtain ⟨ys, hys⟩ : ∃ ys, ys = encTo k 0 n (updP k x 0 n (xs9.map Pc.d) fs) xs9 x := ⟨_, rfl⟩
              have hyd : ys.map Pc.d = ds ++ par k x n nx := by rw [hys]; exact HUP.out xs9 HX9.out
              have hyb : ys.map Pc.b = xs9.map Pc.b := by rw [hys]; exact encTo_b _ _ _ _ _ _
              rw [← hys] at hR12
              have hold : ∀ q, InB xs9 q → w8.heap.size ≤ q ∧ q < w9.heap.size := fun q ⟨y, hy, e⟩ => by
                rw [e]; exact ⟨HBS.out y hy, HXB.out y hy⟩
              have HOLD := hid hold
              have HC12 : Hid (Chg No w8 w12) := hid (HC11.out.trans' hC12 fun q hq s => by have := (hold q s).1; omega)
              have HR12 := hid hR12
              have HYD := hid hyd
              have HYB := hid hyb
              have HRW : Hid (Rws w12 42 5 .u8 Gw ws rw') := hid (HR10.out.kept hC12 (fun s => by have := (hold _ s).2; have := HGW.out; omega) (fun y hy s => by have := (hold _ s).2; have := HBW.out y hy; omega))
              have HRZ : Hid (Rws w12 42 5 .u8 Gz zs rz) := hid (HR11.out.kept hC12 (fun s => by have := (hold _ s).2; have := HGZ.out; have := HSZ9.out; omega) (fun y hy s => by have := (hold _ s).2; have := HBZ.out y hy; have := HSZ9.out; omega))
              have hLd : Lr w12 .u8 (some ⟨b0, o0, none⟩) ds := HL.out.keptNo (HCW8.out.trans HC12.out)
              have hLf : Lr w12 .u8 ph fs := HF.out.keptNo (HCW8.out.trans HC12.out)
              have hLs := HR12.out.lr
              rw [hyd] at hLs
              have hLw := HRW.out.lr
              rw [HX10.out] at hLw
              have hLz := HRZ.out.lr
              rw [HX11.out] at hLz
              have hLs1 := hLs.take k
              rw [take_app HLK.out] at hLs1
              have hLs2 := hLs.drop k
              rw [drop_app HLK.out, Nat.zero_add] at hLs2
              have hLw2 := hLw.drop k
              rw [drop_app HNXL.out, Nat.zero_add] at hLw2
              have hpl : (par k x n nx).length = tt - k := by rw [par_length, HTT.out]; omega
              have HPL := hid hpl
              have HLW2 := hid hLw2
              have hA1 := fun N => all_q (some ⟨Gs, 0, none⟩) (some ⟨b0, o0, none⟩) k k ct c ds ds (w12.drewN N) (hLs1.keptNo ((Chg.refl No w12).drewN N)) (hLd.keptNo ((Chg.refl No w12).drewN N)) HLK.out HLK.out (by unfold maxLen; omega)
              have hA2 := fun N => all_q (some ⟨Gs, k, none⟩) (some ⟨Gw, k, none⟩) (tt - k) (tt - k) (ct - k) (cw - k) (par k x n nx) (par k x n nx) (w12.drewN N) (hLs2.keptNo ((Chg.refl No w12).drewN N)) (hLw2.keptNo ((Chg.refl No w12).drewN N)) hpl hpl (by unfold maxLen; omega)
              have hA3 := fun N => all_q (some ⟨Gz, 0, none⟩) ph k k cz hc fs fs (w12.drewN N) (hLz.keptNo ((Chg.refl No w12).drewN N)) (hLf.keptNo ((Chg.refl No w12).drewN N)) HFK.out HFK.out (by unfold maxLen; omega)
              simp only [decide_true] at hA1 hA2 hA3
              have HA1 := hid hA1
              have HA2 := hid hA2
              have HA3 := hid hA3
              have s1 : w12.cell? ⟨D, 1, none⟩ = some (.slice (some ⟨b0, o0, none⟩) k c) := (HS7.out.keptNo (HC8.out.trans HC12.out)).cell (i := 1) (by simp)
              have k0 : (0 : Int) ≤ (k : Int) := by omega
              have k1 : (k : Int) ≤ (ct : Int) := by omega
              have k2 : (k : Int) ≤ (tt : Int) := by omega
              have k3 : ¬ (ct = k) := by omega
              have k4 : ¬ (cw = k) := by omega
              clear hold hR12 hC12 hyd hyb hys hLd hLf hLs hLw hLz hLs1 hLs2 hLw2 hpl hA1 hA2 hA3 HR9 HR10 HR11
              go_wp2_with fail
              go_quiet ((go_at_call 22; first | (with_reducible exact Calls.quiet_of (HA1.out _)) | (with_reducible exact Calls.quiet_of (HA2.out _)) | (with_reducible exact Calls.quiet_of (HA3.out _))))
              obtain ⟨w13, hw13⟩ : ∃ w13, w13 = w12.drewN nq := ⟨_, rfl⟩
              rw [← hw13]
              have hC13 : Chg No w12 w13 := by rw [hw13]; exact (Chg.refl _ _).drewN _
              have HC13 := hid (HC12.out.trans hC13)
              have HR13 := hid (HR12.out.keptNo hC13)
              have HRW := hid (HRW.out.keptNo hC13)
              clear hw13 hC13 s1 HA1 HA2 HA3 HLW2 HRZ HR12 HC12 HU HX11 HGZ HBZ HSZ10
              have hevL : ∀ js : List (List Nat), js = par k x n nx → ∀ es, Ds k n es → Ev tt n (es ++ js) := fun js hj es he => by
                rw [hj, HTT.out]; exact he.ev (par_length _ _ _ _) par_mem hk1 hkm
              have HEVL := hid (hevL _ rfl)
              have HBYL := hid (fun es (he : Ds k n es) => Byt.app (a := es) (b := par k x n nx) he.lb byt_par)
              have HLLN : Hid ((ds ++ par k x n nx).length = tt ∧ ∀ z, z < tt → (gl (ds ++ par k x n nx) z).length = n) := hid ⟨(HEVL.out _ HDS.out).lt, fun z h => (HEVL.out _ HDS.out).ln z h⟩
              clear hevL
              have hVF := HVC.out ct (some ⟨Gs, 0, none⟩) (ds ++ par k x n nx) w13 (HCD.out.keptNo HC13.out) (by have := HR13.out.lr; rwa [HYD.out] at this) (HEVL.out _ HDS.out) (HBYL.out _ HDS.out) hctk
              obtain ⟨was, hwas⟩ : ∃ was, decide (okSpan k x 0 n (ds ++ par k x n nx)) = was := ⟨_, rfl⟩
              rw [hwas] at hVF
              have HVF := hid hVF
              have HWAS := hid hwas
              clear hVF hwas
              go_wp2_with fail
              refine HVF.out.mono ?_
              rintro e w14 ⟨rfl, hC14⟩
              have HC14 := hid (HC13.out.trans hC14)
              have HR14 := hid (HR13.out.keptNo hC14)
              have HRW := hid (HRW.out.keptNo hC14)
              clear hC14 HVF HR13 HC13
              have HSRC : Hid (∀ w, Chg No w8 w → Lr w .u8 (some ⟨G4, 0, none⟩) nx) := hid (fun w h => HLN7.out.keptNo (HC8.out.trans h))
              have HESL : Hid (nx.length = k ∧ ∀ z, z < k → (gl nx z).length = n) := hid ⟨HNXL.out, HNXN.out⟩
              go_wp2_with fail
              have HLEN : Hid (ds.length = k) := HLK
              go_loopw [147] (fun i wr => ∃ (z : Nat) (us : List Pc), z ≤ k ∧ i = .int .i64 (z : Int) ∧ Rws wr 42 5 .u8 Gs us rs ∧ us.map Pc.d = wrTo z (ds ++ par k x n nx) nx ∧ us.map Pc.b = xs9.map Pc.b ∧ Chg (InB xs9) w14 wr) (fun i _ => k - (intOf i).toNat)
              case atStart => exact ⟨0, ys, by omega, rfl, HR14.out, by rw [wrTo_zero]; exact HYD.out, HYB.out, Chg.refl _ _⟩
              case round =>
                clear HR14 HYD HYB
                obtain ⟨z, us, hz, rfl, hR, hu, hub, hCz⟩ := hrel
                obtain ⟨wa, rfl⟩ : ∃ wa : World, wa = wr := ⟨_, rfl⟩
                have HRa := hid hR
                have HUa := hid hu
                have HUBa := hid hub
                have HCz := hid hCz
                have HCa : Hid (Chg No w8 wa) := hid (HC14.out.trans' hCz fun q hq s => by have := (HOLD.out q s).1; omega)
                clear hR hu hub hCz
                by_cases hzl : z < k
                · as_aux_lemma =>
                  have hul : us.length = tt := by
                    have := congrArg List.length HUa.out
                    rwa [List.length_map, wrTo_length, HLLN.out.1] at this
                  have hzi : z < us.length := by omega
                  obtain ⟨y, hye⟩ : ∃ y, y = us[z]'hzi := ⟨_, rfl⟩
                  have hcy := HRa.out.cell hzi
                  have hiy := HRa.out.inn _ (List.getElem_mem hzi)
                  have hyg : y.b ≠ Gs := by rw [hye]; exact HRa.out.ne _ (List.getElem_mem hzi)
                  rw [← hye] at hcy hiy
                  have hyd : y.d = gl (ds ++ par k x n nx) z := by
                    have this : gl (us.map Pc.d) z = gl (wrTo z (ds ++ par k x n nx) nx) z := by rw [HUa.out]
                    rw [gl_get _ _ (by simpa using hzi), gl_wrTo _ _ _ _ (by rw [HLLN.out.1]; omega), if_neg (by omega)] at this
                    rw [← this, hye]; simp
                  have hyn : y.d.length = n := by rw [hyd]; exact HLLN.out.2 z (by omega)
                  have hin : InB xs9 y.b := (HRa.out.other' HUBa.out y.b).1 ⟨y, by rw [hye]; exact List.getElem_mem hzi, rfl⟩
                  have hyo := (HOLD.out _ hin).1
                  have hvy : y.v = .slice (some ⟨y.b, 0, none⟩) n (n + y.r.length) := by rw [Pc.v, hyn]
                  rw [hvy] at hcy
                  obtain ⟨sb, so, sq, sc, he, hsc8, hsr8, _, hscc⟩ := (HSRC.out w8 (Chg.refl _ _)) z (by rw [HESL.out.1]; exact hzl)
                  obtain ⟨rfl, rfl⟩ : sb = G4 ∧ so = 0 := by
                    simp only [Option.some.injEq, Addr.mk.injEq, and_true] at he
                    exact ⟨he.1.symm, he.2.symm⟩
                  have hen := HESL.out.2 z hzl
                  rw [hen] at hsc8 hscc
                  obtain ⟨fb, fo, rfl, hfr8⟩ := hsr8.at0 (by omega)
                  have hsb := World.block_lt_of_cell? _ _ hsc8
                  simp only at hsb
                  obtain ⟨ez, hez⟩ : ∃ ez, ez = gl nx z := ⟨_, rfl⟩
                  rw [← hez] at hfr8 hen
                  have HFR8 := hid hfr8
                  have HSC8 := hid hsc8
                  have HSB := hid hsb
                  have HEN2 := hid hen
                  have HEZ := hid hez
                  have HCY := hid hcy
                  have HIY := hid hiy
                  have HYG := hid hyg
                  have HYD2 := hid hyd
                  have HYN := hid hyn
                  have HIN := hid hin
                  have HYO := hid hyo
                  have HYE := hid hye
                  have HZI := hid hzi
                  have HUL := hid hul
                  have hsc := HCa.out.cell hsc8 id
                  try rw [Nat.zero_add] at hsc
                  clear hcy hiy hyg hyd hyn hin hyo hye hvy hfr8 hsb hen hez hsr8 he hul hsc8
                  skip
                  go_wp2_with fail
                  go_loopw [155] (fun i wr => ∃ t : Nat, t ≤ n ∧ i = .int .i64 (t : Int) ∧ Own wr 5 y.b (nv .u8 (mixR t ez y.d)) y.r ∧ Chg (Only y.b) wa wr) (fun i _ => n - (intOf i).toNat)
                  case atStart => exact ⟨0, by omega, rfl, by rw [mixR_zero]; exact HIY.out, Chg.refl _ _⟩
                  case round =>
                    clear HIY hsc
                    obtain ⟨t, ht, rfl, hO, hCi⟩ := hrel
                    obtain ⟨wi, rfl⟩ : ∃ wi : World, wi = wr := ⟨_, rfl⟩
                    have HOi := hid hO
                    have HCi := hid hCi
                    clear hO hCi
                    by_cases htl : t < n
                    · as_aux_lemma =>
                      have hzt : z < tt := by omega
                      have hzt2 : (z : Int) < (tt : Int) := by omega
                      have hcy := HCi.out.cell HCY.out (fun e => HYG.out e.symm)
                      have hsc := HCi.out.cell (HCa.out.cell HSC8.out id) (fun e => by have := HSB.out; have := HYO.out; simp only [Only] at e; omega)
                      try rw [Nat.zero_add] at hsc
                      have hfe0 := HFR8.out t (by rw [HEN2.out]; exact htl)
                      have hfb := World.block_lt_of_cell? _ _ hfe0
                      have hfe := HCi.out.cell (HCa.out.cell hfe0 id) (fun e => by have := HYO.out; simp only [Only] at e; simp only at hfb; omega)
                      have hgc := HOi.out.nat (i := t) (by rw [mixR_length, HYN.out]; exact htl)
                      have hgf := HOi.out.frozen t
                      have hset := HOi.out.setNat (i := t) (by rw [mixR_length, HYN.out]; exact htl) (gn ez t)
                      rw [mixR_set (by rw [HYN.out]; exact htl)] at hset
                      generalize gn ez t = gv at *
                      generalize gn (mixR t ez y.d) t = gold at hgc
                      skip
                      have HSET := hid hset
                      clear hfe0 hfb hset
                      go_wp2_with fail
                      go_still_tail 13, (by kernel_rfl)
                      go_wp2_with fail
                      go_roundw
                      case rel => exact ⟨t + 1, by omega, by go_num, HSET.out.drew, (HCi.out.setOnly _ _).drew⟩
                      case measure => simp [intOf]; omega
                    · as_aux_lemma =>
                      have hte : t = n := by omega
                      have hOi := HOi.out
                      rw [hte, mixR_all HYN.out HEN2.out] at hOi
                      have hyx : y.b = (us[z]'HZI.out).b := by rw [HYE.out]
                      have hRn := HRa.out.upd HZI.out (d' := ez) (w' := wi) (by rw [← HYE.out, HYN.out, HEN2.out]) (by rw [← HYE.out]; exact HCi.out) (by rw [← HYE.out]; exact hOi)
                      have hUn : (us.set z { us[z]'HZI.out with d := ez }).map Pc.d = wrTo (z + 1) (ds ++ par k x n nx) nx := by
                        rw [map_set_d, HUa.out]
                        show (wrTo z (ds ++ par k x n nx) nx).set z ez = _
                        rw [HEZ.out]
                        exact wrTo_set (by rw [HLLN.out.1]; omega)
                      have hUBn := (map_set_b us z HZI.out ez).trans HUBa.out
                      have hCn : Chg (InB xs9) w14 wi := HCz.out.trans' HCi.out fun q hq e => by
                        have e : q = y.b := e
                        rw [e]; exact HIN.out
                      have HRn := hid hRn
                      have HUn := hid hUn
                      have HUBn := hid hUBn
                      have HCn := hid hCn
                      clear hte hOi hyx hRn hUn hUBn hCn
                      go_wp2_with fail
                      go_roundw
                      case rel => exact ⟨z + 1, _, by omega, by go_num, HRn.out, HUn.out, HUBn.out, HCn.out⟩
                      case measure => simp [intOf]; omega
                · as_aux_lemma =>
                  have hze : z = k := by omega
                  have hUk := HUa.out
                  rw [hze, wrTo_all HLEN.out HESL.out.1] at hUk
                  have HUk := hid hUk
                  clear hze hUk HUa
                  have hL15 := HRa.out.lr
                  rw [HUk.out] at hL15
                  have hVF2 := HVC.out ct (some ⟨Gs, 0, none⟩) (nx ++ par k x n nx) wa (HCD.out.keptNo HCa.out) hL15 (HEVL.out _ HDN.out) (HBYL.out _ HDN.out) hctk
                  rw [decide_eq_true (okSpan_all HDN.out)] at hVF2
                  have HVF2 := hid hVF2
                  clear hL15 hVF2
                  go_wp2_with fail
                  refine HVF2.out.mono ?_
                  rintro e w16 ⟨rfl, hC16⟩
                  have HC16 := hid (HCa.out.trans hC16)
                  have HR16 := hid (HRa.out.keptNo hC16)
                  have HRW := hid ((HRW.out.kept HCz.out (fun s => by have := (HOLD.out _ s).2; have := HGW.out; omega) (fun y hy s => by have := (HOLD.out _ s).2; have := HBW.out y hy; omega)).keptNo hC16)
                  clear hC16 HVF2 HCa HRa HCz
                  have HEN3 := hid (fun w (h : Chg No w16 w) => HEN.out w (HCD.out.keptNo (HC16.out.trans h)) (HL.out.keptNo (HCW8.out.trans (HC16.out.trans h))))
                  have s1 : w16.cell? ⟨D, 1, none⟩ = some (.slice (some ⟨b0, o0, none⟩) k c) := (HS7.out.keptNo (HC8.out.trans HC16.out)).cell (i := 1) (by simp)
                  have hPQ : decide (par k x n ds = par k x n nx) = was := by
                    rw [← HWAS.out]; exact decide_eq_decide.2 (okSpan_app HDS.out par_mem).symm
                  have hLW16 := HRW.out.lr
                  rw [HX10.out] at hLW16
                  have hLW16 := hLW16.drop k
                  rw [drop_app HNXL.out, Nat.zero_add] at hLW16
                  have HLW16 := hid hLW16
                  have HALL := hid (fun p q c d w (h1 : Lr w .u8 p (par k x n ds)) (h2 : Lr w .u8 q (par k x n nx)) => all_calls p q (tt - k) (tt - k) c d (par k x n ds) (par k x n nx) w h1 h2 (by rw [par_length, HTT.out]; omega) HPL.out (by unfold maxLen; omega))
                  rw [hPQ] at HALL
                  have HDPL : Hid ((ds ++ par k x n ds).length = tt) := hid (by rw [List.length_append, par_length, HLK.out, HTT.out])
                  have hk0 : (0 : Int) ≤ (k : Int) := by omega
                  clear hPQ hLW16 HRW
                  go_wp2_with fail
                  go_region_held3 (fun w' => Chg No w16 w' ∧ w'.cell? ⟨D, 1, none⟩ = some (.slice (some ⟨b0, o0, none⟩) k c))
                    (first
                      | exact ⟨(Chg.refl No w16).drew, s1⟩
                      | assumption
                      | exact ⟨((Chg.refl No w16).drew).trans hC17, hC17.cell s1 id⟩
                      | exact ⟨(((Chg.refl No w16).drew).trans hC17).trans hC18, hC18.cell (hC17.cell s1 id) id⟩)
                    (first
                      | (go_at_call 22; refine (HALL.out _ _ _ _ _ hL17 (HLW16.out.keptNo (((Chg.refl No w16).drew).trans hC17))).mono ?_; rintro e w18 ⟨rfl, hC18⟩)
                      | (go_at_call 18; refine (HEN3.out _ ((Chg.refl No w16).drew)).mono ?_; rintro e w17 ⟨v17, xs17, rfl, hR17, hx17, hC17⟩
                         have hl17 : xs17.length = tt := by
                           have := congrArg List.length hx17
                           rwa [List.length_map, HDPL.out] at this
                         obtain ⟨G17, r17, rfl, hR17, _, _, _⟩ := hR17.some (by omega)
                         rw [hl17]
                         obtain ⟨c17, hc17⟩ : ∃ c17, c17 = tt + r17.length := ⟨_, rfl⟩
                         rw [← hc17]
                         have hc17k : tt ≤ c17 := by omega
                         have hc17n : ¬ (c17 = k) := by omega
                         have hc17i : (k : Int) ≤ (c17 : Int) := by omega
                         have hL17 := hR17.lr
                         rw [hx17] at hL17
                         have hL17 := hL17.drop k
                         rw [drop_app HLK.out, Nat.zero_add] at hL17
                         clear hl17 hc17 hx17 hR17))
                  have hC16e := ((Chg.refl No w16).drew.trans hC17).trans hC18
                  have HC18 := hid (HC16.out.trans hC16e)
                  have HR18 := hid (HR16.out.keptNo hC16e)
                  have HD1 : Hid (w8.cell? ⟨D, 1, none⟩ = some (.slice (some ⟨b0, o0, none⟩) k c)) := hid ((HS7.out.keptNo HC8.out).cell (i := 1) (by simp))
                  clear hC16e hC17 hC18 HR16 HALL HLW16 HEN3 HC16 HLLN HSRC HESL HLEN hL17
                  have HYD := HUk
                  have HYB := HUBa
                  have HLLN : Hid ((nx ++ par k x n nx).length = tt ∧ ∀ z, z < tt → (gl (nx ++ par k x n nx) z).length = n) := hid ⟨(HEVL.out _ HDN.out).lt, fun z h => (HEVL.out _ HDN.out).ln z h⟩
                  have HSRC : Hid (∀ w, Chg No w8 w → Lr w .u8 (some ⟨b0, o0, none⟩) ds) := hid (fun w h => HL.out.keptNo (HCW8.out.trans h))
                  have HESL : Hid (ds.length = k ∧ ∀ z, z < k → (gl ds z).length = n) := hid ⟨HLK.out, fun z h => HDS.out.ln z h⟩
                  have HLEN : Hid (nx.length = k) := HNXL
                  clear HUk HUBa
                  go_wp2_with fail
                  go_loopw [206] (fun i wr => ∃ (z : Nat) (us : List Pc), z ≤ k ∧ i = .int .i64 (z : Int) ∧ Rws wr 42 5 .u8 Gs us rs ∧ us.map Pc.d = wrTo z (nx ++ par k x n nx) ds ∧ us.map Pc.b = xs9.map Pc.b ∧ Chg (InB xs9) w18 wr) (fun i _ => k - (intOf i).toNat)
                  case atStart => exact ⟨0, us, by omega, rfl, HR18.out, by rw [wrTo_zero]; exact HYD.out, HYB.out, Chg.refl _ _⟩
                  case round =>
                    clear HR18 HYD HYB
                    obtain ⟨z, us, hz, rfl, hR, hu, hub, hCz⟩ := hrel
                    obtain ⟨wa, rfl⟩ : ∃ wa : World, wa = wr := ⟨_, rfl⟩
                    have HRa := hid hR
                    have HUa := hid hu
                    have HUBa := hid hub
                    have HCz := hid hCz
                    have HCa : Hid (Chg No w8 wa) := hid (HC18.out.trans' hCz fun q hq s => by have := (HOLD.out q s).1; omega)
                    clear hR hu hub hCz
                    by_cases hzl : z < k
                    · as_aux_lemma =>
                      have hul : us.length = tt := by
                        have := congrArg List.length HUa.out
                        rwa [List.length_map, wrTo_length, HLLN.out.1] at this
                      have hzi : z < us.length := by omega
                      obtain ⟨y, hye⟩ : ∃ y, y = us[z]'hzi := ⟨_, rfl⟩
                      have hcy := HRa.out.cell hzi
                      have hiy := HRa.out.inn _ (List.getElem_mem hzi)
                      have hyg : y.b ≠ Gs := by rw [hye]; exact HRa.out.ne _ (List.getElem_mem hzi)
                      rw [← hye] at hcy hiy
                      have hyd : y.d = gl (nx ++ par k x n nx) z := by
                        have this : gl (us.map Pc.d) z = gl (wrTo z (nx ++ par k x n nx) ds) z := by rw [HUa.out]
                        rw [gl_get _ _ (by simpa using hzi), gl_wrTo _ _ _ _ (by rw [HLLN.out.1]; omega), if_neg (by omega)] at this
                        rw [← this, hye]; simp
                      have hyn : y.d.length = n := by rw [hyd]; exact HLLN.out.2 z (by omega)
                      have hin : InB xs9 y.b := (HRa.out.other' HUBa.out y.b).1 ⟨y, by rw [hye]; exact List.getElem_mem hzi, rfl⟩
                      have hyo := (HOLD.out _ hin).1
                      have hvy : y.v = .slice (some ⟨y.b, 0, none⟩) n (n + y.r.length) := by rw [Pc.v, hyn]
                      rw [hvy] at hcy
                      obtain ⟨sb, so, sq, sc, he, hsc8, hsr8, _, hscc⟩ := (HSRC.out w8 (Chg.refl _ _)) z (by rw [HESL.out.1]; exact hzl)
                      obtain ⟨rfl, rfl⟩ : sb = b0 ∧ so = o0 := by
                        simp only [Option.some.injEq, Addr.mk.injEq, and_true] at he
                        exact ⟨he.1.symm, he.2.symm⟩
                      have hen := HESL.out.2 z hzl
                      rw [hen] at hsc8 hscc
                      obtain ⟨fb, fo, rfl, hfr8⟩ := hsr8.at0 (by omega)
                      have hsb := World.block_lt_of_cell? _ _ hsc8
                      simp only at hsb
                      obtain ⟨ez, hez⟩ : ∃ ez, ez = gl ds z := ⟨_, rfl⟩
                      rw [← hez] at hfr8 hen
                      have HFR8 := hid hfr8
                      have HSC8 := hid hsc8
                      have HSB := hid hsb
                      have HEN2 := hid hen
                      have HEZ := hid hez
                      have HCY := hid hcy
                      have HIY := hid hiy
                      have HYG := hid hyg
                      have HYD2 := hid hyd
                      have HYN := hid hyn
                      have HIN := hid hin
                      have HYO := hid hyo
                      have HYE := hid hye
                      have HZI := hid hzi
                      have HUL := hid hul
                      have hsc := HCa.out.cell hsc8 id
                      try rw [Nat.zero_add] at hsc
                      clear hcy hiy hyg hyd hyn hin hyo hye hvy hfr8 hsb hen hez hsr8 he hul hsc8
                      obtain ⟨gb4, go4, gq4, gc4, hgx, hg48, _, _, _⟩ := (HLN7.out.keptNo HC8.out) z (by rw [HNXL.out]; exact hzl)
                      obtain ⟨rfl, rfl⟩ : gb4 = G4 ∧ go4 = 0 := by
                        simp only [Option.some.injEq, Addr.mk.injEq, and_true] at hgx
                        exact ⟨hgx.1.symm, hgx.2.symm⟩
                      rw [HNXN.out z hzl, Nat.zero_add] at hg48
                      have hg4c := HCa.out.cell hg48 id
                      clear hg48 hgx
                      go_wp2_with fail
                      go_loopw [214] (fun i wr => ∃ t : Nat, t ≤ n ∧ i = .int .i64 (t : Int) ∧ Own wr 5 y.b (nv .u8 (mixR t ez y.d)) y.r ∧ Chg (Only y.b) wa wr) (fun i _ => n - (intOf i).toNat)
                      case atStart => exact ⟨0, by omega, rfl, by rw [mixR_zero]; exact HIY.out, Chg.refl _ _⟩
                      case round =>
                        clear HIY hsc
                        obtain ⟨t, ht, rfl, hO, hCi⟩ := hrel
                        obtain ⟨wi, rfl⟩ : ∃ wi : World, wi = wr := ⟨_, rfl⟩
                        have HOi := hid hO
                        have HCi := hid hCi
                        clear hO hCi
                        by_cases htl : t < n
                        · as_aux_lemma =>
                          have hzt : z < tt := by omega
                          have hzt2 : (z : Int) < (tt : Int) := by omega
                          have hcy := HCi.out.cell HCY.out (fun e => HYG.out e.symm)
                          have hsc := HCi.out.cell (HCa.out.cell HSC8.out id) (fun e => by have := HSB.out; have := HYO.out; simp only [Only] at e; omega)
                          try rw [Nat.zero_add] at hsc
                          have hfe0 := HFR8.out t (by rw [HEN2.out]; exact htl)
                          have hfb := World.block_lt_of_cell? _ _ hfe0
                          have hfe := HCi.out.cell (HCa.out.cell hfe0 id) (fun e => by have := HYO.out; simp only [Only] at e; simp only at hfb; omega)
                          have hgc := HOi.out.nat (i := t) (by rw [mixR_length, HYN.out]; exact htl)
                          have hgf := HOi.out.frozen t
                          have hset := HOi.out.setNat (i := t) (by rw [mixR_length, HYN.out]; exact htl) (gn ez t)
                          rw [mixR_set (by rw [HYN.out]; exact htl)] at hset
                          generalize gn ez t = gv at *
                          generalize gn (mixR t ez y.d) t = gold at hgc
                          clear hg4c
                          have hd1 := HCi.out.cell (HCa.out.cell HD1.out id) (fun e => by
                            have h := World.block_lt_of_cell? _ _ HD1.out
                            have := HYO.out
                            simp only [Only] at e
                            simp only at h
                            omega)
                          have hzk : (z : Int) < (k : Int) := by omega
                          have HSET := hid hset
                          clear hfe0 hfb hset
                          go_wp2_with fail
                          go_still_tail 14, (by kernel_rfl)
                          go_wp2_with fail
                          go_roundw
                          case rel => exact ⟨t + 1, by omega, by go_num, HSET.out.drew, (HCi.out.setOnly _ _).drew⟩
                          case measure => simp [intOf]; omega
                        · as_aux_lemma =>
                          have hte : t = n := by omega
                          have hOi := HOi.out
                          rw [hte, mixR_all HYN.out HEN2.out] at hOi
                          have hyx : y.b = (us[z]'HZI.out).b := by rw [HYE.out]
                          have hRn := HRa.out.upd HZI.out (d' := ez) (w' := wi) (by rw [← HYE.out, HYN.out, HEN2.out]) (by rw [← HYE.out]; exact HCi.out) (by rw [← HYE.out]; exact hOi)
                          have hUn : (us.set z { us[z]'HZI.out with d := ez }).map Pc.d = wrTo (z + 1) (nx ++ par k x n nx) ds := by
                            rw [map_set_d, HUa.out]
                            show (wrTo z (nx ++ par k x n nx) ds).set z ez = _
                            rw [HEZ.out]
                            exact wrTo_set (by rw [HLLN.out.1]; omega)
                          have hUBn := (map_set_b us z HZI.out ez).trans HUBa.out
                          have hCn : Chg (InB xs9) w18 wi := HCz.out.trans' HCi.out fun q hq e => by
                            have e : q = y.b := e
                            rw [e]; exact HIN.out
                          have HRn := hid hRn
                          have HUn := hid hUn
                          have HUBn := hid hUBn
                          have HCn := hid hCn
                          clear hte hOi hyx hRn hUn hUBn hCn
                          go_wp2_with fail
                          go_roundw
                          case rel => exact ⟨z + 1, _, by omega, by go_num, HRn.out, HUn.out, HUBn.out, HCn.out⟩
                          case measure => simp [intOf]; omega
                    · as_aux_lemma =>
                      have hze : z = k := by omega
                      have hUk := HUa.out
                      rw [hze, wrTo_all HLEN.out HESL.out.1] at hUk
                      have HUk := hid hUk
                      clear hze hUk HUa
                      have hevU : Ev tt n (us.map Pc.d) := by rw [HUk.out]; exact HEVL.out _ HDS.out
                      have hbyU : Byt (us.map Pc.d) := by rw [HUk.out]; exact HBYL.out _ HDS.out
                      have hapU : Apart us Cf Wf Tf Kf := fun y hy => by
                        have hm : y.b ∈ us.map Pc.b := List.mem_map_of_mem hy
                        rw [HUBa.out] at hm
                        obtain ⟨z', hz', e⟩ := List.mem_map.1 hm
                        rw [← e]; exact HAP9.out z' hz'
                      have hE := HEC.out ct Gs us rs wa (HCD.out.keptNo HCa.out) HRa.out hevU hbyU hctk hapU
                      have HE := hid hE
                      clear hevU hbyU hapU hE
                      go_wp2_with fail
                      refine HE.out.mono ?_
                      rintro e w19 ⟨rfl, hR19, hC19⟩
                      have hd19 := encTo_full HDS.out HUk.out (par_length _ _ _ _) par_mem
                      have hC19' : Chg No w8 w19 := HCa.out.trans' hC19 (fun q hq s => by
                        have := (HOLD.out q ((HRa.out.other' HUBa.out q).1 s)).1
                        omega)
                      obtain ⟨us3, hus3⟩ : ∃ us3, us3 = encTo k 0 n (parOf k x 0 n us) us x := ⟨_, rfl⟩
                      rw [← hus3] at hR19 hd19
                      have hL19 := hR19.lr
                      rw [hd19] at hL19
                      have HL19 := hid hL19
                      have HC19 := hid hC19'
                      have HDPL : Hid ((ds ++ par k x n ds).length = tt) := hid (by rw [List.length_append, par_length, HLK.out, HTT.out])
                      have s1 : w19.cell? ⟨D, 1, none⟩ = some (.slice (some ⟨b0, o0, none⟩) k c) := HC19.out.cell HD1.out id
                      clear hus3 hd19 hC19 hC19' hL19 hR19 HE
                      go_wp2_with fail
                      refine (HEN.out _ (HCD.out.keptNo HC19.out) (HL.out.keptNo (HCW8.out.trans HC19.out))).mono ?_
                      rintro e w20 ⟨v20, xs20, rfl, hR20, hx20, hC20⟩
                      have hl20 : xs20.length = tt := by
                        have := congrArg List.length hx20
                        rwa [List.length_map, HDPL.out] at this
                      obtain ⟨G20, r20, rfl, hR20, _, _, _⟩ := hR20.some (by omega)
                      rw [hl20]
                      have hL20 := hR20.lr
                      rw [hx20] at hL20
                      have hAL := fun c d => all_calls (some ⟨Gs, 0, none⟩) (some ⟨G20, 0, none⟩) tt tt c d (ds ++ par k x n ds) (ds ++ par k x n ds) w20 (HL19.out.keptNo hC20) hL20 HDPL.out HDPL.out (by unfold maxLen; omega)
                      rw [decide_eq_true rfl] at hAL
                      have HAL := hid hAL
                      have HC20 := hid (HC19.out.trans hC20)
                      clear hl20 hx20 hL20 hAL hC20 hR20 s1
                      go_wp2_with fail
                      refine (HAL.out _ _).mono ?_
                      rintro e w21 ⟨rfl, hC21⟩
                      have HC21 := hid (HC8.out.trans (HC20.out.trans hC21))
                      clear hC21 HAL
                      go_wp2_with fail
                      go_roundw
                      case rel => exact ⟨i + 1, by omega, by go_num, HC21.out⟩
                      case measure => simp [intOf]; omega
            · as_aux_lemma =>
              have hie : ¬ (i < 2) := hil
              go_wp2_with fail
              refine (HCO.out _).mono ?_
              rintro e w9 ⟨G', C', W', T', K', rfl, _, _, hC9⟩
              have HC9 := hid hC9
              clear hC9
              go_wp2_with fail
              go_ret
              exact ⟨rfl, (HC7.out.trans HC8.out).trans HC9.out⟩
    · have hne : ((hn : Int) != (k : Int)) = true := by simp; omega
      clear hgd hprm hds hn2 hlt
      go_wp2_with fail
      go_ret
      exact ⟨rfl, HC2.out⟩
end Go.Proofs.Ytpnmmedjamkmeaa
