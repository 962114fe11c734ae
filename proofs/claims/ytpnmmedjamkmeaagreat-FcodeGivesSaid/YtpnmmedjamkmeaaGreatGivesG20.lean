/- The walk of the codec's UpdateSpan. -/
import Derived.Test.YtpnmmedjamkmeaaGreatGivesG19
set_option linter.unusedSimpArgs false
set_option linter.unusedVariables false
set_option linter.unusedSimpArgs false
namespace Go.Proofs.YtpnmmedjamkmeaaGreat
open Go.RowKit

/-- One difference, as the list of differences holds it: a row of its own, not the list's block. -/
def DifV (w : World) (GD n : Nat) (v : Value) (l : List Nat) : Prop := ∃ b rest, v = .slice (some ⟨b, 0, none⟩) n (n + rest.length) ∧ Own w 5 b (nv .u8 l) rest ∧ b ≠ GD
theorem DifV.kept {w w' : World} {GD n : Nat} {v : Value} {l : List Nat} (h : DifV w GD n v l) (hc : Chg (Only GD) w w') : DifV w' GD n v l := by
  obtain ⟨b, rest, h1, h2, h3⟩ := h
  exact ⟨b, rest, h1, h2.kept hc (fun e => h3 e), h3⟩
theorem DifV.keptNo {w w' : World} {GD n : Nat} {v : Value} {l : List Nat} (h : DifV w GD n v l) (hc : Chg No w w') : DifV w' GD n v l := by
  obtain ⟨b, rest, h1, h2, h3⟩ := h
  exact ⟨b, rest, h1, h2.keptNo hc, h3⟩
/-- What stands for data shard x when z fresh ones are done. -/
def va (vs : List Value) (x : Nat) : Value := vs.getD x Value.nilFunc
theorem va_set (vs : List Value) (i x : Nat) (v : Value) (h : i < vs.length) : va (vs.set i v) x = if x = i then v else va vs x := by
  simp only [va, List.getD_eq_getElem?_getD, List.getElem?_set]
  by_cases e : i = x
  · subst e; simp [h]
  · rw [if_neg e, if_neg (fun e2 => e e2.symm)]
theorem va_get (vs : List Value) (x : Nat) (h : x < vs.length) : vs[x]? = some (va vs x) := by simp [va, h]
def difAt (p : Nat → Nat) (z : Nat) (n : Nat) (F : Nat → List Nat) (x : Nat) (l : List Nat) : Prop := (∀ y, y < z → p y = x → l = F x) ∧ ((∀ y, y < z → p y ≠ x) → l = List.replicate n 0)

set_option maxRecDepth 100000 in
set_option maxHeartbeats 12800000 in
theorem UpdateSpan_direct (C k m r W T K n c c2 t a b G : Nat) (xs : List Pc) (q : Option Addr) (fs : List (List Nat)) (r0 : List Value) (w : World) (hc : Cd w false C k m r W T K) (hR : Rws w 35 5 .u8 G xs r0)
    (ht : t = k + m) (hd : Ev t n (xs.map Pc.d)) (hbt : Byt (xs.map Pc.d)) (hf : Lr w .u8 q fs) (hfr : Fr k n fs) (hab : a < b) (hsp : Sp a b n) (htc : t ≤ c) (hap : Apart xs C W T K) :
    Calls Tryz.prog 25 #[.pointer (some ⟨C, 0, none⟩), .slice (some ⟨G, 0, none⟩) t c, .slice q k c2, spanV a b] w fun e w' => e = .returned (.int .i64 0) ∧ Rws w' 35 5 .u8 G (encTo k a b (updP k m a b (xs.map Pc.d) fs) xs m) r0 ∧ Chg (InB xs) w w' := by
  have hk1 := hc.prm.1
  have hm1 := hc.prm.2.1
  have hk2 := hc.prm.2.2.1
  have hm2 := hc.prm.2.2.2.1
  have HFR := hid (fun S w h1 h2 h3 h4 => fresh_span C k m r W T K n c c2 t S a b false (some ⟨G, 0, none⟩) q (xs.map Pc.d) fs w h1 h2 ht hd h3 hfr h4 hsp)
  unfold FreshPost at HFR
  have hD : Ds k (b - a) (difs k a b (xs.map Pc.d) fs) := ds_difs hd hbt (by omega) hfr.lb hab hsp
  have HPAR := hid (fun c p w (h1 : Cd w false C k m r W T K) h3 => parC false C k m r W T K (b - a) c p (difs k a b (xs.map Pc.d) fs) w h1 hD h3)
  simp only [if_true, Bool.false_eq_true, if_false] at HPAR
  unfold ParPost at HPAR
  have hparl : par k m (b - a) (difs k a b (xs.map Pc.d) fs) = par k m (b - a) (difs k a b (xs.map Pc.d) fs) := rfl
  have HGP := hid (fun j (hj : j < m) => gl_updP k m a b (xs.map Pc.d) fs j hj)
  have HPL : Hid ((par k m (b - a) (difs k a b (xs.map Pc.d) fs)).length = m) := hid (par_length _ _ _ _)
  have HPN : Hid (∀ j, j < m → (gl (par k m (b - a) (difs k a b (xs.map Pc.d) fs)) j).length = b - a) := hid (fun j hj => by rw [gl_par _ _ _ _ _ hj, parTo_length])
  have HPT : Hid (∀ j x, j < m → gn (gl (par k m (b - a) (difs k a b (xs.map Pc.d) fs)) j) x < 256) := hid (fun j x hj => by rw [gl_par _ _ _ _ _ hj]; exact parTo_lt _ _ _ _ _ _)
  have HGD := hid (fun i (hi : i < k) => gl_difs k a b (xs.map Pc.d) fs i hi)
  have HDL := hid (fun i (hi : i < k) => dif_length (fs := fs) hd (show k ≤ t by omega) hsp hi)
  have HDD := hid hD
  have HNO := hid (fun hg => updP_none (xs := xs) (fs := fs) (by rw [← ht]; exact hd) hbt hfr.lb hab hsp hg)
  have HC := hid hc
  have HR := hid hR
  have HD := hid hd
  have HBT := hid hbt
  have HT := hid ht
  have HF := hid hf
  have HFRR := hid hfr
  have HAP := hid hap
  have HSP := hid hsp
  have HXL : Hid (xs.length = t) := hid (by have := hd.lt; rwa [List.length_map] at this)
  have hn := hd.small
  have hts := hd.tsmall
  have hbn := hsp.bn
  clear hc hR hd hbt ht hf hfr hap hsp hD hparl
  generalize hPP : par k m (b - a) (difs k a b (xs.map Pc.d) fs) = P at *
  clear hPP
  unfold spanV at *
  have hgl := givenL_le k fs
  generalize updP k m a b (xs.map Pc.d) fs = U at *
  go_enter Tryz.func25, Tryz.ntmps25
  go_wp2_with fail
  obtain ⟨w1, hw1⟩ : ∃ w1, w1 = w.alloc (.cells #[.int .i64 (a : Int), .int .i64 (b : Int)] 51) := ⟨_, rfl⟩
  have hC1 : Chg No w w1 := by rw [hw1]; exact (Chg.refl _ _).alloc _
  have hS : Own w1 51 w.heap.size [.int .i64 (a : Int), .int .i64 (b : Int)] [] := by rw [hw1]; exact heap_alloc_new w _
  rw [← hw1]
  have HC1 := hid hC1
  have HS := hid hS
  have HSlt : Hid (w.heap.size ≤ w.heap.size) := hid (Nat.le_refl _)
  clear hw1 hS hC1
  generalize hS0 : w.heap.size = S at *
  have HS0 := hid hS0
  clear hS0
  refine (HFR.out _ _ (HC.out.keptNo HC1.out) (HR.out.lr.keptNo HC1.out) (HF.out.keptNo HC1.out) HS.out).mono ?_
  rintro e w2 ⟨v2, rfl, hV2, hC2⟩
  have HV2 := hid hV2
  have HC2 := hid (HC1.out.trans hC2)
  have HS2 := hid (HS.out.keptNo hC2)
  have hCd2 := HC.out.keptNo HC2.out
  have c8 := hCd2.c8
  have c0 := hCd2.c0
  have s0 : w2.cell? ⟨S, 0, none⟩ = some (.int .i64 (a : Int)) := HS2.out.cell (i := 0) (by simp)
  have s1 : w2.cell? ⟨S, 1, none⟩ = some (.int .i64 (b : Int)) := HS2.out.cell (i := 1) (by simp)
  simp only [parF, if_true, Bool.false_eq_true, if_false] at c8
  clear hV2 hC2 hCd2 HFR HS
  have hfn : ∀ W, (binOp BinOp.eql 34 (Value.func (Fn.func 63) #[.pointer (some ⟨C, 0, none⟩)] #[]) Value.nilFunc).run Tryz.prog W = .ok (.bool false) W := fun _ => rfl
  rcases HV2.out.cases with ⟨hv, hg0⟩ | ⟨gG, rG, hv, hgb, hgo⟩
  · have hno := HNO.out hg0
    subst hv
    have HNO2 := hid hno
    have hlen0 : (givenL k fs).length = 0 := by rw [hg0]; rfl
    have HR2 := hid (HR.out.keptNo HC2.out)
    clear hno hg0 hlen0
    go_wp2_with fail
    go_ret
    exact ⟨rfl, by rw [HNO2.out]; exact HR2.out, HC2.out.no⟩
  subst hv
  by_cases hgz : (givenL k fs).length = 0
  · have hno := HNO.out (List.eq_nil_of_length_eq_zero hgz)
    rw [hgz]
    have HNO2 := hid hno
    have HR2 := hid (HR.out.keptNo HC2.out)
    clear hno hgz
    go_wp2_with fail
    go_ret
    exact ⟨rfl, by rw [HNO2.out]; exact HR2.out, HC2.out.no⟩
  obtain ⟨L, hL⟩ : ∃ L, (givenL k fs).length = L := ⟨_, rfl⟩
  rw [hL] at hgz hgl ⊢
  have HLL := hid hL
  have HGO := hid hgo
  have HGB := hid hgb
  have HGK : Hid (∀ z, z < L → gn (givenL k fs) z = pk k (fun i => decide (0 < (gl fs i).length)) z ∧ pk k (fun i => decide (0 < (gl fs i).length)) z < k ∧ 0 < (gl fs (pk k (fun i => decide (0 < (gl fs i).length)) z)).length) := hid (fun z hz => by
    have hz' : z < cnt k (fun i => decide (0 < (gl fs i).length)) := by rw [← hL] at hz; exact hz
    exact ⟨rfl, pk_lt hz', of_decide_eq_true (pk_is hz')⟩)
  have HGA : Hid (∀ x, x < k → 0 < (gl fs x).length → ∃ z, z < L ∧ pk k (fun i => decide (0 < (gl fs i).length)) z = x) := hid (fun x hx h => by
    obtain ⟨z, hz, e⟩ := pk_all (p := fun i => decide (0 < (gl fs i).length)) hx (decide_eq_true h)
    exact ⟨z, by rw [← hL]; exact hz, e⟩)
  generalize hpk : pk k (fun i => decide (0 < (gl fs i).length)) = pp at *
  have hL1 : 0 < L := by omega
  have hL2 : ((L : Int) == 0) = false := by rw [beq_eq_false_iff_ne]; omega
  clear hL hgo hgb hpk HV2 hgz
  obtain ⟨cG, hcG⟩ : ∃ cG, L + rG.length = cG := ⟨_, rfl⟩
  rw [hcG]
  clear hcG
  have k0 : (0 : Int) ≤ (k : Int) := by omega
  have a0 : (0 : Int) ≤ (a : Int) := by omega
  have ab0 : (a : Int) ≤ (b : Int) := by omega
  obtain ⟨nb, hnb⟩ : ∃ nb, b - a = nb := ⟨_, rfl⟩
  have hsub : (b : Int) - (a : Int) = (nb : Int) := by omega
  have hnb1 : nb ≤ 4194304 := by omega
  have HNB := hid hnb
  have hnb2 : 1 ≤ nb := by omega
  rw [hnb] at HPN
  clear hnb
  go_wp2_with (first
    | (at_make; (with_reducible refine wpList_mk1 35 (.slice none 0 0) 24 k k ?_ ?_ ?_ ?_ ?_ ?_ ?_ ?_); exact ⟨rfl, rfl⟩; exact Tryz.underlying22; kernel_rfl; rfl; omega; omega; (unfold maxLen; omega); intro W3 hO3 hC3 hs3
       have s0 := hC3.cell s0 id
       have s1 := hC3.cell s1 id
       have HO3 := hid hO3
       have HC3 := hid hC3
       clear hO3 hC3 c0 c8)
    | (at_make; go_must ((with_reducible refine wpList_mk1 5 (.int .u8 0) 1 nb nb ?_ ?_ ?_ ?_ ?_ ?_ ?_ ?_); exact ⟨rfl, rfl⟩; exact Tryz.underlying35; kernel_rfl; rfl; omega; omega; (unfold maxLen; omega); intro W4 hO4 hC4 hs4)))
  have HO4 : Hid (Own W4 5 W3.heap.size (nv .u8 (List.replicate nb 0)) []) := hid (by rw [nv_replicate]; simpa using hO4)
  have HD4 : Hid (Own W4 35 w2.heap.size [] (List.replicate k (.slice none 0 0))) := hid (by
    have := HO3.out.keptNo hC4
    simpa [Own] using this)
  have HC4 := hid (HC2.out.trans (HC3.out.trans hC4))
  have HZD : Hid (w2.heap.size < W3.heap.size) := hid HO3.out.lt
  have HDW : Hid (S < w2.heap.size ∧ gG < w2.heap.size) := hid ⟨HS2.out.lt, HGO.out.lt⟩
  have HGO4 := hid (HGO.out.keptNo (HC3.out.trans hC4))
  have HS4 := hid (HS2.out.keptNo (HC3.out.trans hC4))
  clear hO4 hC4 hs4 hs3 s0 s1 HO3 HC3 HC2 HS2 HGO HNO
  generalize W3.heap.size = Z at *
  generalize w2.heap.size = GD at *
  go_loopw [61] (fun i wr => ∃ j : Nat, j ≤ k ∧ i = .int .i64 (j : Int) ∧ Own wr 35 GD (List.replicate j (.slice (some ⟨Z, 0, none⟩) nb nb)) (List.replicate (k - j) (.slice none 0 0)) ∧ Chg (Only GD) W4 wr) (fun i _ => k - (intOf i).toNat)
  case atStart => exact ⟨0, by omega, rfl, HD4.out, Chg.refl _ _⟩
  case round =>
    obtain ⟨j, hj, rfl, hO, hC5⟩ := hrel
    obtain ⟨w5, rfl⟩ : ∃ w5 : World, w5 = wr := ⟨_, rfl⟩
    have HC5 := hid hC5
    by_cases hjl : j < k
    · rw [show k - j = k - (j + 1) + 1 from by omega, List.replicate_succ] at hO
      have HO := hid hO
      have hgc := hO.restCell
      rw [List.length_replicate] at hgc
      have hgf := hO.frozen j
      clear hO hC5
      go_wp2_with fail
      have hset := HO.out.setRest (.slice (some ⟨Z, 0, none⟩) nb nb)
      rw [List.length_replicate, show List.replicate j (Value.slice (some ⟨Z, 0, none⟩) nb nb) ++ [.slice (some ⟨Z, 0, none⟩) nb nb] = List.replicate (j + 1) (.slice (some ⟨Z, 0, none⟩) nb nb) from by rw [List.replicate_succ']] at hset
      have HSET := hid hset
      clear hset hgc hgf
      go_roundw
      case rel => exact ⟨j + 1, by omega, by go_num, HSET.out, HC5.out.setOnly _ _⟩
      case measure => simp [intOf]; omega
    · have hje : j = k := by omega
      rw [hje, Nat.sub_self] at hO
      have HO5 := hid hO
      have HC45 : Hid (Chg No w w5) := hid (HC4.out.trans' hC5 fun y hy e => by have := HDW.out.1; have := HS0.out; simp only [Only] at e; omega)
      have HZ5 := hid (HO4.out.kept hC5 (by have := HZD.out; simp only [Only]; omega))
      have HG5 := hid (HGO4.out.kept hC5 (by have := HDW.out.2; simp only [Only]; omega))
      have HC5' := hid hC5
      clear hO hC5 HC5 HC4 HO4 HGO4 HD4
      have HEX := hid hje
      have HCS : Hid (Chg No w5 w5) := hid (Chg.refl _ _)
      have HS5 := hid (HS4.out.kept HC5'.out (by have := HDW.out.1; simp only [Only]; omega))
      clear hje
      have hnbe : b - a = nb := HNB.out
      have HVS0 : Hid (∀ x, x < k → ∃ l, DifV w5 GD nb (va (List.replicate k (.slice (some ⟨Z, 0, none⟩) nb nb)) x) l ∧ difAt pp 0 nb (dif a b (xs.map Pc.d) fs) x l) := hid (fun x hx => by
        refine ⟨List.replicate nb 0, ⟨Z, [], ?_, HZ5.out, by have := HZD.out; omega⟩, fun y hy => by omega, fun _ => rfl⟩
        simp [va, hx])
      clear HZ5
      go_wp2_with fail
      go_loopw [71] (fun i wr => ∃ (z : Nat) (vs : List Value), z ≤ L ∧ i = .int .i64 (z : Int) ∧ vs.length = k ∧ Own wr 35 GD vs [] ∧ (∀ x, x < k → ∃ l, DifV wr GD nb (va vs x) l ∧ difAt pp z nb (dif a b (xs.map Pc.d) fs) x l) ∧ Chg (Only GD) w5 wr) (fun i _ => L - (intOf i).toNat)
      case atStart => exact ⟨0, _, by omega, rfl, by simp, HO5.out, HVS0.out, Chg.refl _ _⟩
      case round =>
        clear HO5 HVS0
        obtain ⟨z, vs, hz, rfl, hvl, hO, hvs, hC6⟩ := hrel
        obtain ⟨w6, rfl⟩ : ∃ w6 : World, w6 = wr := ⟨_, rfl⟩
        have HO := hid hO
        have HVS := hid hvs
        have HC6 := hid hC6
        have HVL := hid hvl
        have hCw : Chg No w w6 := HC45.out.trans' hC6 fun y hy e => by have := HDW.out.1; have := HS0.out; simp only [Only] at e; omega
        have HCW := hid hCw
        clear hO hvs hC6 hvl hCw
        by_cases hzl : z < L
        · as_aux_lemma =>
          obtain ⟨hg1, hg2, hg3⟩ := HGK.out z hzl
          obtain ⟨i, hi⟩ : ∃ i, pp z = i := ⟨_, rfl⟩
          rw [hi] at hg1 hg2 hg3
          have HPZ := hid hi
          have gc := (HG5.out.kept HC6.out (by have := HDW.out.2; simp only [Only]; omega)).nat (i := z) (by rw [HLL.out]; exact hzl)
          rw [hg1] at gc
          have hix : i < xs.length := by rw [HXL.out, HT.out]; omega
          obtain ⟨y, hye⟩ : ∃ y, y = xs[i]'hix := ⟨_, rfl⟩
          have hR6 := HR.out.keptNo HCW.out
          have hcy := hR6.cell hix
          have hiy := hR6.inn _ (List.getElem_mem hix)
          rw [← hye] at hcy hiy
          have hyd : gl (xs.map Pc.d) i = y.d := by rw [gl_get _ _ (by simpa using hix), hye]; simp
          have hyn : y.d.length = n := by rw [← hyd]; exact HD.out.ln i (by rw [HT.out]; omega)
          have hyb : ∀ x, gn y.d x < 256 := fun x => by rw [← hyd]; exact HBT.out i x
          have hvy : y.v = .slice (some ⟨y.b, 0, none⟩) n (n + y.r.length) := by rw [Pc.v, hyn]
          rw [hvy] at hcy
          have hfn0 : (gl fs i).length = n := by
            rcases HFRR.out.ln i hg2 with h | h
            · omega
            · exact h
          obtain ⟨fb0, fo0, fq, fc, rfl, hfc, hfr, _, hfcc⟩ := (HF.out.keptNo HCW.out) i (by rw [HFRR.out.lk]; exact hg2)
          obtain ⟨fb, fo, rfl, hfrc⟩ := hfr.at0 (by omega)
          rw [hfn0] at hfc hfcc hfrc
          obtain ⟨f, hfe⟩ : ∃ f, f = gl fs i := ⟨_, rfl⟩
          rw [← hfe] at hfrc hfn0
          have hfb : ∀ x, gn f x < 256 := fun x => by rw [hfe]; exact HFRR.out.lb i x
          have hS6 := HS5.out.kept HC6.out (by have := HDW.out.1; simp only [Only]; omega)
          have s0 : w6.cell? ⟨S, 0, none⟩ = some (.int .i64 (a : Int)) := hS6.cell (i := 0) (by simp)
          have s1 : w6.cell? ⟨S, 1, none⟩ = some (.int .i64 (b : Int)) := hS6.cell (i := 1) (by simp)
          have HCL := hid (fun w h => Clone_calls (some ⟨y.b, a, none⟩) nb (n + y.r.length - a) (cut1 a b y.d) w h (by rw [cut1_length (by omega)]; omega) (by omega) (by omega))
          unfold ClonePost at HCL
          have HRC : Hid (∀ w', Chg No w6 w' → Rn w' .u8 (some ⟨y.b, a, none⟩) (cut1 a b y.d)) := hid (fun w' h => by
            intro x hx
            have hxb : x < b - a := by rw [cut1_length (by omega)] at hx; exact hx
            refine ⟨y.b, a, rfl, ?_⟩
            rw [gn_cut1 (by omega) (by omega)]
            exact (hiy.keptNo h).nat (by omega))
          have i0 : (0 : Int) ≤ (i : Int) := by omega
          have i1 : (i : Int) < (t : Int) := by have := HT.out; omega
          have i2 : (i : Int) < (k : Int) := by omega
          have hkc2 : (b : Int) ≤ ((n + y.r.length : Nat) : Int) := by omega
          have hne1 : ¬ (n + y.r.length = a) := by omega
          have hne2 : ¬ (fc = a) := by omega
          obtain ⟨cy, hcye⟩ : ∃ cy, n + y.r.length = cy := ⟨_, rfl⟩
          rw [hcye] at hcy HCL hkc2 hne1
          have hkc3 : (b : Int) ≤ (fc : Int) := by omega
          have HYN := hid hyn
          have HYB := hid hyb
          have H63 := hid hfn0
          have HFB := hid hfb
          have HFC := hid hfc
          have HFRC := hid hfrc
          have HYD := hid hyd
          have HFE := hid hfe
          have HIX := hid hix
          clear hye hiy hyd hyn hyb hvy hR6 hg1 hg3 hi hfn0 hfc hfcc hfr hfrc hfe hfb hcye hS6 hix
          go_wp2_with fail
          go_region_held3 (fun w' => Chg No w6 w' ∧ w'.cell? ⟨G, i, none⟩ = some (.slice (some ⟨y.b, 0, none⟩) n cy) ∧ w'.cell? ⟨S, 0, none⟩ = some (.int .i64 (a : Int)) ∧ w'.cell? ⟨S, 1, none⟩ = some (.int .i64 (b : Int)))
            (first
              | exact ⟨(Chg.refl No w6).drew, hcy, s0, s1⟩
              | assumption
              | exact ⟨((Chg.refl No w6).drew).trans hC7, hC7.cell hcy id, hC7.cell s0 id, hC7.cell s1 id⟩)
            (first | (go_at_call 41; refine (HCL.out _ (HRC.out _ ((Chg.refl No w6).drew))).mono ?_; rintro e w7 ⟨g7, rest7, rfl, hO7, hg7, hC7⟩))
          have hC67 : Chg No w6 w7 := ((Chg.refl No w6).drew).trans hC7
          have HO7 := hid hO7
          have HC7 := hid hC67
          have HG7 : Hid (w6.heap.size ≤ g7) := hid hg7
          have t0 := hC67.cell s0 id
          have t1 := hC67.cell s1 id
          have hfc7 := hC67.cell HFC.out id
          clear hO7 hg7 hC67 hC7 hcy s0 s1
          have i3 : (i : Int) < (k : Int) := i2
          go_wp2_with fail
          go_quiet (fail)
          obtain ⟨w8, hw8⟩ : ∃ w8, w8 = w7.drewN nq := ⟨_, rfl⟩
          rw [← hw8]
          have HO8 : Hid (Own w8 5 g7 (nv .u8 (cut1 a b y.d)) rest7) := hid (by rw [hw8]; exact HO7.out.drewN _)
          have HC8 : Hid (Chg No w6 w8) := hid (by rw [hw8]; exact HC7.out.drewN _)
          clear hw8 t0 t1 hfc7 HO7 HC7 HRC HCL
          go_wp2_with fail
          go_loopw [95] (fun i wr => ∃ x : Nat, x ≤ nb ∧ i = .int .i64 (x : Int) ∧ Own wr 5 g7 (nv .u8 (rowX 0 x (cut1 a b y.d) (cut1 a b f))) rest7 ∧ Chg (Only g7) w8 wr) (fun i _ => nb - (intOf i).toNat)
          case atStart => exact ⟨0, by omega, rfl, by rw [rowX_zero]; exact HO8.out, Chg.refl _ _⟩
          case round =>
            clear HO8
            obtain ⟨x, hx, rfl, hO, hC9⟩ := hrel
            obtain ⟨w9, rfl⟩ : ∃ w9 : World, w9 = wr := ⟨_, rfl⟩
            have HO9 := hid hO
            have HC9 := hid hC9
            clear hO hC9
            by_cases hxl : x < nb
            · have hlc : (cut1 a b y.d).length = nb := by rw [cut1_length (by rw [HYN.out]; exact hbn)]; omega
              have hlf : (cut1 a b f).length = nb := by rw [cut1_length (by rw [H63.out]; exact hbn)]; omega
              have hcf0 := HFRC.out (a + x) (by omega)
              have hfb6 := World.block_lt_of_cell? _ _ hcf0
              have hcf := HC9.out.cell (HC8.out.cell hcf0 id) (fun e => by
                have e : fb = g7 := e
                have := HG7.out
                simp only at hfb6; omega)
              rw [show fo + (a + x) = fo + a + x from by omega] at hcf
              have hcd := HO9.out.nat (i := x) (by rw [rowX_length]; omega)
              have hx0 := rowX_old 0 x (cut1 a b y.d) (cut1 a b f) (by omega)
              rw [Nat.zero_add] at hx0
              rw [hx0] at hcd
              have hgf := HO9.out.frozen x
              have hu : gn (cut1 a b y.d) x < 256 := cut1_lt HYB.out x
              have hgv : gn f (a + x) = gn (cut1 a b f) x := (gn_cut1 (by omega) (by rw [H63.out]; exact hbn)).symm
              have hv : gn (cut1 a b f) x < 256 := cut1_lt HFB.out x
              rw [hgv] at hcf
              obtain ⟨u, hue⟩ : ∃ u, gn (cut1 a b y.d) x = u := ⟨_, rfl⟩
              obtain ⟨v, hve⟩ : ∃ v, gn (cut1 a b f) x = v := ⟨_, rfl⟩
              have hst := rowX_set 0 x (cut1 a b y.d) (cut1 a b f) (by omega)
              rw [Nat.zero_add, hue, hve] at hst
              rw [hue] at hcd hu
              rw [hve] at hcf hv
              have hset := HO9.out.setNat (i := x) (by rw [rowX_length]; omega) (u ^^^ v)
              rw [hst] at hset
              have HSET := hid hset
              have hxor := Go.u8_xor_nat u v hu hv
              clear hlc hlf hcf0 hfb6 hx0 hgv hue hve hst hset
              go_wp2_with fail
              go_roundw
              case rel => exact ⟨x + 1, by omega, by go_num, HSET.out, HC9.out.setOnly _ _⟩
              case measure => simp [intOf]; omega
            · have hxe : x = nb := by omega
              have hlc : (cut1 a b y.d).length = nb := by rw [cut1_length (by rw [HYN.out]; exact hbn)]; omega
              have hO9 := HO9.out
              rw [hxe, ← hlc, rowX_all] at hO9
              have hdf : xl (cut1 a b y.d) (cut1 a b f) = dif a b (xs.map Pc.d) fs i := by
                unfold dif
                rw [if_pos (by rw [← HFE.out, H63.out]; omega), HYD.out, HFE.out]
              rw [hdf] at hO9
              have hC69 : Chg No w6 w9 := HC8.out.transNew HC9.out HG7.out
              have hO69 := HO.out.keptNo hC69
              have hik : i < vs.length := by rw [HVL.out]; omega
              have hgG := hO69.cell hik
              have hgf := hO69.frozen i
              have hgne : g7 ≠ GD := by have := HO.out.lt; have := HG7.out; omega
              have HN := hid hO9
              have HC69 := hid hC69
              have HST := hid (hO69.set hik (.slice (some ⟨g7, 0, none⟩) nb (nb + rest7.length)))
              have HIK := hid hik
              have HNE := hid hgne
              generalize vs[i] = old7 at hgG
              clear HO9 HC9 hxe hlc hO9 hdf hC69 hO69 hik hgne
              go_wp2_with fail
              have hC10 : Chg (Only GD) w6 (w9.setCell ⟨GD, i, none⟩ (.slice (some ⟨g7, 0, none⟩) nb (nb + rest7.length))) := (HC69.out.no (S := Only GD)).setOnly i _
              have hvs' : ∀ x, x < k → ∃ l, DifV (w9.setCell ⟨GD, i, none⟩ (.slice (some ⟨g7, 0, none⟩) nb (nb + rest7.length))) GD nb (va (vs.set i (.slice (some ⟨g7, 0, none⟩) nb (nb + rest7.length))) x) l ∧ difAt pp (z + 1) nb (dif a b (xs.map Pc.d) fs) x l := fun x hx => by
                rw [va_set _ _ _ _ HIK.out]
                by_cases e : x = i
                · rw [if_pos e]
                  refine ⟨dif a b (xs.map Pc.d) fs i, ⟨g7, rest7, rfl, HN.out.setOther (a := ⟨GD, i, none⟩) HNE.out _, HNE.out⟩, fun _ _ _ => by rw [e], fun h => absurd (HPZ.out.trans e.symm) (h z (by omega))⟩
                · rw [if_neg e]
                  obtain ⟨l, h1, h2, h3⟩ := HVS.out x hx
                  refine ⟨l, h1.kept hC10, fun q hq hqx => ?_, fun h => h3 fun q hq => h q (by omega)⟩
                  by_cases eq : q = z
                  · exact absurd (hqx.symm.trans ((congrArg pp eq).trans HPZ.out)) e
                  · exact h2 q (by omega) hqx
              have HVS' := hid hvs'
              have HC10 := hid (HC6.out.trans hC10)
              clear hvs' hC10
              go_roundw
              case rel => exact ⟨z + 1, _, by omega, by go_num, by rw [List.length_set]; exact HVL.out, HST.out, HVS'.out, HC10.out⟩
              case measure => simp [intOf]; omega
        · have hze : z = L := by omega
          subst hze
          have hL6 : Lr w6 .u8 (some ⟨GD, 0, none⟩) (difs k a b (xs.map Pc.d) fs) := by
            intro i hi
            have hik : i < k := by simpa [difs] using hi
            obtain ⟨l, ⟨bb, rr, h1, h2, h3⟩, h4, h5⟩ := HVS.out i hik
            have hl : l = dif a b (xs.map Pc.d) fs i := by
              by_cases h : 0 < (gl fs i).length
              · obtain ⟨q, hq, e⟩ := HGA.out i hik h
                exact h4 q hq e
              · have : dif a b (xs.map Pc.d) fs i = List.replicate nb 0 := by unfold dif; rw [if_neg h, HNB.out]
                rw [this]
                refine h5 fun q hq e => h ?_
                have := (HGK.out q hq).2.2
                rwa [e] at this
            have hln := HDL.out i hik
            rw [HGD.out i hik]
            refine ⟨GD, 0, some ⟨bb, 0, none⟩, nb + rr.length, rfl, ?_, ?_, ?_, ?_⟩
            · rw [HO.out.cellAll, List.append_nil, va_get _ _ (by rw [HVL.out, Nat.zero_add]; exact hik), Nat.zero_add, h1, hln, HNB.out]
            · rw [← hl]; exact h2.rn
            · rw [hln]; omega
            · rw [hln]; omega
          have hCd6 := HC.out.keptNo HCW.out
          have c0 := hCd6.c0
          have c8 := hCd6.c8
          simp only [parF, if_true, Bool.false_eq_true, if_false] at c8
          have HL6 := hid hL6
          have HCD6 := hid hCd6
          have HS6 := hid (HS5.out.kept HC6.out (by have := HDW.out.1; simp only [Only]; omega))
          clear hL6 hCd6 HVS HVL HO HGA HGK HG5 HLL HGD HDL HDD HEX HC6 HC45
          go_wp2_with fail
          refine (HPAR.out _ _ _ HCD6.out HL6.out).mono ?_
          rintro e w10 ⟨G3, ps, rfl, hR3, hx3, hg3, hb3, hC3⟩
          have HC3 := hid (HCW.out.trans hC3)
          have HS3 := hid (HS6.out.keptNo hC3)
          have HR3 := hid hR3
          have HX3 := hid hx3
          have HSG : Hid (w.heap.size ≤ S) := hid (by rw [HS0.out]; exact Nat.le_refl _)
          have HB3 : Hid (∀ x ∈ ps, w.heap.size ≤ x.b) := hid (fun x hx => Nat.le_trans HCW.out.size (hb3 x hx))
          have HG3 : Hid (w.heap.size ≤ G3) := hid (Nat.le_trans HCW.out.size hg3)
          clear hC3 hR3 hx3 hb3 hg3 HS6 HCW HCD6 HL6 HPAR c8 c0 hfn
          go_wp2_with fail
          go_loopw [120] (fun i wr => ∃ j : Nat, j ≤ m ∧ i = .int .i64 (j : Int) ∧ Rws wr 35 5 .u8 G (encTo k a b U xs j) r0 ∧ Chg (InB xs) w10 wr) (fun i _ => m - (intOf i).toNat)
          case atStart => exact ⟨0, by omega, rfl, HR.out.keptNo HC3.out, Chg.refl _ _⟩
          case round =>
            obtain ⟨j, hj, rfl, hR4, hC4⟩ := hrel
            obtain ⟨w4, rfl⟩ : ∃ w4 : World, w4 = wr := ⟨_, rfl⟩
            have HR4 := hid hR4
            have HC4 := hid hC4
            clear hR4 hC4
            by_cases hlt : j < m
            · as_aux_lemma =>
              have ht := HT.out
              have hpx : j < ps.length := by
                have := congrArg List.length HX3.out
                rw [List.length_map, HPL.out] at this; omega
              obtain ⟨pj, hpj⟩ : ∃ pj, pj = ps[j]'hpx := ⟨_, rfl⟩
              have hpd : pj.d = gl P j := by
                have := congrArg (fun l => gl l j) HX3.out
                rw [← (show gl (ps.map Pc.d) j = gl P j from this), gl_get _ _ (by simpa using hpx), hpj]; simp
              have hmp : pj ∈ ps := by rw [hpj]; exact List.getElem_mem hpx
              have hold : ∀ q, InB xs q → q < w.heap.size := fun q ⟨x, hx, e⟩ => by rw [e]; exact HR.out.blk hx
              have hcj := HC4.out.cell (HR3.out.cell hpx) (fun s => by have := hold _ s; have := HG3.out; simp only at *; omega)
              have hin := (HR3.out.inn pj hmp).kept HC4.out (fun s => by have := hold _ s; have := HB3.out pj hmp; omega)
              rw [← hpj] at hcj
              have hCd : Cd w4 false C k m r W T K := (HC.out.keptNo HC3.out).kept HC4.out (fun ⟨x, hx, e⟩ => (HAP.out x hx).1 e.symm) (fun ⟨x, hx, e⟩ => (HAP.out x hx).2.1 e.symm) (fun ⟨x, hx, e⟩ => (HAP.out x hx).2.2.1 e.symm) (fun ⟨x, hx, e⟩ => (HAP.out x hx).2.2.2 e.symm)
              have c0 := hCd.c0
              have hS4 := HS3.out.kept HC4.out (fun s => by have := hold _ s; have := HSG.out; omega)
              have s0 : w4.cell? ⟨S, 0, none⟩ = some (.int .i64 (a : Int)) := hS4.cell (i := 0) (by simp)
              have s1 : w4.cell? ⟨S, 1, none⟩ = some (.int .i64 (b : Int)) := hS4.cell (i := 1) (by simp)
              have hkx : k + j < (encTo k a b U xs j).length := by rw [encTo_length, HXL.out]; omega
              obtain ⟨y, hy⟩ : ∃ y, y = (encTo k a b U xs j)[k + j]'hkx := ⟨_, rfl⟩
              have hky : k + j < xs.length := by rw [HXL.out]; omega
              have hyx : y = xs[k + j]'hky := by
                have := encTo_get? k a b U xs j (k + j)
                rw [List.getElem?_eq_getElem hkx, List.getElem?_eq_getElem hky, Option.map_some, Option.some.injEq, if_neg (by omega)] at this
                rw [hy, this]
              have hcy := HR4.out.cell hkx
              have hiy := HR4.out.inn _ (List.getElem_mem hkx)
              rw [← hy] at hcy hiy
              have hyd : gl (xs.map Pc.d) (k + j) = y.d := by rw [gl_get _ _ (by simpa using hky), hyx]; simp
              have hyn : y.d.length = n := by rw [← hyd]; exact HD.out.ln (k + j) (by omega)
              have hyb : ∀ x, gn y.d x < 256 := fun x => by rw [← hyd]; exact HBT.out _ x
              have hgu := HGP.out j hlt
              rw [hyd, ← hpd] at hgu
              have hpl : pj.d.length = nb := by rw [hpd]; exact HPN.out j hlt
              have hpb : ∀ x, gn pj.d x < 256 := fun x => by rw [hpd]; exact HPT.out j x hlt
              have hpyb : pj.b ≠ y.b := by
                have h1 := HB3.out pj hmp
                have h2 := hold y.b ⟨_, List.getElem_mem hky, by rw [hyx]⟩
                omega
              have hvy : y.v = .slice (some ⟨y.b, 0, none⟩) n (n + y.r.length) := by rw [Pc.v, hyn]
              have hvp : pj.v = .slice (some ⟨pj.b, 0, none⟩) nb (nb + pj.r.length) := by rw [Pc.v, hpl]
              rw [hvy] at hcy
              rw [hvp] at hcj
              have hkj : IntKind.i64.wrap ((k : Int) + (j : Int)) = ((k + j : Nat) : Int) := by rw [IntWalk.i64_in _ (by omega)]; omega
              obtain ⟨kj, hkj2⟩ : ∃ kj, kj = k + j := ⟨_, rfl⟩
              rw [← hkj2] at hkj hcy
              have hcb : (b : Int) ≤ ((n + y.r.length : Nat) : Int) := by omega
              have hcne : ¬ (n + y.r.length = a) := by omega
              obtain ⟨cy, hcye⟩ : ∃ cy, n + y.r.length = cy := ⟨_, rfl⟩
              rw [hcye] at hcy hcb hcne
              have HIN := hid hin
              have HIY := hid hiy
              have HYX := hid hyx
              have HY := hid hy
              have HYN := hid hyn
              have HYB := hid hyb
              have HPD := hid hpl
              have HPB := hid hpb
              have HPY := hid hpyb
              have HGU := hid hgu
              have HKX := hid hkx
              have HKY := hid hky
              have HKJ := hid hkj2
              have i0 : (0 : Int) ≤ (kj : Int) := by omega
              have i4 : (kj : Int) < (t : Int) := by omega
              clear hkj2 ht hpd hpj hmp hold hin hCd hS4 hyx hy hiy hyn hvy hvp hpx hyd hyb hgu hpl hpb hpyb hcye
              go_wp2_with fail
              go_quiet (fail)
              obtain ⟨w5, hw5⟩ : ∃ w5, w5 = w4.drewN nq := ⟨_, rfl⟩
              rw [← hw5]
              have HIY5 : Hid (Own w5 5 y.b (nv .u8 y.d) y.r) := hid (by rw [hw5]; exact HIY.out.drewN _)
              have HIN5 : Hid (Own w5 5 pj.b (nv .u8 pj.d) pj.r) := hid (by rw [hw5]; exact HIN.out.drewN _)
              have HW5 : Hid (Chg (Only y.b) w4 w5) := hid (by rw [hw5]; exact (Chg.refl _ _).drewN _)
              clear hw5 c0 s0 s1 hcy hcj HIY HIN
              go_wp2_with fail
              go_loopw [141] (fun i wr => ∃ x : Nat, x ≤ nb ∧ i = .int .i64 (x : Int) ∧ Own wr 5 y.b (nv .u8 (rowX a x y.d pj.d)) y.r ∧ Chg (Only y.b) w5 wr) (fun i _ => nb - (intOf i).toNat)
              case atStart => exact ⟨0, by omega, rfl, by rw [rowX_zero]; exact HIY5.out, Chg.refl _ _⟩
              case round =>
                clear HIY5
                obtain ⟨x, hx, rfl, hO, hC9⟩ := hrel
                obtain ⟨w9, rfl⟩ : ∃ w9 : World, w9 = wr := ⟨_, rfl⟩
                have HO9 := hid hO
                have HC9 := hid hC9
                clear hO hC9
                by_cases hxl : x < nb
                · have hax : a + x < y.d.length := by rw [HYN.out]; omega
                  have hcf := (HIN5.out.kept HC9.out HPY.out).nat (i := x) (by rw [HPD.out]; exact hxl)
                  have hcd := HO9.out.nat (i := a + x) (by rw [rowX_length]; exact hax)
                  rw [rowX_old a x y.d pj.d hax] at hcd
                  have hgf := HO9.out.frozen (a + x)
                  have hu : gn y.d (a + x) < 256 := HYB.out _
                  have hv : gn pj.d x < 256 := HPB.out x
                  have hst := rowX_set a x y.d pj.d hax
                  have hset := HO9.out.setNat (i := a + x) (by rw [rowX_length]; exact hax) (gn y.d (a + x) ^^^ gn pj.d x)
                  rw [hst] at hset
                  obtain ⟨u, hue⟩ : ∃ u, gn y.d (a + x) = u := ⟨_, rfl⟩
                  obtain ⟨v, hve⟩ : ∃ v, gn pj.d x = v := ⟨_, rfl⟩
                  rw [hue, hve] at hset
                  rw [hue] at hcd hu
                  rw [hve] at hcf hv
                  have HSET := hid hset
                  have hxor := Go.u8_xor_nat u v hu hv
                  clear hue hve hst hset hax
                  go_wp2_with fail
                  go_roundw
                  case rel => exact ⟨x + 1, by omega, by go_num, HSET.out, HC9.out.setOnly _ _⟩
                  case measure => simp [intOf]; omega
                · have hxe : x = nb := by omega
                  have hO9 := HO9.out
                  rw [hxe, ← HNB.out, rowX_spl (by omega) (by rw [HYN.out]; exact hbn), ← HGU.out] at hO9
                  have hC46 : Chg (Only y.b) w4 w9 := HW5.out.trans HC9.out
                  have hyb : y.b = (xs[k + j]'HKY.out).b := by rw [HYX.out]
                  have hlu : (gl U j).length = b - a := by rw [HGU.out, xl_length, cut1_length (by rw [HYN.out]; exact hbn)]
                  have hR6 : Rws w9 35 5 .u8 G (encTo k a b U xs (j + 1)) r0 := by
                    have h1 := HR4.out.upd (w' := w9) (i := k + j) HKX.out (d' := spl a b (gl U j) y.d) (by rw [← HY.out]; exact spl_length hlu (by omega) (by rw [HYN.out]; exact hbn)) (by rw [← HY.out]; exact hC46) (by rw [← HY.out]; exact hO9)
                    rw [encTo, modify_set HKX.out, ← HY.out]
                    rw [← HY.out] at h1
                    exact h1
                  have hC7 : Chg (InB xs) w10 w9 := HC4.out.trans' hC46 fun q hq e => ⟨_, List.getElem_mem HKY.out, by
                    have e : q = y.b := e
                    rw [e, hyb]⟩
                  have HR6 := hid hR6
                  have HC7 := hid hC7
                  clear hR6 hO9 hC46 hyb hlu hC7 HO9 HC9 hxe
                  go_wp2_with fail
                  go_roundw
                  case rel => exact ⟨j + 1, by omega, by go_num, HR6.out, HC7.out⟩
                  case measure => simp [intOf]; omega
            · obtain rfl : j = m := by omega
              have hCE : Chg (InB xs) w w4 := (show Chg (InB xs) w w10 from HC3.out.no).trans HC4.out
              go_wp2_with fail
              go_ret
              exact ⟨rfl, HR4.out, hCE⟩
set_option maxRecDepth 100000 in
set_option maxHeartbeats 12800000 in
theorem UpdateSpan_fast (C k m r W T K n c c2 t a b G : Nat) (xs : List Pc) (q : Option Addr) (fs : List (List Nat)) (r0 : List Value) (w : World) (hc : Cd w true C k m r W T K) (hR : Rws w 35 5 .u8 G xs r0)
    (ht : t = k + m) (hd : Ev t n (xs.map Pc.d)) (hbt : Byt (xs.map Pc.d)) (hf : Lr w .u8 q fs) (hfr : Fr k n fs) (hab : a < b) (hsp : Sp a b n) (htc : t ≤ c) (hap : Apart xs C W T K) :
    Calls Tryz.prog 25 #[.pointer (some ⟨C, 0, none⟩), .slice (some ⟨G, 0, none⟩) t c, .slice q k c2, spanV a b] w fun e w' => e = .returned (.int .i64 0) ∧ Rws w' 35 5 .u8 G (encTo k a b (updP k m a b (xs.map Pc.d) fs) xs m) r0 ∧ Chg (InB xs) w w' := by
  have hk1 := hc.prm.1
  have hm1 := hc.prm.2.1
  have hk2 := hc.prm.2.2.1
  have hm2 := hc.prm.2.2.2.1
  have HFR := hid (fun S w h1 h2 h3 h4 => fresh_span C k m r W T K n c c2 t S a b true (some ⟨G, 0, none⟩) q (xs.map Pc.d) fs w h1 h2 ht hd h3 hfr h4 hsp)
  unfold FreshPost at HFR
  have hD : Ds k (b - a) (difs k a b (xs.map Pc.d) fs) := ds_difs hd hbt (by omega) hfr.lb hab hsp
  have HPAR := hid (fun c p w (h1 : Cd w true C k m r W T K) h3 => parC true C k m r W T K (b - a) c p (difs k a b (xs.map Pc.d) fs) w h1 hD h3)
  simp only [if_true, Bool.false_eq_true, if_false] at HPAR
  unfold ParPost at HPAR
  have hparl : par k m (b - a) (difs k a b (xs.map Pc.d) fs) = par k m (b - a) (difs k a b (xs.map Pc.d) fs) := rfl
  have HGP := hid (fun j (hj : j < m) => gl_updP k m a b (xs.map Pc.d) fs j hj)
  have HPL : Hid ((par k m (b - a) (difs k a b (xs.map Pc.d) fs)).length = m) := hid (par_length _ _ _ _)
  have HPN : Hid (∀ j, j < m → (gl (par k m (b - a) (difs k a b (xs.map Pc.d) fs)) j).length = b - a) := hid (fun j hj => by rw [gl_par _ _ _ _ _ hj, parTo_length])
  have HPT : Hid (∀ j x, j < m → gn (gl (par k m (b - a) (difs k a b (xs.map Pc.d) fs)) j) x < 256) := hid (fun j x hj => by rw [gl_par _ _ _ _ _ hj]; exact parTo_lt _ _ _ _ _ _)
  have HGD := hid (fun i (hi : i < k) => gl_difs k a b (xs.map Pc.d) fs i hi)
  have HDL := hid (fun i (hi : i < k) => dif_length (fs := fs) hd (show k ≤ t by omega) hsp hi)
  have HDD := hid hD
  have HNO := hid (fun hg => updP_none (xs := xs) (fs := fs) (by rw [← ht]; exact hd) hbt hfr.lb hab hsp hg)
  have HC := hid hc
  have HR := hid hR
  have HD := hid hd
  have HBT := hid hbt
  have HT := hid ht
  have HF := hid hf
  have HFRR := hid hfr
  have HAP := hid hap
  have HSP := hid hsp
  have HXL : Hid (xs.length = t) := hid (by have := hd.lt; rwa [List.length_map] at this)
  have hn := hd.small
  have hts := hd.tsmall
  have hbn := hsp.bn
  clear hc hR hd hbt ht hf hfr hap hsp hD hparl
  generalize hPP : par k m (b - a) (difs k a b (xs.map Pc.d) fs) = P at *
  clear hPP
  unfold spanV at *
  have hgl := givenL_le k fs
  generalize updP k m a b (xs.map Pc.d) fs = U at *
  go_enter Tryz.func25, Tryz.ntmps25
  go_wp2_with fail
  obtain ⟨w1, hw1⟩ : ∃ w1, w1 = w.alloc (.cells #[.int .i64 (a : Int), .int .i64 (b : Int)] 51) := ⟨_, rfl⟩
  have hC1 : Chg No w w1 := by rw [hw1]; exact (Chg.refl _ _).alloc _
  have hS : Own w1 51 w.heap.size [.int .i64 (a : Int), .int .i64 (b : Int)] [] := by rw [hw1]; exact heap_alloc_new w _
  rw [← hw1]
  have HC1 := hid hC1
  have HS := hid hS
  have HSlt : Hid (w.heap.size ≤ w.heap.size) := hid (Nat.le_refl _)
  clear hw1 hS hC1
  generalize hS0 : w.heap.size = S at *
  have HS0 := hid hS0
  clear hS0
  refine (HFR.out _ _ (HC.out.keptNo HC1.out) (HR.out.lr.keptNo HC1.out) (HF.out.keptNo HC1.out) HS.out).mono ?_
  rintro e w2 ⟨v2, rfl, hV2, hC2⟩
  have HV2 := hid hV2
  have HC2 := hid (HC1.out.trans hC2)
  have HS2 := hid (HS.out.keptNo hC2)
  have hCd2 := HC.out.keptNo HC2.out
  have c8 := hCd2.c8
  have c0 := hCd2.c0
  have s0 : w2.cell? ⟨S, 0, none⟩ = some (.int .i64 (a : Int)) := HS2.out.cell (i := 0) (by simp)
  have s1 : w2.cell? ⟨S, 1, none⟩ = some (.int .i64 (b : Int)) := HS2.out.cell (i := 1) (by simp)
  simp only [parF, if_true, Bool.false_eq_true, if_false] at c8
  clear hV2 hC2 hCd2 HFR HS
  have hfn : ∀ W, (binOp BinOp.eql 34 (Value.func (Fn.func 65) #[.pointer (some ⟨C, 0, none⟩)] #[]) Value.nilFunc).run Tryz.prog W = .ok (.bool false) W := fun _ => rfl
  rcases HV2.out.cases with ⟨hv, hg0⟩ | ⟨gG, rG, hv, hgb, hgo⟩
  · have hno := HNO.out hg0
    subst hv
    have HNO2 := hid hno
    have hlen0 : (givenL k fs).length = 0 := by rw [hg0]; rfl
    have HR2 := hid (HR.out.keptNo HC2.out)
    clear hno hg0 hlen0
    go_wp2_with fail
    go_ret
    exact ⟨rfl, by rw [HNO2.out]; exact HR2.out, HC2.out.no⟩
  subst hv
  by_cases hgz : (givenL k fs).length = 0
  · have hno := HNO.out (List.eq_nil_of_length_eq_zero hgz)
    rw [hgz]
    have HNO2 := hid hno
    have HR2 := hid (HR.out.keptNo HC2.out)
    clear hno hgz
    go_wp2_with fail
    go_ret
    exact ⟨rfl, by rw [HNO2.out]; exact HR2.out, HC2.out.no⟩
  obtain ⟨L, hL⟩ : ∃ L, (givenL k fs).length = L := ⟨_, rfl⟩
  rw [hL] at hgz hgl ⊢
  have HLL := hid hL
  have HGO := hid hgo
  have HGB := hid hgb
  have HGK : Hid (∀ z, z < L → gn (givenL k fs) z = pk k (fun i => decide (0 < (gl fs i).length)) z ∧ pk k (fun i => decide (0 < (gl fs i).length)) z < k ∧ 0 < (gl fs (pk k (fun i => decide (0 < (gl fs i).length)) z)).length) := hid (fun z hz => by
    have hz' : z < cnt k (fun i => decide (0 < (gl fs i).length)) := by rw [← hL] at hz; exact hz
    exact ⟨rfl, pk_lt hz', of_decide_eq_true (pk_is hz')⟩)
  have HGA : Hid (∀ x, x < k → 0 < (gl fs x).length → ∃ z, z < L ∧ pk k (fun i => decide (0 < (gl fs i).length)) z = x) := hid (fun x hx h => by
    obtain ⟨z, hz, e⟩ := pk_all (p := fun i => decide (0 < (gl fs i).length)) hx (decide_eq_true h)
    exact ⟨z, by rw [← hL]; exact hz, e⟩)
  generalize hpk : pk k (fun i => decide (0 < (gl fs i).length)) = pp at *
  have hL1 : 0 < L := by omega
  have hL2 : ((L : Int) == 0) = false := by rw [beq_eq_false_iff_ne]; omega
  clear hL hgo hgb hpk HV2 hgz
  obtain ⟨cG, hcG⟩ : ∃ cG, L + rG.length = cG := ⟨_, rfl⟩
  rw [hcG]
  clear hcG
  have k0 : (0 : Int) ≤ (k : Int) := by omega
  have a0 : (0 : Int) ≤ (a : Int) := by omega
  have ab0 : (a : Int) ≤ (b : Int) := by omega
  obtain ⟨nb, hnb⟩ : ∃ nb, b - a = nb := ⟨_, rfl⟩
  have hsub : (b : Int) - (a : Int) = (nb : Int) := by omega
  have hnb1 : nb ≤ 4194304 := by omega
  have HNB := hid hnb
  have hnb2 : 1 ≤ nb := by omega
  rw [hnb] at HPN
  clear hnb
  go_wp2_with (first
    | (at_make; (with_reducible refine wpList_mk1 35 (.slice none 0 0) 24 k k ?_ ?_ ?_ ?_ ?_ ?_ ?_ ?_); exact ⟨rfl, rfl⟩; exact Tryz.underlying22; kernel_rfl; rfl; omega; omega; (unfold maxLen; omega); intro W3 hO3 hC3 hs3
       have s0 := hC3.cell s0 id
       have s1 := hC3.cell s1 id
       have HO3 := hid hO3
       have HC3 := hid hC3
       clear hO3 hC3 c0 c8)
    | (at_make; go_must ((with_reducible refine wpList_mk1 5 (.int .u8 0) 1 nb nb ?_ ?_ ?_ ?_ ?_ ?_ ?_ ?_); exact ⟨rfl, rfl⟩; exact Tryz.underlying35; kernel_rfl; rfl; omega; omega; (unfold maxLen; omega); intro W4 hO4 hC4 hs4)))
  have HO4 : Hid (Own W4 5 W3.heap.size (nv .u8 (List.replicate nb 0)) []) := hid (by rw [nv_replicate]; simpa using hO4)
  have HD4 : Hid (Own W4 35 w2.heap.size [] (List.replicate k (.slice none 0 0))) := hid (by
    have := HO3.out.keptNo hC4
    simpa [Own] using this)
  have HC4 := hid (HC2.out.trans (HC3.out.trans hC4))
  have HZD : Hid (w2.heap.size < W3.heap.size) := hid HO3.out.lt
  have HDW : Hid (S < w2.heap.size ∧ gG < w2.heap.size) := hid ⟨HS2.out.lt, HGO.out.lt⟩
  have HGO4 := hid (HGO.out.keptNo (HC3.out.trans hC4))
  have HS4 := hid (HS2.out.keptNo (HC3.out.trans hC4))
  clear hO4 hC4 hs4 hs3 s0 s1 HO3 HC3 HC2 HS2 HGO HNO
  generalize W3.heap.size = Z at *
  generalize w2.heap.size = GD at *
  go_loopw [61] (fun i wr => ∃ j : Nat, j ≤ k ∧ i = .int .i64 (j : Int) ∧ Own wr 35 GD (List.replicate j (.slice (some ⟨Z, 0, none⟩) nb nb)) (List.replicate (k - j) (.slice none 0 0)) ∧ Chg (Only GD) W4 wr) (fun i _ => k - (intOf i).toNat)
  case atStart => exact ⟨0, by omega, rfl, HD4.out, Chg.refl _ _⟩
  case round =>
    obtain ⟨j, hj, rfl, hO, hC5⟩ := hrel
    obtain ⟨w5, rfl⟩ : ∃ w5 : World, w5 = wr := ⟨_, rfl⟩
    have HC5 := hid hC5
    by_cases hjl : j < k
    · rw [show k - j = k - (j + 1) + 1 from by omega, List.replicate_succ] at hO
      have HO := hid hO
      have hgc := hO.restCell
      rw [List.length_replicate] at hgc
      have hgf := hO.frozen j
      clear hO hC5
      go_wp2_with fail
      have hset := HO.out.setRest (.slice (some ⟨Z, 0, none⟩) nb nb)
      rw [List.length_replicate, show List.replicate j (Value.slice (some ⟨Z, 0, none⟩) nb nb) ++ [.slice (some ⟨Z, 0, none⟩) nb nb] = List.replicate (j + 1) (.slice (some ⟨Z, 0, none⟩) nb nb) from by rw [List.replicate_succ']] at hset
      have HSET := hid hset
      clear hset hgc hgf
      go_roundw
      case rel => exact ⟨j + 1, by omega, by go_num, HSET.out, HC5.out.setOnly _ _⟩
      case measure => simp [intOf]; omega
    · have hje : j = k := by omega
      rw [hje, Nat.sub_self] at hO
      have HO5 := hid hO
      have HC45 : Hid (Chg No w w5) := hid (HC4.out.trans' hC5 fun y hy e => by have := HDW.out.1; have := HS0.out; simp only [Only] at e; omega)
      have HZ5 := hid (HO4.out.kept hC5 (by have := HZD.out; simp only [Only]; omega))
      have HG5 := hid (HGO4.out.kept hC5 (by have := HDW.out.2; simp only [Only]; omega))
      have HC5' := hid hC5
      clear hO hC5 HC5 HC4 HO4 HGO4 HD4
      have HEX := hid hje
      have HCS : Hid (Chg No w5 w5) := hid (Chg.refl _ _)
      have HS5 := hid (HS4.out.kept HC5'.out (by have := HDW.out.1; simp only [Only]; omega))
      clear hje
      have hnbe : b - a = nb := HNB.out
      have HVS0 : Hid (∀ x, x < k → ∃ l, DifV w5 GD nb (va (List.replicate k (.slice (some ⟨Z, 0, none⟩) nb nb)) x) l ∧ difAt pp 0 nb (dif a b (xs.map Pc.d) fs) x l) := hid (fun x hx => by
        refine ⟨List.replicate nb 0, ⟨Z, [], ?_, HZ5.out, by have := HZD.out; omega⟩, fun y hy => by omega, fun _ => rfl⟩
        simp [va, hx])
      clear HZ5
      go_wp2_with fail
      go_loopw [71] (fun i wr => ∃ (z : Nat) (vs : List Value), z ≤ L ∧ i = .int .i64 (z : Int) ∧ vs.length = k ∧ Own wr 35 GD vs [] ∧ (∀ x, x < k → ∃ l, DifV wr GD nb (va vs x) l ∧ difAt pp z nb (dif a b (xs.map Pc.d) fs) x l) ∧ Chg (Only GD) w5 wr) (fun i _ => L - (intOf i).toNat)
      case atStart => exact ⟨0, _, by omega, rfl, by simp, HO5.out, HVS0.out, Chg.refl _ _⟩
      case round =>
        clear HO5 HVS0
        obtain ⟨z, vs, hz, rfl, hvl, hO, hvs, hC6⟩ := hrel
        obtain ⟨w6, rfl⟩ : ∃ w6 : World, w6 = wr := ⟨_, rfl⟩
        have HO := hid hO
        have HVS := hid hvs
        have HC6 := hid hC6
        have HVL := hid hvl
        have hCw : Chg No w w6 := HC45.out.trans' hC6 fun y hy e => by have := HDW.out.1; have := HS0.out; simp only [Only] at e; omega
        have HCW := hid hCw
        clear hO hvs hC6 hvl hCw
        by_cases hzl : z < L
        · as_aux_lemma =>
          obtain ⟨hg1, hg2, hg3⟩ := HGK.out z hzl
          obtain ⟨i, hi⟩ : ∃ i, pp z = i := ⟨_, rfl⟩
          rw [hi] at hg1 hg2 hg3
          have HPZ := hid hi
          have gc := (HG5.out.kept HC6.out (by have := HDW.out.2; simp only [Only]; omega)).nat (i := z) (by rw [HLL.out]; exact hzl)
          rw [hg1] at gc
          have hix : i < xs.length := by rw [HXL.out, HT.out]; omega
          obtain ⟨y, hye⟩ : ∃ y, y = xs[i]'hix := ⟨_, rfl⟩
          have hR6 := HR.out.keptNo HCW.out
          have hcy := hR6.cell hix
          have hiy := hR6.inn _ (List.getElem_mem hix)
          rw [← hye] at hcy hiy
          have hyd : gl (xs.map Pc.d) i = y.d := by rw [gl_get _ _ (by simpa using hix), hye]; simp
          have hyn : y.d.length = n := by rw [← hyd]; exact HD.out.ln i (by rw [HT.out]; omega)
          have hyb : ∀ x, gn y.d x < 256 := fun x => by rw [← hyd]; exact HBT.out i x
          have hvy : y.v = .slice (some ⟨y.b, 0, none⟩) n (n + y.r.length) := by rw [Pc.v, hyn]
          rw [hvy] at hcy
          have hfn0 : (gl fs i).length = n := by
            rcases HFRR.out.ln i hg2 with h | h
            · omega
            · exact h
          obtain ⟨fb0, fo0, fq, fc, rfl, hfc, hfr, _, hfcc⟩ := (HF.out.keptNo HCW.out) i (by rw [HFRR.out.lk]; exact hg2)
          obtain ⟨fb, fo, rfl, hfrc⟩ := hfr.at0 (by omega)
          rw [hfn0] at hfc hfcc hfrc
          obtain ⟨f, hfe⟩ : ∃ f, f = gl fs i := ⟨_, rfl⟩
          rw [← hfe] at hfrc hfn0
          have hfb : ∀ x, gn f x < 256 := fun x => by rw [hfe]; exact HFRR.out.lb i x
          have hS6 := HS5.out.kept HC6.out (by have := HDW.out.1; simp only [Only]; omega)
          have s0 : w6.cell? ⟨S, 0, none⟩ = some (.int .i64 (a : Int)) := hS6.cell (i := 0) (by simp)
          have s1 : w6.cell? ⟨S, 1, none⟩ = some (.int .i64 (b : Int)) := hS6.cell (i := 1) (by simp)
          have HCL := hid (fun w h => Clone_calls (some ⟨y.b, a, none⟩) nb (n + y.r.length - a) (cut1 a b y.d) w h (by rw [cut1_length (by omega)]; omega) (by omega) (by omega))
          unfold ClonePost at HCL
          have HRC : Hid (∀ w', Chg No w6 w' → Rn w' .u8 (some ⟨y.b, a, none⟩) (cut1 a b y.d)) := hid (fun w' h => by
            intro x hx
            have hxb : x < b - a := by rw [cut1_length (by omega)] at hx; exact hx
            refine ⟨y.b, a, rfl, ?_⟩
            rw [gn_cut1 (by omega) (by omega)]
            exact (hiy.keptNo h).nat (by omega))
          have i0 : (0 : Int) ≤ (i : Int) := by omega
          have i1 : (i : Int) < (t : Int) := by have := HT.out; omega
          have i2 : (i : Int) < (k : Int) := by omega
          have hkc2 : (b : Int) ≤ ((n + y.r.length : Nat) : Int) := by omega
          have hne1 : ¬ (n + y.r.length = a) := by omega
          have hne2 : ¬ (fc = a) := by omega
          obtain ⟨cy, hcye⟩ : ∃ cy, n + y.r.length = cy := ⟨_, rfl⟩
          rw [hcye] at hcy HCL hkc2 hne1
          have hkc3 : (b : Int) ≤ (fc : Int) := by omega
          have HYN := hid hyn
          have HYB := hid hyb
          have H65 := hid hfn0
          have HFB := hid hfb
          have HFC := hid hfc
          have HFRC := hid hfrc
          have HYD := hid hyd
          have HFE := hid hfe
          have HIX := hid hix
          clear hye hiy hyd hyn hyb hvy hR6 hg1 hg3 hi hfn0 hfc hfcc hfr hfrc hfe hfb hcye hS6 hix
          go_wp2_with fail
          go_region_held3 (fun w' => Chg No w6 w' ∧ w'.cell? ⟨G, i, none⟩ = some (.slice (some ⟨y.b, 0, none⟩) n cy) ∧ w'.cell? ⟨S, 0, none⟩ = some (.int .i64 (a : Int)) ∧ w'.cell? ⟨S, 1, none⟩ = some (.int .i64 (b : Int)))
            (first
              | exact ⟨(Chg.refl No w6).drew, hcy, s0, s1⟩
              | assumption
              | exact ⟨((Chg.refl No w6).drew).trans hC7, hC7.cell hcy id, hC7.cell s0 id, hC7.cell s1 id⟩)
            (first | (go_at_call 41; refine (HCL.out _ (HRC.out _ ((Chg.refl No w6).drew))).mono ?_; rintro e w7 ⟨g7, rest7, rfl, hO7, hg7, hC7⟩))
          have hC67 : Chg No w6 w7 := ((Chg.refl No w6).drew).trans hC7
          have HO7 := hid hO7
          have HC7 := hid hC67
          have HG7 : Hid (w6.heap.size ≤ g7) := hid hg7
          have t0 := hC67.cell s0 id
          have t1 := hC67.cell s1 id
          have hfc7 := hC67.cell HFC.out id
          clear hO7 hg7 hC67 hC7 hcy s0 s1
          have i3 : (i : Int) < (k : Int) := i2
          go_wp2_with fail
          go_quiet (fail)
          obtain ⟨w8, hw8⟩ : ∃ w8, w8 = w7.drewN nq := ⟨_, rfl⟩
          rw [← hw8]
          have HO8 : Hid (Own w8 5 g7 (nv .u8 (cut1 a b y.d)) rest7) := hid (by rw [hw8]; exact HO7.out.drewN _)
          have HC8 : Hid (Chg No w6 w8) := hid (by rw [hw8]; exact HC7.out.drewN _)
          clear hw8 t0 t1 hfc7 HO7 HC7 HRC HCL
          go_wp2_with fail
          go_loopw [95] (fun i wr => ∃ x : Nat, x ≤ nb ∧ i = .int .i64 (x : Int) ∧ Own wr 5 g7 (nv .u8 (rowX 0 x (cut1 a b y.d) (cut1 a b f))) rest7 ∧ Chg (Only g7) w8 wr) (fun i _ => nb - (intOf i).toNat)
          case atStart => exact ⟨0, by omega, rfl, by rw [rowX_zero]; exact HO8.out, Chg.refl _ _⟩
          case round =>
            clear HO8
            obtain ⟨x, hx, rfl, hO, hC9⟩ := hrel
            obtain ⟨w9, rfl⟩ : ∃ w9 : World, w9 = wr := ⟨_, rfl⟩
            have HO9 := hid hO
            have HC9 := hid hC9
            clear hO hC9
            by_cases hxl : x < nb
            · have hlc : (cut1 a b y.d).length = nb := by rw [cut1_length (by rw [HYN.out]; exact hbn)]; omega
              have hlf : (cut1 a b f).length = nb := by rw [cut1_length (by rw [H65.out]; exact hbn)]; omega
              have hcf0 := HFRC.out (a + x) (by omega)
              have hfb6 := World.block_lt_of_cell? _ _ hcf0
              have hcf := HC9.out.cell (HC8.out.cell hcf0 id) (fun e => by
                have e : fb = g7 := e
                have := HG7.out
                simp only at hfb6; omega)
              rw [show fo + (a + x) = fo + a + x from by omega] at hcf
              have hcd := HO9.out.nat (i := x) (by rw [rowX_length]; omega)
              have hx0 := rowX_old 0 x (cut1 a b y.d) (cut1 a b f) (by omega)
              rw [Nat.zero_add] at hx0
              rw [hx0] at hcd
              have hgf := HO9.out.frozen x
              have hu : gn (cut1 a b y.d) x < 256 := cut1_lt HYB.out x
              have hgv : gn f (a + x) = gn (cut1 a b f) x := (gn_cut1 (by omega) (by rw [H65.out]; exact hbn)).symm
              have hv : gn (cut1 a b f) x < 256 := cut1_lt HFB.out x
              rw [hgv] at hcf
              obtain ⟨u, hue⟩ : ∃ u, gn (cut1 a b y.d) x = u := ⟨_, rfl⟩
              obtain ⟨v, hve⟩ : ∃ v, gn (cut1 a b f) x = v := ⟨_, rfl⟩
              have hst := rowX_set 0 x (cut1 a b y.d) (cut1 a b f) (by omega)
              rw [Nat.zero_add, hue, hve] at hst
              rw [hue] at hcd hu
              rw [hve] at hcf hv
              have hset := HO9.out.setNat (i := x) (by rw [rowX_length]; omega) (u ^^^ v)
              rw [hst] at hset
              have HSET := hid hset
              have hxor := Go.u8_xor_nat u v hu hv
              clear hlc hlf hcf0 hfb6 hx0 hgv hue hve hst hset
              go_wp2_with fail
              go_roundw
              case rel => exact ⟨x + 1, by omega, by go_num, HSET.out, HC9.out.setOnly _ _⟩
              case measure => simp [intOf]; omega
            · have hxe : x = nb := by omega
              have hlc : (cut1 a b y.d).length = nb := by rw [cut1_length (by rw [HYN.out]; exact hbn)]; omega
              have hO9 := HO9.out
              rw [hxe, ← hlc, rowX_all] at hO9
              have hdf : xl (cut1 a b y.d) (cut1 a b f) = dif a b (xs.map Pc.d) fs i := by
                unfold dif
                rw [if_pos (by rw [← HFE.out, H65.out]; omega), HYD.out, HFE.out]
              rw [hdf] at hO9
              have hC69 : Chg No w6 w9 := HC8.out.transNew HC9.out HG7.out
              have hO69 := HO.out.keptNo hC69
              have hik : i < vs.length := by rw [HVL.out]; omega
              have hgG := hO69.cell hik
              have hgf := hO69.frozen i
              have hgne : g7 ≠ GD := by have := HO.out.lt; have := HG7.out; omega
              have HN := hid hO9
              have HC69 := hid hC69
              have HST := hid (hO69.set hik (.slice (some ⟨g7, 0, none⟩) nb (nb + rest7.length)))
              have HIK := hid hik
              have HNE := hid hgne
              generalize vs[i] = old7 at hgG
              clear HO9 HC9 hxe hlc hO9 hdf hC69 hO69 hik hgne
              go_wp2_with fail
              have hC10 : Chg (Only GD) w6 (w9.setCell ⟨GD, i, none⟩ (.slice (some ⟨g7, 0, none⟩) nb (nb + rest7.length))) := (HC69.out.no (S := Only GD)).setOnly i _
              have hvs' : ∀ x, x < k → ∃ l, DifV (w9.setCell ⟨GD, i, none⟩ (.slice (some ⟨g7, 0, none⟩) nb (nb + rest7.length))) GD nb (va (vs.set i (.slice (some ⟨g7, 0, none⟩) nb (nb + rest7.length))) x) l ∧ difAt pp (z + 1) nb (dif a b (xs.map Pc.d) fs) x l := fun x hx => by
                rw [va_set _ _ _ _ HIK.out]
                by_cases e : x = i
                · rw [if_pos e]
                  refine ⟨dif a b (xs.map Pc.d) fs i, ⟨g7, rest7, rfl, HN.out.setOther (a := ⟨GD, i, none⟩) HNE.out _, HNE.out⟩, fun _ _ _ => by rw [e], fun h => absurd (HPZ.out.trans e.symm) (h z (by omega))⟩
                · rw [if_neg e]
                  obtain ⟨l, h1, h2, h3⟩ := HVS.out x hx
                  refine ⟨l, h1.kept hC10, fun q hq hqx => ?_, fun h => h3 fun q hq => h q (by omega)⟩
                  by_cases eq : q = z
                  · exact absurd (hqx.symm.trans ((congrArg pp eq).trans HPZ.out)) e
                  · exact h2 q (by omega) hqx
              have HVS' := hid hvs'
              have HC10 := hid (HC6.out.trans hC10)
              clear hvs' hC10
              go_roundw
              case rel => exact ⟨z + 1, _, by omega, by go_num, by rw [List.length_set]; exact HVL.out, HST.out, HVS'.out, HC10.out⟩
              case measure => simp [intOf]; omega
        · have hze : z = L := by omega
          subst hze
          have hL6 : Lr w6 .u8 (some ⟨GD, 0, none⟩) (difs k a b (xs.map Pc.d) fs) := by
            intro i hi
            have hik : i < k := by simpa [difs] using hi
            obtain ⟨l, ⟨bb, rr, h1, h2, h3⟩, h4, h5⟩ := HVS.out i hik
            have hl : l = dif a b (xs.map Pc.d) fs i := by
              by_cases h : 0 < (gl fs i).length
              · obtain ⟨q, hq, e⟩ := HGA.out i hik h
                exact h4 q hq e
              · have : dif a b (xs.map Pc.d) fs i = List.replicate nb 0 := by unfold dif; rw [if_neg h, HNB.out]
                rw [this]
                refine h5 fun q hq e => h ?_
                have := (HGK.out q hq).2.2
                rwa [e] at this
            have hln := HDL.out i hik
            rw [HGD.out i hik]
            refine ⟨GD, 0, some ⟨bb, 0, none⟩, nb + rr.length, rfl, ?_, ?_, ?_, ?_⟩
            · rw [HO.out.cellAll, List.append_nil, va_get _ _ (by rw [HVL.out, Nat.zero_add]; exact hik), Nat.zero_add, h1, hln, HNB.out]
            · rw [← hl]; exact h2.rn
            · rw [hln]; omega
            · rw [hln]; omega
          have hCd6 := HC.out.keptNo HCW.out
          have c0 := hCd6.c0
          have c8 := hCd6.c8
          simp only [parF, if_true, Bool.false_eq_true, if_false] at c8
          have HL6 := hid hL6
          have HCD6 := hid hCd6
          have HS6 := hid (HS5.out.kept HC6.out (by have := HDW.out.1; simp only [Only]; omega))
          clear hL6 hCd6 HVS HVL HO HGA HGK HG5 HLL HGD HDL HDD HEX HC6 HC45
          go_wp2_with fail
          refine (HPAR.out _ _ _ HCD6.out HL6.out).mono ?_
          rintro e w10 ⟨G3, ps, rfl, hR3, hx3, hg3, hb3, hC3⟩
          have HC3 := hid (HCW.out.trans hC3)
          have HS3 := hid (HS6.out.keptNo hC3)
          have HR3 := hid hR3
          have HX3 := hid hx3
          have HSG : Hid (w.heap.size ≤ S) := hid (by rw [HS0.out]; exact Nat.le_refl _)
          have HB3 : Hid (∀ x ∈ ps, w.heap.size ≤ x.b) := hid (fun x hx => Nat.le_trans HCW.out.size (hb3 x hx))
          have HG3 : Hid (w.heap.size ≤ G3) := hid (Nat.le_trans HCW.out.size hg3)
          clear hC3 hR3 hx3 hb3 hg3 HS6 HCW HCD6 HL6 HPAR c8 c0 hfn
          go_wp2_with fail
          go_loopw [120] (fun i wr => ∃ j : Nat, j ≤ m ∧ i = .int .i64 (j : Int) ∧ Rws wr 35 5 .u8 G (encTo k a b U xs j) r0 ∧ Chg (InB xs) w10 wr) (fun i _ => m - (intOf i).toNat)
          case atStart => exact ⟨0, by omega, rfl, HR.out.keptNo HC3.out, Chg.refl _ _⟩
          case round =>
            obtain ⟨j, hj, rfl, hR4, hC4⟩ := hrel
            obtain ⟨w4, rfl⟩ : ∃ w4 : World, w4 = wr := ⟨_, rfl⟩
            have HR4 := hid hR4
            have HC4 := hid hC4
            clear hR4 hC4
            by_cases hlt : j < m
            · as_aux_lemma =>
              have ht := HT.out
              have hpx : j < ps.length := by
                have := congrArg List.length HX3.out
                rw [List.length_map, HPL.out] at this; omega
              obtain ⟨pj, hpj⟩ : ∃ pj, pj = ps[j]'hpx := ⟨_, rfl⟩
              have hpd : pj.d = gl P j := by
                have := congrArg (fun l => gl l j) HX3.out
                rw [← (show gl (ps.map Pc.d) j = gl P j from this), gl_get _ _ (by simpa using hpx), hpj]; simp
              have hmp : pj ∈ ps := by rw [hpj]; exact List.getElem_mem hpx
              have hold : ∀ q, InB xs q → q < w.heap.size := fun q ⟨x, hx, e⟩ => by rw [e]; exact HR.out.blk hx
              have hcj := HC4.out.cell (HR3.out.cell hpx) (fun s => by have := hold _ s; have := HG3.out; simp only at *; omega)
              have hin := (HR3.out.inn pj hmp).kept HC4.out (fun s => by have := hold _ s; have := HB3.out pj hmp; omega)
              rw [← hpj] at hcj
              have hCd : Cd w4 true C k m r W T K := (HC.out.keptNo HC3.out).kept HC4.out (fun ⟨x, hx, e⟩ => (HAP.out x hx).1 e.symm) (fun ⟨x, hx, e⟩ => (HAP.out x hx).2.1 e.symm) (fun ⟨x, hx, e⟩ => (HAP.out x hx).2.2.1 e.symm) (fun ⟨x, hx, e⟩ => (HAP.out x hx).2.2.2 e.symm)
              have c0 := hCd.c0
              have hS4 := HS3.out.kept HC4.out (fun s => by have := hold _ s; have := HSG.out; omega)
              have s0 : w4.cell? ⟨S, 0, none⟩ = some (.int .i64 (a : Int)) := hS4.cell (i := 0) (by simp)
              have s1 : w4.cell? ⟨S, 1, none⟩ = some (.int .i64 (b : Int)) := hS4.cell (i := 1) (by simp)
              have hkx : k + j < (encTo k a b U xs j).length := by rw [encTo_length, HXL.out]; omega
              obtain ⟨y, hy⟩ : ∃ y, y = (encTo k a b U xs j)[k + j]'hkx := ⟨_, rfl⟩
              have hky : k + j < xs.length := by rw [HXL.out]; omega
              have hyx : y = xs[k + j]'hky := by
                have := encTo_get? k a b U xs j (k + j)
                rw [List.getElem?_eq_getElem hkx, List.getElem?_eq_getElem hky, Option.map_some, Option.some.injEq, if_neg (by omega)] at this
                rw [hy, this]
              have hcy := HR4.out.cell hkx
              have hiy := HR4.out.inn _ (List.getElem_mem hkx)
              rw [← hy] at hcy hiy
              have hyd : gl (xs.map Pc.d) (k + j) = y.d := by rw [gl_get _ _ (by simpa using hky), hyx]; simp
              have hyn : y.d.length = n := by rw [← hyd]; exact HD.out.ln (k + j) (by omega)
              have hyb : ∀ x, gn y.d x < 256 := fun x => by rw [← hyd]; exact HBT.out _ x
              have hgu := HGP.out j hlt
              rw [hyd, ← hpd] at hgu
              have hpl : pj.d.length = nb := by rw [hpd]; exact HPN.out j hlt
              have hpb : ∀ x, gn pj.d x < 256 := fun x => by rw [hpd]; exact HPT.out j x hlt
              have hpyb : pj.b ≠ y.b := by
                have h1 := HB3.out pj hmp
                have h2 := hold y.b ⟨_, List.getElem_mem hky, by rw [hyx]⟩
                omega
              have hvy : y.v = .slice (some ⟨y.b, 0, none⟩) n (n + y.r.length) := by rw [Pc.v, hyn]
              have hvp : pj.v = .slice (some ⟨pj.b, 0, none⟩) nb (nb + pj.r.length) := by rw [Pc.v, hpl]
              rw [hvy] at hcy
              rw [hvp] at hcj
              have hkj : IntKind.i64.wrap ((k : Int) + (j : Int)) = ((k + j : Nat) : Int) := by rw [IntWalk.i64_in _ (by omega)]; omega
              obtain ⟨kj, hkj2⟩ : ∃ kj, kj = k + j := ⟨_, rfl⟩
              rw [← hkj2] at hkj hcy
              have hcb : (b : Int) ≤ ((n + y.r.length : Nat) : Int) := by omega
              have hcne : ¬ (n + y.r.length = a) := by omega
              obtain ⟨cy, hcye⟩ : ∃ cy, n + y.r.length = cy := ⟨_, rfl⟩
              rw [hcye] at hcy hcb hcne
              have HIN := hid hin
              have HIY := hid hiy
              have HYX := hid hyx
              have HY := hid hy
              have HYN := hid hyn
              have HYB := hid hyb
              have HPD := hid hpl
              have HPB := hid hpb
              have HPY := hid hpyb
              have HGU := hid hgu
              have HKX := hid hkx
              have HKY := hid hky
              have HKJ := hid hkj2
              have i0 : (0 : Int) ≤ (kj : Int) := by omega
              have i4 : (kj : Int) < (t : Int) := by omega
              clear hkj2 ht hpd hpj hmp hold hin hCd hS4 hyx hy hiy hyn hvy hvp hpx hyd hyb hgu hpl hpb hpyb hcye
              go_wp2_with fail
              go_quiet (fail)
              obtain ⟨w5, hw5⟩ : ∃ w5, w5 = w4.drewN nq := ⟨_, rfl⟩
              rw [← hw5]
              have HIY5 : Hid (Own w5 5 y.b (nv .u8 y.d) y.r) := hid (by rw [hw5]; exact HIY.out.drewN _)
              have HIN5 : Hid (Own w5 5 pj.b (nv .u8 pj.d) pj.r) := hid (by rw [hw5]; exact HIN.out.drewN _)
              have HW5 : Hid (Chg (Only y.b) w4 w5) := hid (by rw [hw5]; exact (Chg.refl _ _).drewN _)
              clear hw5 c0 s0 s1 hcy hcj HIY HIN
              go_wp2_with fail
              go_loopw [141] (fun i wr => ∃ x : Nat, x ≤ nb ∧ i = .int .i64 (x : Int) ∧ Own wr 5 y.b (nv .u8 (rowX a x y.d pj.d)) y.r ∧ Chg (Only y.b) w5 wr) (fun i _ => nb - (intOf i).toNat)
              case atStart => exact ⟨0, by omega, rfl, by rw [rowX_zero]; exact HIY5.out, Chg.refl _ _⟩
              case round =>
                clear HIY5
                obtain ⟨x, hx, rfl, hO, hC9⟩ := hrel
                obtain ⟨w9, rfl⟩ : ∃ w9 : World, w9 = wr := ⟨_, rfl⟩
                have HO9 := hid hO
                have HC9 := hid hC9
                clear hO hC9
                by_cases hxl : x < nb
                · have hax : a + x < y.d.length := by rw [HYN.out]; omega
                  have hcf := (HIN5.out.kept HC9.out HPY.out).nat (i := x) (by rw [HPD.out]; exact hxl)
                  have hcd := HO9.out.nat (i := a + x) (by rw [rowX_length]; exact hax)
                  rw [rowX_old a x y.d pj.d hax] at hcd
                  have hgf := HO9.out.frozen (a + x)
                  have hu : gn y.d (a + x) < 256 := HYB.out _
                  have hv : gn pj.d x < 256 := HPB.out x
                  have hst := rowX_set a x y.d pj.d hax
                  have hset := HO9.out.setNat (i := a + x) (by rw [rowX_length]; exact hax) (gn y.d (a + x) ^^^ gn pj.d x)
                  rw [hst] at hset
                  obtain ⟨u, hue⟩ : ∃ u, gn y.d (a + x) = u := ⟨_, rfl⟩
                  obtain ⟨v, hve⟩ : ∃ v, gn pj.d x = v := ⟨_, rfl⟩
                  rw [hue, hve] at hset
                  rw [hue] at hcd hu
                  rw [hve] at hcf hv
                  have HSET := hid hset
                  have hxor := Go.u8_xor_nat u v hu hv
                  clear hue hve hst hset hax
                  go_wp2_with fail
                  go_roundw
                  case rel => exact ⟨x + 1, by omega, by go_num, HSET.out, HC9.out.setOnly _ _⟩
                  case measure => simp [intOf]; omega
                · have hxe : x = nb := by omega
                  have hO9 := HO9.out
                  rw [hxe, ← HNB.out, rowX_spl (by omega) (by rw [HYN.out]; exact hbn), ← HGU.out] at hO9
                  have hC46 : Chg (Only y.b) w4 w9 := HW5.out.trans HC9.out
                  have hyb : y.b = (xs[k + j]'HKY.out).b := by rw [HYX.out]
                  have hlu : (gl U j).length = b - a := by rw [HGU.out, xl_length, cut1_length (by rw [HYN.out]; exact hbn)]
                  have hR6 : Rws w9 35 5 .u8 G (encTo k a b U xs (j + 1)) r0 := by
                    have h1 := HR4.out.upd (w' := w9) (i := k + j) HKX.out (d' := spl a b (gl U j) y.d) (by rw [← HY.out]; exact spl_length hlu (by omega) (by rw [HYN.out]; exact hbn)) (by rw [← HY.out]; exact hC46) (by rw [← HY.out]; exact hO9)
                    rw [encTo, modify_set HKX.out, ← HY.out]
                    rw [← HY.out] at h1
                    exact h1
                  have hC7 : Chg (InB xs) w10 w9 := HC4.out.trans' hC46 fun q hq e => ⟨_, List.getElem_mem HKY.out, by
                    have e : q = y.b := e
                    rw [e, hyb]⟩
                  have HR6 := hid hR6
                  have HC7 := hid hC7
                  clear hR6 hO9 hC46 hyb hlu hC7 HO9 HC9 hxe
                  go_wp2_with fail
                  go_roundw
                  case rel => exact ⟨j + 1, by omega, by go_num, HR6.out, HC7.out⟩
                  case measure => simp [intOf]; omega
            · obtain rfl : j = m := by omega
              have hCE : Chg (InB xs) w w4 := (show Chg (InB xs) w w10 from HC3.out.no).trans HC4.out
              go_wp2_with fail
              go_ret
              exact ⟨rfl, HR4.out, hCE⟩
end Go.Proofs.YtpnmmedjamkmeaaGreat
