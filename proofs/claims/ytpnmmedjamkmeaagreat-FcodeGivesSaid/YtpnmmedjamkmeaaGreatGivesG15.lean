/- What the codec gives back, row by row; the walk of directGiven. -/
import Derived.Test.YtpnmmedjamkmeaaGreatGivesG13
import Derived.Test.YtpnmmedjamkmeaaGreatGivesG6
set_option linter.unusedSimpArgs false
set_option linter.unusedVariables false
set_option linter.unusedSimpArgs false
namespace Go.Proofs.YtpnmmedjamkmeaaGreat
open Go.RowKit

theorem ex_rs_sub (a b : Nat) : gf (ex (rs ((a : Int) - (b : Int)))) = gf (ex a) * (gf (ex b)).inv := by
  have hne : gf (ex b) ≠ 0 := fun e => ex_ne_zero b (by
    have := congrArg GF.v e
    rwa [gf_v (ex_lt b)] at this)
  have h1 : ex (rs ((a : Int) - (b : Int)) + b) = ex a := by
    rw [← ex_mod65535, ← ex_mod65535 a]
    congr 1
    unfold rs
    omega
  rw [ex_add, ] at h1
  have h2 : gf (ex (rs ((a : Int) - (b : Int)))) * gf (ex b) = gf (ex a) := by
    rw [← h1]; exact (gf_mul (ex_lt _) (ex_lt _)).symm
  rw [← h2, GF.mul_assoc, GF.mul_inv hne, GF.mul_one]
/-- The factor of shard s in the lost shard i. -/
def gdf (k m : Nat) (lg : List Nat) (i s : Nat) : Nat := gdiv (ex (rs ((gn lg (plc k m s) : Int) - (gn lg (plc k m i) : Int)))) (el (plc k m i) ^^^ el (plc k m s))
theorem gdf_lt (k m : Nat) (lg : List Nat) (i s : Nat) : gdf k m lg i s < 65536 := gdiv_lt (ex_lt _) _
theorem gf_gdf (k m : Nat) (lg : List Nat) (i s : Nat) : gf (gdf k m lg i s) = gvF k m lg i s := by
  unfold gdf gdiv gvF lge
  rw [gf_mul (ex_lt _) (ginv_lt _), ex_rs_sub]
  congr 1
  apply GF.ext
  rw [gf_v (ginv_lt _), GF.v_inv, GF.v_add, gw_v, gw_v]
/-- The lost shard i after s shards. -/
def gdTo (k m n : Nat) (lg mis : List Nat) (pc : List (List Nat)) (i : Nat) : Nat → List Nat
  | 0 => List.replicate n 0
  | s + 1 => if s ∈ mis then gdTo k m n lg mis pc i s else madd (gdf k m lg i s) (gl pc s) (gdTo k m n lg mis pc i s)
@[simp] theorem gdTo_length (k m n : Nat) (lg mis : List Nat) (pc : List (List Nat)) (i s : Nat) : (gdTo k m n lg mis pc i s).length = n := by
  induction s with
  | zero => simp [gdTo]
  | succ s ih =>
    rw [gdTo]
    split
    · exact ih
    · rw [madd_length, ih]
theorem gdTo_lt (k m n : Nat) (lg mis : List Nat) (pc : List (List Nat)) (i s b : Nat) : gn (gdTo k m n lg mis pc i s) b < 256 := by
  induction s generalizing b with
  | zero =>
    by_cases h : b < n
    · simp [gdTo, gn, h]
    · simp [gdTo, gn, h]
  | succ s ih =>
    rw [gdTo]
    split
    · exact ih b
    · exact gn_madd_lt (gdf_lt _ _ _ _ _) ih b
theorem we_gdTo {k m n : Nat} {lg mis : List Nat} {pc : List (List Nat)} (hn : n % 2 = 0) (hb : ∀ i b, gn (gl pc i) b < 256) (i t : Nat) (ht : 2 * t < n) (s : Nat) :
    we (gdTo k m n lg mis pc i s) t = gvTo k m lg mis pc i t s := by
  induction s with
  | zero => exact we_zero n t
  | succ s ih =>
    rw [gdTo]
    show _ = gvTo k m lg mis pc i t s + (if s ∈ mis then 0 else gvF k m lg i s * we (gl pc s) t)
    by_cases c : s ∈ mis
    · rw [if_pos c, if_pos c, ih, GF.add_zero]
    · rw [if_neg c, if_neg c, we_madd (gdf_lt _ _ _ _ _) (hb s) (gdTo_lt k m n lg mis pc i s) (by simpa using hn) t (by simpa using ht), ih, gf_gdf]
/-- The lost shard i, as it is given back. -/
def gvB (k m n : Nat) (lg mis : List Nat) (pc : List (List Nat)) (i : Nat) : List Nat := gdTo k m n lg mis pc i (k + m)
/-- How the codec's given is called. -/
structure Gv (k m n r : Nat) (lg mis want : List Nat) (pc : List (List Nat)) : Prop where
  ris : Ris mis
  mlt : ∀ s ∈ mis, s < k + m
  mlen : mis.length ≤ 131072
  wl : want.length ≤ 131072
  wlt : ∀ i ∈ want, i < k + m
  wm : ∀ i ∈ want, i ∈ mis
  wr : Ris want
  lpc : pc.length = k + m
  ln : ∀ s, s < k + m → s ∉ mis → (gl pc s).length = n
  lb : ∀ i b, gn (gl pc i) b < 256
  lon : lonTo pc (k + m) = n
  even : n % 2 = 0
  small : n ≤ 4194304
  pos : 1 ≤ n
  ll : lg.length = 2 ^ r
  lgb : ∀ q, gn lg q < 65536
def GivPost (k m n : Nat) (lg mis want : List Nat) (pc : List (List Nat)) (w : World) (e : Ending) (w' : World) : Prop :=
  ∃ G xs, e = .returned (.slice (some ⟨G, 0, none⟩) want.length want.length) ∧ Rws w' 35 5 .u8 G xs [] ∧ xs.map Pc.d = want.map (gvB k m n lg mis pc) ∧ w.heap.size ≤ G ∧ (∀ x ∈ xs, w.heap.size ≤ x.b) ∧ Chg No w w'
theorem map_take_succ' {f : Nat → List Nat} {want : List Nat} {xs : List Pc} {j : Nat} (h : xs.map Pc.d = (want.take j).map f) (hj : j < want.length) {x : Pc} (hx : x.d = f (gn want j)) : (xs ++ [x]).map Pc.d = (want.take (j + 1)).map f := by
  rw [List.map_append, h, List.take_add_one, List.getElem?_eq_getElem hj, List.map_append, List.map_cons, List.map_nil, hx, gn_get want j hj]; rfl
theorem rs_len {xs : List Pc} {f : Nat → List Nat} {want : List Nat} {j : Nat} (h : xs.map Pc.d = (want.take j).map f) (hj : j ≤ want.length) : xs.length = j := by
  have := congrArg List.length h
  rw [List.length_map, List.length_map, List.length_take] at this
  omega

set_option maxRecDepth 40000 in
set_option maxHeartbeats 6400000 in
theorem directGiven_calls (fast : Bool) (C k m r W T K n c1' c2' c3' c4' : Nat) (p1 p2' p3 p4 : Option Addr) (lg mis want : List Nat) (pc : List (List Nat)) (w : World) (hc : Cd w fast C k m r W T K) (hg : Gv k m n r lg mis want pc)
    (h1 : Rn w .u16 p1 lg) (h2 : Rn w .i64 p2' mis) (h3 : Rn w .i64 p3 want) (h4 : Lr w .u8 p4 pc) :
    Calls Tryz.prog 64 #[.pointer (some ⟨C, 0, none⟩), .slice p1 (2 ^ r) c1', .slice p2' mis.length c2', .slice p3 want.length c3', .slice p4 (k + m) c4'] w (GivPost k m n lg mis want pc w) := by
  have HC := hid hc
  have HG := hid hg
  have H1 := hid h1
  have H2 := hid h2
  have H3 := hid h3
  have H4 := hid h4
  obtain ⟨hk1, hm1, hk2, hm2, hk3⟩ := hc.prm
  rw [Int.toNat_natCast] at hk3
  have hr := hc.hr
  have hle := le_p2 (p2 m + k)
  have hR16 : r ≤ 16 := by rw [hr]; exact mu_le16 hk3
  have hle2 : p2 m + k ≤ 2 ^ r := by rw [hr]; exact hle
  have hR2 : 2 ^ r ≤ 2 ^ 16 := Nat.pow_le_pow_right (by omega) hR16
  have HPL := hid (fun s (h : s < k + m) => plc_lt (m := m) h hle2)
  have HPI := hid (fun a b (ha : a < k + m) (hb : b < k + m) h => plc_inj (m := m) ha hb h)
  have hn4 := hg.small
  have hn1 := hg.pos
  obtain ⟨nw, hnw⟩ : ∃ nw, nw = want.length := ⟨_, rfl⟩
  obtain ⟨nm, hnm⟩ : ∃ nm, nm = mis.length := ⟨_, rfl⟩
  obtain ⟨N, hN⟩ : ∃ N, N = 2 ^ r := ⟨_, rfl⟩
  obtain ⟨tt, htt⟩ : ∃ tt, tt = k + m := ⟨_, rfl⟩
  have hnwb : nw ≤ 131072 := by rw [hnw]; exact hg.wl
  rw [← hnw, ← hnm, ← hN, ← htt]
  have HNW := hid hnw
  have HNM := hid hnm
  have HN := hid hN
  have HTT := hid htt
  have HLO := hid (fun w (h : Lr w .u8 p4 pc) => longest_calls p4 tt c4' pc w h (by rw [hg.lpc, htt]) (by omega))
  have HPC := hid (fun s (h : s < k + m) w hc => place_calls fast C k m r W T K s w hc h)
  have HBS := hid (fun s w (h : Rn w .i64 p2' mis) => Bsearch_calls p2' nm c2' s mis w h hnm.symm (by rw [hnm]; exact hg.mlen) hg.ris)
  have HMA := hid (fun b c g n cap1 cap2 p s d rest w H => MulAdd_calls b c g n cap1 cap2 p s d rest w H)
  have HEX := hid (fun b n w hT => Exp_q b n w hT)
  have HDV := hid (fun t a b ha hb h0 w hT => tDiv_q t a b ha hb h0 w hT)
  have hLON := hg.lon
  rw [← htt] at hLON
  have HLN := hid hLON
  unfold BsPost at HBS
  clear hc hg h1 h2 h3 h4 hr hle hnw hnm hN htt hLON hle2 hR2
  go_enter Tryz.func64, Tryz.ntmps64
  go_wp2_with fail
  refine (HLO.out _ H4.out).mono ?_
  rintro e w1 ⟨rfl, rfl⟩
  rw [HLN.out]
  go_wp2_with (at_make; go_must ((with_reducible refine wpList_mk1 35 (.slice none 0 0) 24 nw nw ?_ ?_ ?_ ?_ ?_ ?_ ?_ ?_); exact ⟨rfl, rfl⟩; exact Tryz.underlying22; kernel_rfl; rfl; omega; omega; (unfold maxLen; omega); intro W1 hO1 hC1 hs1))
  have hR1 : Rws W1 35 5 .u8 w1.heap.size [] (List.replicate nw (.slice none 0 0)) :=
    ⟨by simpa [Own] using hO1, fun _ h => (by cases h), by simp, fun _ h => (by cases h), fun _ h => (by cases h)⟩
  clear hO1
  obtain ⟨G, hG⟩ : ∃ G, G = w1.heap.size := ⟨_, rfl⟩
  have HGE := hid hG
  rw [← hG] at hR1 ⊢
  clear hG HLO
  go_loopw [30] (fun i wr => ∃ (j : Nat) (xs : List Pc), j ≤ nw ∧ i = .int .i64 (j : Int) ∧ Rws wr 35 5 .u8 G xs (List.replicate (nw - j) (.slice none 0 0)) ∧ xs.map Pc.d = (want.take j).map (gvB k m n lg mis pc) ∧ (∀ x ∈ xs, G ≤ x.b) ∧ Chg No w1 wr) (fun i _ => nw - (intOf i).toNat)
  case atStart => exact ⟨0, [], by omega, rfl, by simpa using hR1, by simp, fun _ h => (by cases h), hC1⟩
  case round =>
    obtain ⟨j, xs, hj, rfl, hR, hx, hxb, hCw⟩ := hrel
    clear hR1 hC1 hs1
    obtain ⟨w2, rfl⟩ : ∃ w2 : World, w2 = wr := ⟨_, rfl⟩
    have hxl := rs_len hx (by rw [← HNW.out]; exact hj)
    by_cases hlt : j < nw
    · as_aux_lemma =>
      have HX := hid hx
      have HXB := hid hxb
      have HCW := hid hCw
      obtain ⟨bw, ow, rfl, hcw⟩ := (H3.out.keptNo hCw) j (by rw [← HNW.out]; exact hlt)
      obtain ⟨i, hi⟩ : ∃ i, i = gn want j := ⟨_, rfl⟩
      rw [← hi] at hcw
      have him : i ∈ want := mem_gn.2 ⟨j, by rw [← HNW.out]; exact hlt, hi.symm⟩
      have hit := HG.out.wlt i him
      have HI := hid hi
      have HIM := hid (HG.out.wm i him)
      have HXL := hid hxl
      rw [show nw - j = nw - (j + 1) + 1 from by omega, List.replicate_succ] at hR
      have HR := hid hR
      have hgc := HR.out.out.restCell
      rw [List.length_map, hxl] at hgc
      have hlt2 : (j : Int) < (nw : Int) := by omega
      clear hR hx hxb hCw hxl hi him
      go_wp2_with (first
        | (at_make; go_must ((with_reducible refine wpList_mk1 5 (.int .u8 0) 1 n n ?_ ?_ ?_ ?_ ?_ ?_ ?_ ?_); exact ⟨rfl, rfl⟩; exact Tryz.underlying35; kernel_rfl; rfl; omega; omega; (unfold maxLen; omega); intro W3 hO3 hC3 hs3)
           have hgc3 := hC3.cell hgc id
           have hgf3 := (HR.out.keptNo hC3).out.frozen j
           have HO3 := hid hO3
           have HC3 := hid hC3
           clear hO3 hC3 hgc))
      obtain ⟨bb, hbb⟩ : ∃ bb, bb = w2.heap.size := ⟨_, rfl⟩
      obtain ⟨w4, hw4⟩ : ∃ w4, w4 = W3.setCell ⟨G, j, none⟩ (.slice (some ⟨w2.heap.size, 0, none⟩) n n) := ⟨_, rfl⟩
      rw [← hw4]
      have hGb : G < w2.heap.size := (HR.out.out).lt
      have hR4 : Rws w4 35 5 .u8 G (xs ++ [⟨bb, List.replicate n 0, []⟩]) (List.replicate (nw - (j + 1)) (.slice none 0 0)) := by
        have := (HR.out.keptNo HC3.out).put (x := ⟨w2.heap.size, List.replicate n 0, []⟩) (by rw [nv_replicate]; simpa [Own] using HO3.out)
          (fun y hy => Nat.ne_of_lt (HR.out.blk hy)) (by show w2.heap.size ≠ G; omega) (by simp; omega)
        rw [HXL.out] at this
        rw [hw4, hbb]
        simpa [Pc.v] using this
      have hC4 : Chg No w1 w4 := by
        rw [hw4]; exact (HCW.out.trans HC3.out).setCell (p := ⟨G, j, none⟩) (.inr (Nat.le_of_eq HGE.out.symm)) _
      have hwb : Hid (w1.heap.size ≤ G ∧ G < bb) := hid ⟨Nat.le_of_eq HGE.out.symm, by rw [hbb]; exact hGb⟩
      have HR4 := hid hR4
      have HC4 := hid hC4
      clear hw4 hR4 hC4 hgc3 hgf3 HO3 HC3 HR HCW hGb hs3 hcw hbb
      go_wp2_with fail
      refine (HPC.out i hit _ (HC.out.keptNo HC4.out)).mono ?_
      rintro e w5 ⟨rfl, rfl⟩
      obtain ⟨pi, hpi⟩ : ∃ pi, pi = plc k m i := ⟨_, rfl⟩
      have hpiN := HPL.out i hit
      rw [← hpi] at hpiN ⊢
      rw [← HN.out] at hpiN
      have HPIE := hid hpi
      have HR0 : Hid (Own w5 5 bb (nv .u8 (gdTo k m n lg mis pc i 0)) []) := hid (HR4.out.inn ⟨bb, List.replicate n 0, []⟩ (by simp))
      clear hpi
      go_wp2_with fail
      go_loopw [45] (fun t wr => ∃ s : Nat, s ≤ tt ∧ t = .int .i64 (s : Int) ∧ Own wr 5 bb (nv .u8 (gdTo k m n lg mis pc i s)) [] ∧ Chg (Only bb) w5 wr) (fun t _ => tt - (intOf t).toNat)
      case atStart => exact ⟨0, by omega, rfl, HR0.out, Chg.refl _ _⟩
      case round =>
        clear HR0
        obtain ⟨s, hs, rfl, hO, hCw⟩ := hrel
        obtain ⟨w6, rfl⟩ : ∃ w6 : World, w6 = wr := ⟨_, rfl⟩
        have HO := hid hO
        have HCW := hid hCw
        have hbig := hwb.out
        have hCall : Chg No w1 w6 := HC4.out.trans' hCw fun q hq e => by simp only [Only] at e; omega
        have HCA := hid hCall
        clear hO hCw hCall
        by_cases hst : s < tt
        · as_aux_lemma =>
          have hst2 : (s : Int) < (tt : Int) := by omega
          have hst3 : s < k + m := by rw [← HTT.out]; exact hst
          obtain ⟨b4, o4, q4, cc4, rfl, hd40, hr40, hl4, _⟩ := H4.out s (by rw [HG.out.lpc]; exact hst3)
          have hd4 := HCA.out.cell hd40 id
          have hr4 := hr40.keptNo HCA.out
          have HR40 := hid hr40
          clear hd40 hr40
          have HR44 := hid hr4
          have HB := hid (HBS.out s w6 (H2.out.keptNo HCA.out))
          by_cases hsm : s ∈ mis
          · as_aux_lemma =>
            have hB := HB.out
            rw [decide_eq_true hsm] at hB
            have HB2 := hid hB
            have HST : Hid (gdTo k m n lg mis pc i (s + 1) = gdTo k m n lg mis pc i s) := hid (by rw [gdTo, if_pos hsm])
            clear hB HB hsm hr4 hl4
            generalize (gl pc s).length = ln4 at *
            go_wp2_with fail
            refine HB2.out.mono ?_
            rintro e w7 ⟨a, rfl, rfl⟩
            go_wp2_with fail
            go_roundw
            case rel => exact ⟨s + 1, by omega, by go_num, by rw [HST.out]; exact HO.out, HCW.out⟩
            case measure => simp [intOf]; omega
          · as_aux_lemma =>
            have hB := HB.out
            rw [decide_eq_false hsm] at hB
            have HB2 := hid hB
            have HST : Hid (gdTo k m n lg mis pc i (s + 1) = madd (gdf k m lg i s) (gl pc s) (gdTo k m n lg mis pc i s)) := hid (by rw [gdTo, if_neg hsm])
            have hln := HG.out.ln s hst3 hsm
            rw [hln] at hd4
            have HLN4 := hid hln
            obtain ⟨ps, hps⟩ : ∃ ps, ps = plc k m s := ⟨_, rfl⟩
            have hpsN := HPL.out s hst3
            rw [← hps, ← HN.out] at hpsN
            have hcd := HC.out.keptNo HCA.out
            have hne : ps ≠ pi := fun e => hsm (by
              rw [hps, HPIE.out] at e
              rw [HPI.out s i hst3 hit e]; exact HIM.out)
            have hP := HPC.out s hst3 w6 hcd
            rw [← hps] at hP
            have HP := hid hP
            obtain ⟨bl, ol, rfl, l1⟩ := (H1.out.keptNo HCA.out) ps (by rw [HG.out.ll, ← HN.out]; exact hpsN)
            obtain ⟨bl2, ol2, he, l2⟩ := (H1.out.keptNo HCA.out) pi (by rw [HG.out.ll, ← HN.out]; exact hpiN)
            obtain ⟨rfl, rfl⟩ : bl = bl2 ∧ ol = ol2 := by simpa using he
            have e1 := hcd.ws.nat (i := ps) (by rw [← HN.out]; simp [els]; exact hpsN)
            have e2 := hcd.ws.nat (i := pi) (by rw [← HN.out]; simp [els]; exact hpiN)
            rw [gn_els _ _ (by rw [← HN.out]; exact hpsN)] at e1
            rw [gn_els _ _ (by rw [← HN.out]; exact hpiN)] at e2
            have c5 := hcd.c5
            rw [← HN.out] at c5
            have c6 := hcd.c6
            have c7 := hcd.c7
            have HTB := hid hcd.tab
            have hgf : gdf k m lg i s = gdiv (ex (rs ((gn lg ps : Int) - (gn lg pi : Int)))) (el pi ^^^ el ps) := by
              unfold gdf; rw [← hps, ← HPIE.out]
            have hps16 : ps < 65536 := by have := HN.out; have : 2 ^ r ≤ 2 ^ 16 := Nat.pow_le_pow_right (by omega) hR16; omega
            have hpi16 : pi < 65536 := by have := HN.out; have : 2 ^ r ≤ 2 ^ 16 := Nat.pow_le_pow_right (by omega) hR16; omega
            have hx0 : el pi ^^^ el ps ≠ 0 := el_ne hpi16 hps16 (fun e => hne e.symm)
            have hxl : el pi ^^^ el ps < 65536 := xor_lt16 (el_lt _) (el_lt _)
            have ex1 := Go.u16_xor_nat (el pi) (el ps) (el_lt _) (el_lt _)
            have b1 := HG.out.lgb ps
            have b2 := HG.out.lgb pi
            obtain ⟨xx, hxx⟩ : ∃ xx, xx = el pi ^^^ el ps := ⟨_, rfl⟩
            rw [← hxx] at hgf hx0 hxl ex1
            generalize el pi = ei at *
            generalize el ps = es at *
            generalize gn lg ps = la at *
            generalize gn lg pi = lb at *
            obtain ⟨dd, hdd⟩ : ∃ dd : Int, dd = (la : Int) - (lb : Int) := ⟨_, rfl⟩
            have ew : IntKind.i64.wrap ((la : Int) - (lb : Int)) = dd := by rw [hdd]; exact IntWalk.i64_in _ (by omega)
            rw [← hdd] at hgf
            have hE := fun M => HEX.out T dd (w6.drewN M) HTB.out
            have hfl := ex_lt (rs dd)
            have hD := fun M => HDV.out T (ex (rs dd)) xx hfl hxl hx0 (w6.drewN M) HTB.out
            rw [← hgf] at hD
            generalize ex (rs dd) = fe1 at *
            have hfq := gdf_lt k m lg i s
            obtain ⟨fq, hfqe⟩ : ∃ fq, fq = gdf k m lg i s := ⟨_, rfl⟩
            rw [← hfqe] at hD hfq HST
            have HE := hid hE
            have HDD := hid hD
            have hgl := HO.out.lt
            have hcg : w6.cell? ⟨G, j, none⟩ = some (.slice (some ⟨bb, 0, none⟩) n n) := by
              have h := HR4.out.cell (i := j) (by simp [HXL.out])
              have hv : ((xs ++ [(⟨bb, List.replicate n 0, []⟩ : Pc)])[j]'(by simp [HXL.out])).v = .slice (some ⟨bb, 0, none⟩) n n := by
                rw [List.getElem_append_right (by rw [HXL.out]; omega)]
                simp [Pc.v]
              rw [hv] at h
              exact HCW.out.cell h (fun e => by simp only [Only] at e; omega)
            have hqb : ∀ a, q4 = some a → a.block ≠ bb := fun a ha => by
              obtain ⟨b5, o5, e5, hc5⟩ := HR40.out 0 (by rw [HLN4.out]; omega)
              have hb5 := World.block_lt_of_cell? _ _ hc5
              rw [ha] at e5
              obtain rfl : a = ⟨b5, o5, none⟩ := by simpa using e5
              simp only at hb5 ⊢
              omega
            have HMM : Hid (∀ M, MulAddAt (w6.drewN M) K fq bb n q4 (gl pc s) (gdTo k m n lg mis pc i s) []) := hid (fun M => ⟨HG.out.even, by unfold maxLen; omega, hfq, gdTo_length _ _ _ _ _ _ _ _, HLN4.out, gdTo_lt _ _ _ _ _ _ _ _, HG.out.lb s, HO.out, HR44.out.keptNo ((Chg.refl No w6).drewN M), hqb⟩)
            have n1 : (ps : Int) < (N : Int) := by omega
            have n2 : (pi : Int) < (N : Int) := by omega
            have n3 : (0 : Int) ≤ (ps : Int) := by omega
            have n4 : (0 : Int) ≤ (pi : Int) := by omega
            have n5 : (j : Int) < (nw : Int) := hlt2
            clear hB HB hsm hr4 hl4 hln hps hcd hne hP he hgf hx0 hxl hxx hdd hE hD hfqe hqb hps16 hpi16
            go_wp2_with fail
            refine HB2.out.mono ?_
            rintro e w7 ⟨a, rfl, rfl⟩
            go_wp2_with fail
            refine HP.out.mono ?_
            rintro e w8 ⟨rfl, rfl⟩
            go_wp2_with fail
            go_quiet ((first | (go_at_call 96; with_reducible exact Calls.quiet_of (HE.out _)) | (go_at_call 95; with_reducible exact Calls.quiet_of (HDD.out _))))
            have HMM2 := hid (HMM.out nq)
            have hcg2 : (w8.drewN nq).cell? ⟨G, j, none⟩ = some (.slice (some ⟨bb, 0, none⟩) n n) := hcg
            have c72 : (w8.drewN nq).cell? ⟨C, 7, none⟩ = some (.pointer (some ⟨K, 0, none⟩)) := c7
            obtain ⟨w9, hw9⟩ : ∃ w9, w9 = w8.drewN nq := ⟨_, rfl⟩
            rw [← hw9] at HMM2 hcg2 c72 ⊢
            have HCW9 : Hid (Chg (Only bb) w5 w9) := hid (by rw [hw9]; exact HCW.out.drewN _)
            clear hw9 hcg c7
            go_wp2_with fail
            go_still_tail 10, (by kernel_rfl)
            go_wp2_with fail
            refine (HMA.out _ _ _ _ _ _ _ _ _ _ _ HMM2.out.drew).mono ?_
            rintro e w10 ⟨rfl, hO10, hC10⟩
            rw [← HST.out] at hO10
            have HO10 := hid hO10
            have HC10 := hid (HCW9.out.trans (((Chg.refl _ w9).drew).trans hC10))
            clear hO10 hC10
            go_wp2_with fail
            go_roundw
            case rel => exact ⟨s + 1, by omega, by go_num, HO10.out, HC10.out⟩
            case measure => simp [intOf]; omega
        · as_aux_lemma =>
          have hst2 : ¬ ((s : Int) < (tt : Int)) := by omega
          have hse : s = k + m := by rw [← HTT.out]; omega
          have hO6 := HO.out
          rw [hse] at hO6
          have hcb : ((xs ++ [(⟨bb, List.replicate n 0, []⟩ : Pc)])[j]'(by simp [HXL.out])) = ⟨bb, List.replicate n 0, []⟩ := by
            rw [List.getElem_append_right (by rw [HXL.out]; omega)]
            simp
          have hR7 := HR4.out.upd (w' := w6) (i := j) (by simp [HXL.out]) (d' := gvB k m n lg mis pc i) (by rw [hcb]; simp [gvB]) (by rw [hcb]; exact HCW.out) (by rw [hcb]; exact hO6)
          rw [hcb] at hR7
          have hset : (xs ++ [(⟨bb, List.replicate n 0, []⟩ : Pc)]).set j ⟨bb, gvB k m n lg mis pc i, []⟩ = xs ++ [⟨bb, gvB k m n lg mis pc i, []⟩] := by
            rw [List.set_append_right _ _ (by rw [HXL.out]; omega), HXL.out, Nat.sub_self]; rfl
          rw [hset] at hR7
          have hx7 := map_take_succ' HX.out (by rw [← HNW.out]; exact hlt) (x := ⟨bb, gvB k m n lg mis pc i, []⟩) (by rw [← HI.out])
          have hb7 : ∀ x ∈ xs ++ [(⟨bb, gvB k m n lg mis pc i, []⟩ : Pc)], G ≤ x.b := by
            intro x hx
            rcases List.mem_append.1 hx with hx | hx
            · exact HXB.out x hx
            · rw [List.mem_singleton.1 hx]; exact Nat.le_of_lt hwb.out.2
          have HR7 := hid hR7
          have HX7 := hid hx7
          have HB7 := hid hb7
          clear hse hO6 hcb hR7 hset hx7 hb7
          go_wp2_with fail
          go_roundw
          case rel => exact ⟨j + 1, _, by omega, by go_num, HR7.out, HX7.out, HB7.out, HCA.out⟩
          case measure => simp [intOf]; omega
    · as_aux_lemma =>
      obtain rfl : j = nw := by omega
      have hlt2 : ¬ ((j : Int) < (j : Int)) := by omega
      have HR := hid hR
      have HXM : Hid (xs.map Pc.d = want.map (gvB k m n lg mis pc)) := hid (by rw [hx, HNW.out, List.take_length])
      have HXB := hid hxb
      have HCW := hid hCw
      clear hR hx hxb hCw hxl
      go_wp2_with fail
      go_ret
      exact ⟨G, xs, by rw [← HNW.out]; rfl, by simpa using HR.out, HXM.out, Nat.le_of_eq HGE.out.symm, fun x m => by rw [← HGE.out]; exact HXB.out x m, HCW.out⟩
end Go.Proofs.YtpnmmedjamkmeaaGreat
