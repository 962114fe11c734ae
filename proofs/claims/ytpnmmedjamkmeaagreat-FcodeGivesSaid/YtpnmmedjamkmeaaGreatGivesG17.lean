/- The walk of fastGiven. -/
import Derived.Lib.SliceRun
import Derived.Test.YtpnmmedjamkmeaaGreatGivesG16
set_option linter.unusedSimpArgs false
set_option linter.unusedVariables false
set_option linter.unusedSimpArgs false
namespace Go.Proofs.YtpnmmedjamkmeaaGreat
open Go.RowKit

theorem zero16 (w : World) : (zeroValue 88).run Tryz.prog w = .ok (.int .u16 0) w := by kernel_rfl
theorem own_setCells {e : TypeId} {g : Nat} {rest : List Value} : ∀ (vs pre mid post : List Value) (w : World), mid.length = vs.length → Own w e g (pre ++ mid ++ post) rest → Own (w.setCells g pre.length vs) e g (pre ++ vs ++ post) rest := by
  intro vs
  induction vs with
  | nil =>
    intro pre mid post w hm h
    obtain rfl := List.eq_nil_of_length_eq_zero hm
    exact h
  | cons v vs ih =>
    intro pre mid post w hm h
    match mid, hm with
    | a :: mid, hm =>
      have h1 := h.set (i := pre.length) (by simp) v
      have e : (pre ++ (a :: mid) ++ post).set pre.length v = (pre ++ [v]) ++ mid ++ post := by
        rw [List.append_assoc, List.set_append_right _ _ (Nat.le_refl _), Nat.sub_self]; simp
      rw [e] at h1
      have h2 := ih (pre ++ [v]) mid post _ (by simpa using hm) h1
      rw [List.length_append] at h2
      have e2 : pre ++ [v] ++ vs ++ post = pre ++ (v :: vs) ++ post := by simp
      rw [e2] at h2
      exact h2
theorem chg_setCells (g : Nat) : ∀ (vs : List Value) (o : Nat) (w : World), Chg (Only g) w (w.setCells g o vs) := by
  intro vs
  induction vs with
  | nil => intro o w; exact Chg.refl _ _
  | cons v vs ih => intro o w; exact ((Chg.refl (Only g) w).setOnly o v).trans (ih (o + 1) _)
theorem own_cleared {w : World} {e : TypeId} {g h : Nat} {l : List Nat} (hO : Own w e g (nv .u16 l) []) (hl : l.length = h) : Own (w.setCells g 0 (List.replicate h (.int .u16 0))) e g (nv .u16 (rowL h (fun _ => 0))) [] := by
  have := own_setCells (e := e) (rest := []) (List.replicate h (.int .u16 0)) [] (nv .u16 l) [] w (by simp [hl]) (by simpa using hO)
  rw [rowL_zero, nv_replicate]
  simpa using this

set_option maxRecDepth 100000 in
set_option maxHeartbeats 12800000 in
theorem fastGiven_calls (fast : Bool) (C k m r W T K n c1' c2' c3' c4' : Nat) (p1 p2' p3 p4 : Option Addr) (lg mis want : List Nat) (pc : List (List Nat)) (w : World) (hc : Cd w fast C k m r W T K) (hg : Gv k m n r lg mis want pc)
    (h1 : Rn w .u16 p1 lg) (h2 : Rn w .i64 p2' mis) (h3 : Rn w .i64 p3 want) (h4 : Lr w .u8 p4 pc) :
    Calls Tryz.prog 66 #[.pointer (some ⟨C, 0, none⟩), .slice p1 (2 ^ r) c1', .slice p2' mis.length c2', .slice p3 want.length c3', .slice p4 (k + m) c4'] w (GivPost k m n lg mis want pc w) := by
  have HC := hid hc
  have HG := hid hg
  have H1 := hid h1
  have H2 := hid h2
  have H3 := hid h3
  have H4 := hid h4
  obtain ⟨hk1, hm1, hk2, hm2, hk3⟩ := hc.prm
  rw [Int.toNat_natCast] at hk3
  have hr := hc.hr
  have hle := le_p2 (p2 m + k)
  have hR16 : r ≤ 16 := by rw [hr]; exact mu_le16 hk3
  have hle2 : p2 m + k ≤ 2 ^ r := by rw [hr]; exact hle
  have hR2 : 2 ^ r ≤ 2 ^ 16 := Nat.pow_le_pow_right (by omega) hR16
  have HPL := hid (fun s (h : s < k + m) => plc_lt (m := m) h hle2)
  have HPI := hid (fun a b (ha : a < k + m) (hb : b < k + m) h => plc_inj (m := m) ha hb h)
  have HFW := hid (fun t i (a : i ∈ mis) (b : i < k + m) => fast_word (lg := lg) (pc := pc) (t := t) (R := r) hR16 (fun s h => plc_lt (m := m) h hle2) a b)
  have hn4 := hg.small
  have hn1 := hg.pos
  obtain ⟨nw, hnw⟩ : ∃ nw, nw = want.length := ⟨_, rfl⟩
  obtain ⟨nm, hnm⟩ : ∃ nm, nm = mis.length := ⟨_, rfl⟩
  obtain ⟨N, hN⟩ : ∃ N, N = 2 ^ r := ⟨_, rfl⟩
  obtain ⟨tt, htt⟩ : ∃ tt, tt = k + m := ⟨_, rfl⟩
  obtain ⟨h, hh⟩ : ∃ h, n = 2 * h := ⟨n / 2, by have := hg.even; omega⟩
  have hN16 : N ≤ 65536 := by omega
  have hN1 : 1 ≤ N := by rw [hN]; exact Nat.one_le_two_pow
  have EH : (n : Int) / 2 = (h : Int) := by omega
  have hnwb : nw ≤ 131072 := by rw [hnw]; exact hg.wl
  rw [← hnw, ← hnm, ← hN, ← htt]
  have HNW := hid hnw
  have HNM := hid hnm
  have HN := hid hN
  have HTT := hid htt
  have HH := hid hh
  have HLO := hid (fun w (h : Lr w .u8 p4 pc) => longest_calls p4 tt c4' pc w h (by rw [hg.lpc, htt]) (by omega))
  have HPC := hid (fun s (h : s < k + m) w hc => place_calls fast C k m r W T K s w hc h)
  have HBS := hid (fun s w (h : Rn w .i64 p2' mis) => Bsearch_calls p2' nm c2' s mis w h hnm.symm (by rw [hnm]; exact hg.mlen) hg.ris)
  have HEX := hid (fun n w hT => Exp_q T n w hT)
  have HMU := hid (fun x y w hT hx hy => Mul_q T x y w hT hx hy)
  have HRW := hid (fun w => rows_calls N h w (by omega) (by omega))
  have HIR := hid (fun G cp bs rs F r0 w H => InverseRows_calls G N h r 0 cp bs rs F r0 w H hN hR16 (Nat.zero_mod _) (by omega))
  have HFR := hid (fun G cp bs rs F r0 w H => ForwardRows_calls G N h r 0 cp bs rs F r0 w H hN hR16 (Nat.zero_mod _) (by omega))
  have HBY := hid (fun p c f w H => Bytes16_calls p h c f w H (by omega))
  have hLON := hg.lon
  rw [← htt] at hLON
  have HLN := hid hLON
  unfold BsPost at HBS
  unfold RowsMade at HRW
  unfold RowsPost at HIR HFR
  unfold MadeRow at HBY
  have c3 := hc.c3
  rw [← hN] at c3
  clear hc hg h1 h2 h3 h4 hr hle hnw hnm hN htt hLON hle2 hR2 hh
  go_enter Tryz.func66, Tryz.ntmps66
  go_wp2_with fail
  refine (HLO.out _ H4.out).mono ?_
  rintro e w1 ⟨rfl, rfl⟩
  rw [HLN.out]
  go_wp2_with fail
  refine (HRW.out _).mono ?_
  rintro e w2 ⟨G, bs, rfl, hM, hG, hbs, hC2⟩
  have HGE : Hid (w1.heap.size ≤ G) := hid hG
  have HBSE := hid hbs
  have HM0 := hid hM
  have HC2 := hid hC2
  clear hM hG hbs hC2 HRW HLO c3
  go_wp2_with fail
  go_loopw [46] (fun i wr => ∃ s : Nat, s ≤ tt ∧ i = .int .i64 (s : Int) ∧ Mx wr G N h bs (fun _ => []) (fun t q => uTo k m lg mis pc s t q) [] ∧ Chg No w1 wr) (fun i _ => tt - (intOf i).toNat)
  case atStart => exact ⟨0, by omega, rfl, HM0.out, HC2.out⟩
  case round =>
    clear HM0 HC2
    obtain ⟨s, hs, rfl, hM, hCw⟩ := hrel
    obtain ⟨w6, rfl⟩ : ∃ w6 : World, w6 = wr := ⟨_, rfl⟩
    have HM := hid hM
    have HCA := hid hCw
    clear hM hCw
    by_cases hst : s < tt
    · as_aux_lemma =>
      have hst2 : (s : Int) < (tt : Int) := by omega
      have hst3 : s < k + m := by rw [← HTT.out]; exact hst
      obtain ⟨b4, o4, q4, cc4, rfl, hd40, hr40, hl4, _⟩ := H4.out s (by rw [HG.out.lpc]; exact hst3)
      have hd4 := HCA.out.cell hd40 id
      have hr4 := hr40.keptNo HCA.out
      have HR44 := hid hr4
      have HB := hid (HBS.out s w6 (H2.out.keptNo HCA.out))
      clear hd40 hr40 hr4
      by_cases hsm : s ∈ mis
      · as_aux_lemma =>
        have hB := HB.out
        rw [decide_eq_true hsm] at hB
        have HB2 := hid hB
        have HM2 : Hid (Mx w6 G N h bs (fun _ => []) (fun t q => uTo k m lg mis pc (s + 1) t q) []) := hid (HM.out.congr fun t q _ _ => by rw [uTo, if_neg (fun h => h.1 hsm)])
        clear hB HB hsm hl4
        generalize (gl pc s).length = ln4 at *
        go_wp2_with fail
        refine HB2.out.mono ?_
        rintro e w7 ⟨a, rfl, rfl⟩
        go_wp2_with fail
        go_roundw
        case rel => exact ⟨s + 1, by omega, by go_num, HM2.out, HCA.out⟩
        case measure => simp [intOf]; omega
      · as_aux_lemma =>
        have hB := HB.out
        rw [decide_eq_false hsm] at hB
        have HB2 := hid hB
        have hln := HG.out.ln s hst3 hsm
        rw [hln] at hd4
        have HLN4 := hid hln
        obtain ⟨ps, hps⟩ : ∃ ps, ps = plc k m s := ⟨_, rfl⟩
        have hpsN := HPL.out s hst3
        rw [← hps, ← HN.out] at hpsN
        have hcd := HC.out.keptNo HCA.out
        have hP := HPC.out s hst3 w6 hcd
        rw [← hps] at hP
        have HP := hid hP
        obtain ⟨bl, ol, rfl, l1⟩ := (H1.out.keptNo HCA.out) ps (by rw [HG.out.ll, ← HN.out]; exact hpsN)
        have c6 := hcd.c6
        have HTB := hid hcd.tab
        have HST : Hid (∀ t q, uTo k m lg mis pc (s + 1) t q = if q = ps then lge lg ps * we (gl pc s) t else uTo k m lg mis pc s t q) := hid (fun t q => by
          rw [uTo]
          by_cases e : q = ps
          · subst e; rw [if_pos ⟨hsm, hps.symm⟩, if_pos rfl]
          · rw [if_neg e, if_neg (fun h => e (by rw [hps]; exact h.2.symm))])
        have hlge : gf (ex (rs (gn lg ps : Int))) = lge lg ps := by rw [ex_rs_nat]; rfl
        have b1 := HG.out.lgb ps
        generalize gn lg ps = la at *
        have hE := fun M => HEX.out (la : Int) (w6.drewN M) HTB.out
        have hfl := ex_lt (rs (la : Int))
        generalize ex (rs (la : Int)) = f1 at *
        have HE := hid hE
        have HFL := hid hfl
        have HLGE := hid hlge
        have n1 : (ps : Int) < (N : Int) := by omega
        have n3 : (0 : Int) ≤ (ps : Int) := by omega
        have HCD := hid hcd
        clear hB HB hsm hl4 hln hps hcd hP hE hlge
        go_wp2_with fail
        refine HB2.out.mono ?_
        rintro e w7 ⟨a, rfl, rfl⟩
        go_wp2_with fail
        refine HP.out.mono ?_
        rintro e w8 ⟨rfl, rfl⟩
        go_wp2_with fail
        go_quiet ((go_at_call 96; with_reducible exact Calls.quiet_of (HE.out _)))
        obtain ⟨w9, hw9⟩ : ∃ w9, w9 = w8.drewN nq := ⟨_, rfl⟩
        rw [← hw9]
        have hC9 : Chg No w8 w9 := by rw [hw9]; exact (Chg.refl _ _).drewN _
        have hWD := Words16_calls q4 h n cc4 (gl pc s) w9 (HR44.out.keptNo hC9) HLN4.out HH.out (HG.out.lb s) (by omega)
        unfold MadeRow at hWD
        have HWD := hid hWD
        have HC9 := hid hC9
        clear hw9 hC9 hWD c6 l1 hd4
        go_wp2_with fail
        refine HWD.out.mono ?_
        rintro e w10 ⟨gx, rfl, hO10, hg10, hC10⟩
        have HO10 := hid hO10
        have hC10a := HC9.out.trans hC10
        have HM10 := hid (HM.out.keptNo hC10a)
        have HCA10 := hid (HCA.out.trans hC10a)
        have HCD10 := hid (HCD.out.keptNo hC10a)
        have hgx : bs ps < gx := by have := HM.out.lt hpsN; have := HC9.out.size; omega
        have hbG := HM.out.neG hpsN
        have hCb : C ≠ bs ps := by have := HC.out.own.lt; have := HBSE.out ps hpsN; omega
        have hTb : ¬ Only (bs ps) T := fun e => by
          have e : T = bs ps := e
          have h1 := TabAt.lt HC.out.tab
          have := HBSE.out ps hpsN
          omega
        clear hO10 hg10 hC10 hC10a HWD HC9 HM HCA HCD HE HB2 HP
        go_wp2_with fail
        go_loopw [78] (fun i wr => ∃ x : Nat, x ≤ h ∧ i = .int .i64 (x : Int) ∧ Own wr 88 (bs ps) (nv .u16 (rowL h (mixF (fun t => lge lg ps * we (gl pc s) t) (fun t => uTo k m lg mis pc s t ps) x))) [] ∧ Chg (Only (bs ps)) w10 wr) (fun i _ => h - (intOf i).toNat)
        case atStart => exact ⟨0, by omega, rfl, by rw [mixF_zero]; exact HM10.out.row hpsN, Chg.refl _ _⟩
        case round =>
          obtain ⟨x, hx, rfl, hO, hCi⟩ := hrel
          obtain ⟨w11, rfl⟩ : ∃ w11 : World, w11 = wr := ⟨_, rfl⟩
          have HO := hid hO
          have HCI := hid hCi
          by_cases hxh : x < h
          · as_aux_lemma =>
            have f1c := hCi.cell (HM10.out.cell hpsN) (fun e => hbG e.symm)
            have f2c := hCi.cell HCD10.out.c6 hCb
            have f3c := (HO10.out.kept hCi (fun e => by simp only [Only] at e; omega)).nat (i := x) (by simpa using hxh)
            rw [gn_rowL' _ _ _ hxh] at f3c
            simp only [List.length_nil, Nat.add_zero] at f1c
            have oldc := hO.nat (i := x) (by simpa using hxh)
            have oldf := hO.frozen x
            generalize gn (rowL h (mixF (fun t => lge lg ps * we (gl pc s) t) (fun t => uTo k m lg mis pc s t ps) x)) x = old at oldc
            have hset := mixF_set (fun t => lge lg ps * we (gl pc s) t) (fun t => uTo k m lg mis pc s t ps) h x hxh
            have hmv : tmul f1 (we (gl pc s) x).v = (lge lg ps * we (gl pc s) x).v := by
              rw [tmul_eq HFL.out (GF.v_lt _), ← HLGE.out, GF.v_mul, gf_v HFL.out]
            rw [← hmv] at hset
            have hyl := GF.v_lt (we (gl pc s) x)
            have hMu := fun M => HMU.out f1 (we (gl pc s) x).v (w11.drewN M) (TabAt.kept HCD10.out.tab (hCi.drewN M) hTb) HFL.out hyl
            generalize (we (gl pc s) x).v = y at *
            have HMM := hid hMu
            have HSET := hid hset
            have n5 : (x : Int) < (h : Int) := by omega
            clear hO hCi hset hmv hMu
            go_wp2_with fail
            go_region_held3 (fun w' => w'.cell? ⟨G, ps, none⟩ = some (.slice (some ⟨bs ps, 0, none⟩) h h) ∧ w'.cell? ⟨C, 6, none⟩ = some (.pointer (some ⟨T, 0, none⟩)))
              (first | exact ⟨f1c, f2c⟩ | exact ⟨(((Chg.refl (Only (bs ps)) w11).drewN _).setOnly x _).cell f1c (fun e => hbG e.symm), (((Chg.refl (Only (bs ps)) w11).drewN _).setOnly x _).cell f2c hCb⟩ | go_keep)
              (first | (go_at_call 102; refine (HMM.out 1).mono ?_; rintro e w12 ⟨rfl, M, rfl⟩))
            go_wp2_with fail
            go_roundw
            case rel => exact ⟨x + 1, by omega, by go_num, by rw [← HSET.out]; exact (HO.out.drewN _).setNat (by simpa using hxh) _, (HCI.out.drewN _).setOnly _ _⟩
            case measure => simp [intOf]; omega
          · as_aux_lemma =>
            have hxe : x = h := by omega
            have hO2 := HO.out
            rw [hxe, mixF_full] at hO2
            have HM2 : Hid (Mx w11 G N h bs (fun _ => []) (fun t q => uTo k m lg mis pc (s + 1) t q) []) := hid ((HM10.out.one hpsN HCI.out hO2).congr fun t q _ _ => (HST.out t q).symm)
            have HCA2 : Hid (Chg No w1 w11) := hid (HCA10.out.trans' HCI.out fun q hq e => by
              have e : q = bs ps := e
              have := HBSE.out ps hpsN; omega)
            have n5 : ¬ ((x : Int) < (h : Int)) := by omega
            clear hO hCi hO2 hxe
            go_wp2_with fail
            go_roundw
            case rel => exact ⟨s + 1, by omega, by go_num, HM2.out, HCA2.out⟩
            case measure => simp [intOf]; omega
    · as_aux_lemma =>
      have hst2 : ¬ ((s : Int) < (tt : Int)) := by omega
      have hse : s = k + m := by rw [← HTT.out]; omega
      have hM := HM.out
      rw [hse] at hM
      have HMA := hid hM
      clear hM hse HM
      go_wp2_with fail
      refine (HIR.out _ _ _ _ _ _ _ HMA.out).mono ?_
      rintro e w7 ⟨rfl, hM7, hC7⟩
      have hCA7 : Chg No w1 w7 := HCA.out.trans' hC7 fun q hq ⟨i, hi, e⟩ => by have := HBSE.out i hi; omega
      have HM7 := hid hM7
      have HCA7 := hid hCA7
      clear hM7 hC7 hCA7 HIR HMA HCA
      obtain ⟨Gf, hGf⟩ : ∃ Gf : Nat → Nat → GF, Gf = fun t => IT 0 r (fun q => uTo k m lg mis pc (k + m) t q) := ⟨_, rfl⟩
      have HGF := hid hGf
      have HM7 : Hid (Mx w7 G N h bs (fun _ => []) Gf []) := hid (by rw [hGf]; exact HM7.out)
      clear hGf
      go_wp2_with fail
      go_loopw [102] (fun i wr => ∃ j : Nat, j ≤ N ∧ i = .int .i64 (j : Int) ∧ Mx wr G N h bs (fun _ => []) (fun t q => if q < j then Der r (Gf t) q else Gf t q) [] ∧ Chg No w1 wr) (fun i _ => N - (intOf i).toNat)
      case atStart => exact ⟨0, by omega, rfl, HM7.out.congr (fun t q _ _ => by rw [if_neg (by omega)]), HCA7.out⟩
      case round =>
        clear HM7 HCA7
        obtain ⟨j, hj, rfl, hM, hCw⟩ := hrel
        obtain ⟨w8, rfl⟩ : ∃ w8 : World, w8 = wr := ⟨_, rfl⟩
        have HM := hid hM
        have HCA := hid hCw
        clear hM hCw
        by_cases hjN : j < N
        · as_aux_lemma =>
          have hjN2 : (j : Int) < (N : Int) := by omega
          have g1 := HM.out.cell hjN
          simp only [List.length_nil, Nat.add_zero] at g1
          have hro := HM.out.row hjN
          have hh1 : 0 < h := by have := HH.out; omega
          have hcl : ∀ ty, (Builtin.clear_ #[58] ty #[.slice (some ⟨bs j, 0, none⟩) h h]).run Tryz.prog w8 = .ok (.tuple #[]) (w8.setCells (bs j) 0 (List.replicate h (.int .u16 0))) :=
            fun ty => Lib.run_clear_slice w8 58 88 ty (.int .u16 0) Tryz.underlying58 zero16 rfl rfl (bs j) 0 h h hh1 (fun q hq => by
              rw [Nat.zero_add]
              rw [hro.nat (i := q) (by simpa using hq)]; rfl) (fun q hq => by rw [Nat.zero_add]; exact hro.frozen q)
          have hO9 := own_cleared hro (rowL_length _ _)
          have hC9 := chg_setCells (bs j) (List.replicate h (.int .u16 0)) 0 w8
          obtain ⟨w9, hw9⟩ : ∃ w9, w9 = w8.setCells (bs j) 0 (List.replicate h (.int .u16 0)) := ⟨_, rfl⟩
          rw [← hw9] at hO9 hC9 hcl
          have hbG := HM.out.neG hjN
          have hCb : ¬ Only (bs j) C := fun e => by
            have e : C = bs j := e
            have := HC.out.own.lt; have := HBSE.out j hjN; omega
          have HO9 : Hid (Own w9 88 (bs j) (nv .u16 (rowL h (fun t => dTo (Gf t) j 0))) []) := hid hO9
          have HC9 := hid hC9
          clear hw9 hO9 hC9 hro
          go_wp2_with (simp only [hcl])
          clear hcl g1
          go_loopw [25] (fun i wr => ∃ b : Nat, b ≤ r ∧ i = .int .i64 ((2 ^ b : Nat) : Int) ∧ Own wr 88 (bs j) (nv .u16 (rowL h (fun t => dTo (Gf t) j b))) [] ∧ Chg (Only (bs j)) w8 wr) (fun i _ => N - (intOf i).toNat)
          case atStart => exact ⟨0, by omega, rfl, HO9.out, HC9.out⟩
          case round =>
            clear HO9 HC9
            obtain ⟨b, hb, rfl, hO, hCi⟩ := hrel
            obtain ⟨w10, rfl⟩ : ∃ w10 : World, w10 = wr := ⟨_, rfl⟩
            have HO := hid hO
            have HCI := hid hCi
            have hC10 : Chg No w1 w10 := HCA.out.trans' hCi fun q hq e => by
              have e : q = bs j := e
              have := HBSE.out j hjN; omega
            have HC10 := hid hC10
            have c3 := (HC.out.keptNo hC10).c3
            rw [← HN.out] at c3
            clear hO hCi hC10
            by_cases hbr : b < r
            · as_aux_lemma =>
              have hd1 : 2 ^ b < N := by rw [HN.out]; exact pow_lt hbr
              have HSU := hid (Nat.pow_succ 2 b)
              have HDS := hid (fun t => dTo_succ (Gf t) j b)
              have hab := and_bit j b
              have hal := fun h : j.testBit b = false => add_bit_lt hbr (HN.out ▸ hjN : j < 2 ^ r) h
              rw [← HN.out] at hal
              obtain ⟨d, hd⟩ : ∃ d, d = 2 ^ b := ⟨_, rfl⟩
              rw [← hd] at HSU hab hal hd1 ⊢
              have ea := i64_and_nat j d (by omega) (by omega)
              have hd2 : (d : Int) < (N : Int) := by omega
              have hd3 : (0 : Int) ≤ (d : Int) := by omega
              have hd4 : (d : Int) ≤ 65536 := by omega
              have hd5 : decide (d < N) = true := by simp; omega
              have hd0 : 1 ≤ d := by rw [hd]; exact Nat.one_le_two_pow
              have HD := hid hd
              by_cases hbit : j.testBit b = true
              · as_aux_lemma =>
                have hne : j &&& d ≠ 0 := fun e => by rw [hab.1 e] at hbit; cases hbit
                have hz : (((j &&& d : Nat) : Int) == 0) = false := by simp; omega
                have HO2 : Hid (Own w10 88 (bs j) (nv .u16 (rowL h (fun t => dTo (Gf t) j (b + 1)))) []) := hid (by
                  have e : rowL h (fun t => dTo (Gf t) j (b + 1)) = rowL h (fun t => dTo (Gf t) j b) := rowL_congr fun t _ => by rw [HDS.out, if_pos hbit, GF.add_zero]
                  rw [e]; exact HO.out)
                generalize j &&& d = jd at *
                clear hab hal hne hd hbit
                go_wp2_with fail
                go_roundw
                case rel => exact ⟨b + 1, by omega, by rw [HSU.out]; go_num, HO2.out, HCI.out⟩
                case measure => simp [intOf]; omega
              · as_aux_lemma =>
                have hbf : j.testBit b = false := by simpa using hbit
                have hz0 := hab.2 hbf
                rw [hz0] at ea
                have hjd := hal hbf
                obtain ⟨q, hq⟩ : ∃ q, q = j + d := ⟨_, rfl⟩
                rw [← hq] at hjd
                have eq1 : (j : Int) + (d : Int) = (q : Int) := by omega
                have hq2 : (q : Int) < (N : Int) := by omega
                have hq3 : decide (q < N) = true := by simp; omega
                have hqj : j ≠ q := by omega
                have g2 := HCI.out.cell (HM.out.cell hjd) (fun e => hbG (Eq.symm e))
                simp only [List.length_nil, Nat.add_zero] at g2
                have HQR : Hid (Own w8 88 (bs q) (nv .u16 (rowL h (fun t => Gf t q))) []) := hid (by
                  have := HM.out.row hjd
                  have e : rowL h (fun t => if q < j then Der r (Gf t) q else Gf t q) = rowL h (fun t => Gf t q) := rowL_congr fun t _ => if_neg (by omega)
                  rwa [e] at this)
                have hbq : ¬ Only (bs j) (bs q) := fun e => HM.out.ne hjd hjN (fun e => hqj e.symm) e
                have HDS2 : Hid (∀ t, dTo (Gf t) j (b + 1) = dTo (Gf t) j b + Gf t q) := hid (fun t => by rw [HDS.out, if_neg hbit, ← HD.out, hq])
                clear hab hal hd hbit hz0 hq
                go_wp2_with fail
                go_loopw [137] (fun i wr => ∃ x : Nat, x ≤ h ∧ i = .int .i64 (x : Int) ∧ Own wr 88 (bs j) (nv .u16 (rowL h (mixF (fun t => dTo (Gf t) j (b + 1)) (fun t => dTo (Gf t) j b) x))) [] ∧ Chg (Only (bs j)) w8 wr) (fun i _ => h - (intOf i).toNat)
                case atStart => exact ⟨0, by omega, rfl, by rw [mixF_zero]; exact HO.out, HCI.out⟩
                case round =>
                  obtain ⟨x, hx, rfl, hO, hCi⟩ := hrel
                  obtain ⟨w11, rfl⟩ : ∃ w11 : World, w11 = wr := ⟨_, rfl⟩
                  have HO11 := hid hO
                  have HC11 := hid hCi
                  by_cases hxh : x < h
                  · as_aux_lemma =>
                    have f3c := (HQR.out.kept hCi hbq).nat (i := x) (by simpa using hxh)
                    rw [gn_rowL' _ _ _ hxh] at f3c
                    have oldc := hO.nat (i := x) (by simpa using hxh)
                    have oldf := hO.frozen x
                    rw [gn_rowL' _ _ _ hxh] at oldc
                    have hmx : mixF (fun t => dTo (Gf t) j (b + 1)) (fun t => dTo (Gf t) j b) x x = dTo (Gf x) j b := if_neg (by omega)
                    rw [hmx] at oldc
                    have hset := mixF_set (fun t => dTo (Gf t) j (b + 1)) (fun t => dTo (Gf t) j b) h x hxh
                    have hmv : (dTo (Gf x) j (b + 1)).v = (dTo (Gf x) j b).v ^^^ (Gf x q).v := by rw [HDS2.out, GF.v_add]
                    have ex1 := Go.u16_xor_nat (dTo (Gf x) j b).v (Gf x q).v (GF.v_lt _) (GF.v_lt _)
                    rw [← hmv] at ex1
                    have HSET : Hid ((rowL h (mixF (fun t => dTo (Gf t) j (b + 1)) (fun t => dTo (Gf t) j b) x)).set x (dTo (Gf x) j (b + 1)).v = rowL h (mixF (fun t => dTo (Gf t) j (b + 1)) (fun t => dTo (Gf t) j b) (x + 1))) := hid hset
                    generalize (dTo (Gf x) j (b + 1)).v = nw at *
                    generalize (dTo (Gf x) j b).v = od at *
                    generalize (Gf x q).v = y at *
                    have n5 : (x : Int) < (h : Int) := by omega
                    clear hO hCi hset hmv hmx
                    go_wp2_with fail
                    go_roundw
                    case rel => exact ⟨x + 1, by omega, by go_num, by rw [← HSET.out]; exact HO11.out.setNat (by simpa using hxh) _, HC11.out.setOnly _ _⟩
                    case measure => simp [intOf]; omega
                  · as_aux_lemma =>
                    have hxe : x = h := by omega
                    rw [hxe, mixF_full] at hO
                    have HO2 := hid hO
                    have n5 : ¬ ((x : Int) < (h : Int)) := by omega
                    clear hO hCi hxe
                    go_wp2_with fail
                    go_roundw
                    case rel => exact ⟨b + 1, by omega, by rw [HSU.out]; go_num, HO2.out, HC11.out⟩
                    case measure => simp [intOf]; omega
            · as_aux_lemma =>
              have hbe : b = r := by omega
              rw [hbe, ← HN.out]
              have hO10 := HO.out
              rw [hbe] at hO10
              have HM2 : Hid (Mx w10 G N h bs (fun _ => []) (fun t q => if q < j + 1 then Der r (Gf t) q else Gf t q) []) := hid ((HM.out.one hjN HCI.out hO10).congr fun t q _ _ => by
                by_cases e : q = j
                · subst e; rw [if_pos rfl, if_pos (by omega)]; exact dTo_full _ _ _
                · rw [if_neg e]
                  by_cases c : q < j
                  · rw [if_pos c, if_pos (by omega)]
                  · rw [if_neg c, if_neg (by omega)])
              have hd5 : decide (N < N) = false := by simp
              clear hbe hO10
              go_wp2_with fail
              go_roundw
              case rel => exact ⟨j + 1, by omega, by go_num, HM2.out, HC10.out⟩
              case measure => simp [intOf]; omega
        · as_aux_lemma =>
          have hjN2 : ¬ ((j : Int) < (N : Int)) := by omega
          have hje : j = N := by omega
          have hM8 : Mx w8 G N h bs (fun _ => []) (fun t q => Der r (Gf t) q) [] := HM.out.congr fun t q _ hq => if_pos (by omega)
          have HM8 := hid hM8
          have HCA8 := hid HCA.out
          clear hje hM8 HM HCA
          go_wp2_with fail
          refine (HFR.out _ _ _ _ _ _ _ HM8.out).mono ?_
          rintro e w9 ⟨rfl, hM9, hC9⟩
          have hCA9 : Chg No w1 w9 := HCA8.out.trans' hC9 fun q hq ⟨i, hi, e⟩ => by have := HBSE.out i hi; omega
          obtain ⟨Vf, hVf⟩ : ∃ Vf : Nat → Nat → GF, Vf = fun t => FT 0 r (fun q => Der r (Gf t) q) := ⟨_, rfl⟩
          have HM9 : Hid (Mx w9 G N h bs (fun _ => []) Vf []) := hid (by rw [hVf]; exact hM9)
          have HVF : Hid (∀ t i, i ∈ mis → i < k + m → (lge lg (plc k m i)).inv * Vf t (plc k m i) = gvW k m lg mis pc i t) := hid (fun t i a b => by
            rw [hVf, HGF.out]; exact HFW.out t i a b)
          have HCA9 := hid hCA9
          clear hM9 hC9 hCA9 hVf HFR HM8 HCA8
          go_wp2_with (at_make; go_must ((with_reducible refine wpList_mk1 35 (.slice none 0 0) 24 nw nw ?_ ?_ ?_ ?_ ?_ ?_ ?_ ?_); exact ⟨rfl, rfl⟩; exact Tryz.underlying22; kernel_rfl; rfl; omega; omega; (unfold maxLen; omega); intro W1 hO1 hC1 hs1))
          have hR1 : Rws W1 35 5 .u8 w9.heap.size [] (List.replicate nw (.slice none 0 0)) :=
            ⟨by simpa [Own] using hO1, fun _ h => (by cases h), by simp, fun _ h => (by cases h), fun _ h => (by cases h)⟩
          obtain ⟨G2, hG2⟩ : ∃ G2, G2 = w9.heap.size := ⟨_, rfl⟩
          have HR1 : Hid (Rws W1 35 5 .u8 G2 [] (List.replicate nw (.slice none 0 0))) := hid (by rw [hG2]; exact hR1)
          have HM1 := hid (HM9.out.keptNo hC1)
          have HG2 : Hid ((∀ q, q < N → bs q < G2) ∧ G < G2 ∧ w1.heap.size ≤ G2 ∧ C < w1.heap.size ∧ T < w1.heap.size) := hid ⟨fun q hq => by rw [hG2]; exact HM9.out.lt hq, by rw [hG2]; exact (Rws.out HM9.out).lt, by rw [hG2]; exact HCA9.out.size, HC.out.own.lt, TabAt.lt HC.out.tab⟩
          have HCA1 := hid (HCA9.out.trans hC1)
          rw [← hG2]
          clear hO1 hC1 hs1 hR1 hG2 HM9 HCA9
          go_loopw [158] (fun i wr => ∃ (a : Nat) (xs : List Pc) (F : Nat → Nat → GF), a ≤ nw ∧ i = .int .i64 (a : Int) ∧ Rws wr 35 5 .u8 G2 xs (List.replicate (nw - a) (.slice none 0 0)) ∧ xs.map Pc.d = (want.take a).map (gvB k m n lg mis pc) ∧ (∀ x ∈ xs, G2 ≤ x.b) ∧ Mx wr G N h bs (fun _ => []) F [] ∧ (∀ q, (∀ z, z < a → plc k m (gn want z) ≠ q) → ∀ t, F t q = Vf t q) ∧ Chg No w1 wr) (fun i _ => nw - (intOf i).toNat)
          case atStart => exact ⟨0, [], Vf, by omega, rfl, by simpa using HR1.out, by simp, fun _ h => (by cases h), HM1.out, fun _ _ _ => rfl, HCA1.out⟩
          case round =>
            clear HR1 HM1 HCA1
            obtain ⟨a, xs, F, ha, rfl, hR, hx, hxb, hM, hF, hCw⟩ := hrel
            obtain ⟨w10, rfl⟩ : ∃ w10 : World, w10 = wr := ⟨_, rfl⟩
            have hxl := rs_len hx (by rw [← HNW.out]; exact ha)
            have HX := hid hx
            have HXB := hid hxb
            have HXL := hid hxl
            have HM := hid hM
            have HF := hid hF
            have HCW := hid hCw
            have HRR := hid hR
            clear hR hx hxb hxl hM hF hCw
            by_cases hanw : a < nw
            · as_aux_lemma =>
              obtain ⟨bw, ow, rfl, hcw⟩ := (H3.out.keptNo HCW.out) a (by rw [← HNW.out]; exact hanw)
              obtain ⟨i, hi⟩ : ∃ i, i = gn want a := ⟨_, rfl⟩
              rw [← hi] at hcw
              have him : i ∈ want := mem_gn.2 ⟨a, by rw [← HNW.out]; exact hanw, hi.symm⟩
              have hit := HG.out.wlt i him
              have HI := hid hi
              have HIM := hid (HG.out.wm i him)
              have hanw2 : (a : Int) < (nw : Int) := by omega
              obtain ⟨ps, hps⟩ : ∃ ps, ps = plc k m i := ⟨_, rfl⟩
              have hpsN := HPL.out i hit
              rw [← hps, ← HN.out] at hpsN
              have hcd := HC.out.keptNo HCW.out
              have hP := HPC.out i hit w10 hcd
              rw [← hps] at hP
              have HP := hid hP
              have HPS := hid hps
              have HFP : Hid (∀ t, F t ps = Vf t ps) := hid (HF.out ps fun z hz e => by
                have hzi : gn want z ∈ want := mem_gn.2 ⟨z, by have := HNW.out; omega, rfl⟩
                rw [hps] at e
                have := HPI.out _ _ (HG.out.wlt _ hzi) hit e
                have h2 := HG.out.wr z a hz (by rw [← HNW.out]; exact hanw)
                rw [← hi] at h2
                omega)
              obtain ⟨bl, ol, rfl, l1⟩ := (H1.out.keptNo HCW.out) ps (by rw [HG.out.ll, ← HN.out]; exact hpsN)
              have c6 := hcd.c6
              have HTB := hid hcd.tab
              have hlge : gf (ex (rs (-(gn lg ps : Int)))) = (lge lg ps).inv := by rw [ex_rs_neg]; rfl
              have b1 := HG.out.lgb ps
              generalize gn lg ps = la at *
              obtain ⟨nla, hnla⟩ : ∃ nla : Int, nla = -(la : Int) := ⟨_, rfl⟩
              have ew : IntKind.i64.wrap (-(la : Int)) = nla := by rw [hnla]; exact IntWalk.i64_in _ (by omega)
              have ew2 : -(la : Int) = nla := hnla.symm
              rw [← hnla] at hlge
              have hE := fun M => HEX.out nla (w10.drewN M) HTB.out
              have hfl := ex_lt (rs nla)
              generalize ex (rs nla) = f1 at *
              have HE := hid hE
              have HFL := hid hfl
              have HLGE := hid hlge
              have n1 : (ps : Int) < (N : Int) := by omega
              have n3 : (0 : Int) ≤ (ps : Int) := by omega
              have n4 : (a : Int) < (nw : Int) := hanw2
              have HCD := hid hcd
              have hR := HRR.out
              rw [show nw - a = nw - (a + 1) + 1 from by omega, List.replicate_succ] at hR
              have HR := hid hR
              have g1 := HM.out.cell hpsN
              simp only [List.length_nil, Nat.add_zero] at g1
              have HF2 := HF
              clear hi him hps hcd hP hE hlge hnla hR HRR HF
              go_wp2_with fail
              refine HP.out.mono ?_
              rintro e w11 ⟨rfl, rfl⟩
              go_wp2_with fail
              go_quiet ((go_at_call 96; with_reducible exact Calls.quiet_of (HE.out _)))
              obtain ⟨w12, hw12⟩ : ∃ w12, w12 = w11.drewN nq := ⟨_, rfl⟩
              rw [← hw12]
              have hC12 : Chg No w11 w12 := by rw [hw12]; exact (Chg.refl _ _).drewN _
              have HM12 := hid (HM.out.keptNo hC12)
              have HR12 := hid (HR.out.keptNo hC12)
              have HCD12 := hid (HCD.out.keptNo hC12)
              have HCW12 := hid (HCW.out.trans hC12)
              have g1 := hC12.cell g1 id
              have hbG := HM.out.neG hpsN
              have hCb : ¬ Only (bs ps) C := fun e => by
                have e : C = bs ps := e
                have := HBSE.out ps hpsN; have := HG2.out; omega
              have hTb : ¬ Only (bs ps) T := fun e => by
                have e : T = bs ps := e
                have := HBSE.out ps hpsN; have := HG2.out; omega
              clear hw12 hC12 c6 l1 ew ew2 hcw HM HR HCD HCW HE HP HTB
              go_wp2_with fail
              go_loopw [182] (fun i wr => ∃ x : Nat, x ≤ h ∧ i = .int .i64 (x : Int) ∧ Own wr 88 (bs ps) (nv .u16 (rowL h (mixF (fun t => (lge lg ps).inv * F t ps) (fun t => F t ps) x))) [] ∧ Chg (Only (bs ps)) w12 wr) (fun i _ => h - (intOf i).toNat)
              case atStart => exact ⟨0, by omega, rfl, by rw [mixF_zero]; exact HM12.out.row hpsN, Chg.refl _ _⟩
              case round =>
                clear g1
                obtain ⟨x, hx, rfl, hO, hCi⟩ := hrel
                obtain ⟨w13, rfl⟩ : ∃ w13 : World, w13 = wr := ⟨_, rfl⟩
                have HO := hid hO
                have HCI := hid hCi
                by_cases hxh : x < h
                · as_aux_lemma =>
                  have f1c := hCi.cell (HM12.out.cell hpsN) (fun e => hbG e.symm)
                  have f2c := hCi.cell HCD12.out.c6 hCb
                  simp only [List.length_nil, Nat.add_zero] at f1c
                  have oldc := hO.nat (i := x) (by simpa using hxh)
                  have oldf := hO.frozen x
                  rw [gn_rowL' _ _ _ hxh] at oldc
                  have hmx : mixF (fun t => (lge lg ps).inv * F t ps) (fun t => F t ps) x x = F x ps := if_neg (by omega)
                  rw [hmx] at oldc
                  have hset := mixF_set (fun t => (lge lg ps).inv * F t ps) (fun t => F t ps) h x hxh
                  have hmv : tmul f1 (F x ps).v = ((lge lg ps).inv * F x ps).v := by
                    rw [tmul_eq HFL.out (GF.v_lt _), ← HLGE.out, GF.v_mul, gf_v HFL.out]
                  rw [← hmv] at hset
                  have hyl := GF.v_lt (F x ps)
                  have hMu := fun M => HMU.out f1 (F x ps).v (w13.drewN M) (TabAt.kept HCD12.out.tab (hCi.drewN M) hTb) HFL.out hyl
                  have HSET := hid hset
                  generalize (F x ps).v = y at *
                  have HMM := hid hMu
                  have n5 : (x : Int) < (h : Int) := by omega
                  clear hO hCi hset hmv hMu hmx
                  go_wp2_with fail
                  go_region_held3 (fun w' => w'.cell? ⟨G, ps, none⟩ = some (.slice (some ⟨bs ps, 0, none⟩) h h) ∧ w'.cell? ⟨C, 6, none⟩ = some (.pointer (some ⟨T, 0, none⟩)))
                    (first | exact ⟨f1c, f2c⟩ | exact ⟨(((Chg.refl (Only (bs ps)) w13).drewN _).setOnly x _).cell f1c (fun e => hbG e.symm), (((Chg.refl (Only (bs ps)) w13).drewN _).setOnly x _).cell f2c hCb⟩ | go_keep)
                    (first | (go_at_call 102; refine (HMM.out 1).mono ?_; rintro e w14 ⟨rfl, M, rfl⟩))
                  go_wp2_with fail
                  go_roundw
                  case rel => exact ⟨x + 1, by omega, by go_num, by rw [← HSET.out]; exact (HO.out.drewN _).setNat (by simpa using hxh) _, (HCI.out.drewN _).setOnly _ _⟩
                  case measure => simp [intOf]; omega
                · as_aux_lemma =>
                  have hxe : x = h := by omega
                  rw [hxe, mixF_full] at hO
                  have hg13 := hCi.cell (HM12.out.cell hpsN) (fun e => hbG e.symm)
                  simp only [List.length_nil, Nat.add_zero] at hg13
                  have hby := HBY.out (some ⟨bs ps, 0, none⟩) h (fun t => (lge lg ps).inv * F t ps) w13 hO.rn
                  have hgb := gvB_of (k := k) (m := m) (i := i) (lg := lg) (mis := mis) (pc := pc) (f := fun t => (lge lg ps).inv * F t ps) HH.out HG.out.lb (fun t _ => by
                    rw [HFP.out, HPS.out]; exact HVF.out t i HIM.out hit)
                  rw [hgb] at hby
                  have h2n : 2 * h = n := HH.out.symm
                  rw [h2n] at hby
                  have HBYY := hid hby
                  have hR13 : Rws w13 35 5 .u8 G2 xs (.slice none 0 0 :: List.replicate (nw - (a + 1)) (.slice none 0 0)) := HR12.out.kept hCi (fun e => by
                    have e : G2 = bs ps := e
                    have := HG2.out.1 ps hpsN; omega) (fun y hy e => by
                    have e : y.b = bs ps := e
                    have := HG2.out.1 ps hpsN; have := HXB.out y hy; omega)
                  have HR13 := hid hR13
                  have HM13 : Hid (Mx w13 G N h bs (fun _ => []) (fun t q => if q = ps then (lge lg ps).inv * F t ps else F t q) []) := hid (HM12.out.one hpsN hCi hO)
                  have HC13 : Hid (Chg No w1 w13) := hid (HCW12.out.trans' hCi fun q hq e => by
                    have e : q = bs ps := e
                    have := HBSE.out ps hpsN; omega)
                  have n5 : ¬ ((x : Int) < (h : Int)) := by omega
                  clear hO hCi hxe hby hgb h2n hR13
                  go_wp2_with fail
                  refine HBYY.out.mono ?_
                  rintro e w14 ⟨g, rfl, hO14, hg14, hC14⟩
                  have hR14 := HR13.out.keptNo hC14
                  have hgc := hR14.out.restCell
                  have hgf := hR14.out.frozen a
                  rw [List.length_map, HXL.out] at hgc
                  have hR15 := hR14.put (x := ⟨g, gvB k m n lg mis pc i, []⟩) hO14 (fun y hy => by have := HR13.out.blk hy; show y.b ≠ g; omega) (by have := HR13.out.out.lt; show g ≠ G2; omega) (by unfold gvB; rw [gdTo_length]; omega)
                  rw [HXL.out] at hR15
                  have hv15 : (⟨g, gvB k m n lg mis pc i, []⟩ : Pc).v = .slice (some ⟨g, 0, none⟩) n n := by simp [Pc.v, gvB]
                  rw [hv15] at hR15
                  have hx15 := map_take_succ' HX.out (by rw [← HNW.out]; exact hanw) (x := ⟨g, gvB k m n lg mis pc i, []⟩) (by rw [← HI.out])
                  have hM15 : Mx (w14.setCell ⟨G2, a, none⟩ (.slice (some ⟨g, 0, none⟩) n n)) G N h bs (fun _ => []) (fun t q => if q = ps then (lge lg ps).inv * F t ps else F t q) [] :=
                    (HM13.out.keptNo hC14).kept ((Chg.refl (Only G2) w14).setOnly a _) (fun e => by
                      have e : G = G2 := e
                      have := HG2.out.2.1; omega) (fun q hq e => by
                      have e : bs q = G2 := e
                      have := HG2.out.1 q hq; omega)
                  have hC15 : Chg No w1 (w14.setCell ⟨G2, a, none⟩ (.slice (some ⟨g, 0, none⟩) n n)) := (HC13.out.trans hC14).setNew HG2.out.2.2.1 _ _
                  have hb15 : ∀ y ∈ xs ++ [(⟨g, gvB k m n lg mis pc i, []⟩ : Pc)], G2 ≤ y.b := fun y hy => by
                    rcases List.mem_append.1 hy with hy | hy
                    · exact HXB.out y hy
                    · rw [List.mem_singleton.1 hy]; have := HR13.out.out.lt; show G2 ≤ g; omega
                  have hF15 : ∀ q, (∀ z, z < a + 1 → plc k m (gn want z) ≠ q) → ∀ t, (if q = ps then (lge lg ps).inv * F t ps else F t q) = Vf t q := fun q hq t => by
                    have h1 := hq a (by omega)
                    rw [← HI.out, ← HPS.out] at h1
                    rw [if_neg (fun e => h1 e.symm)]
                    exact HF2.out q (fun z hz => hq z (by omega)) t
                  have HR15 := hid hR15
                  have HX15 := hid hx15
                  have HM15 := hid hM15
                  have HC15 := hid hC15
                  have HB15 := hid hb15
                  have HF15 := hid hF15
                  clear hO14 hg14 hC14 hR14 hR15 hv15 hx15 hM15 hC15 hb15 hF15
                  go_wp2_with fail
                  go_roundw
                  case rel => exact ⟨a + 1, _, _, by omega, by go_num, HR15.out, HX15.out, HB15.out, HM15.out, HF15.out, HC15.out⟩
                  case measure => simp [intOf]; omega
            · as_aux_lemma =>
              have hanw2 : ¬ ((a : Int) < (nw : Int)) := by omega
              have hae : a = nw := by omega
              have hRf := HRR.out
              rw [hae, Nat.sub_self] at hRf
              have HXM : Hid (xs.map Pc.d = want.map (gvB k m n lg mis pc)) := hid (by rw [HX.out, hae, HNW.out, List.take_length])
              have HRF := hid hRf
              clear hRf hae
              go_wp2_with fail
              go_ret
              exact ⟨G2, xs, by rw [← HNW.out]; rfl, HRF.out, HXM.out, HG2.out.2.2.1, fun x hx => by have := HXB.out x hx; have := HG2.out.2.2.1; omega, HCW.out⟩
end Go.Proofs.YtpnmmedjamkmeaaGreat
