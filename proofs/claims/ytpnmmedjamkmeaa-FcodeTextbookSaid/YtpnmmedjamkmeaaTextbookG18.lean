/- The walk of FcodeTextbook. -/
import Derived.Deep.AppendLies
import Derived.Deep.DeepCutAuto
import Derived.Deep.RegionLaw
import Derived.Test.YtpnmmedjamkmeaaTextbookG17
set_option linter.unusedSimpArgs false
set_option linter.unusedVariables false
set_option linter.unusedSimpArgs false
namespace Go.Proofs.Ytpnmmedjamkmeaa
open Go.RowKit

theorem info5 : (Try.prog.info? 5).map (fun i => (i.zero, i.size, i.bytes)) = some (some (.int .u8 0), 1, 1) := by kernel_rfl
/-- What make of n bytes runs to. -/
theorem run_mk8 (n : Nat) (hn : n ≤ 4194304) (W : World) : (Instr.makeSlice 42 (Value.int .i64 (n : Int)) (Value.int .i64 (n : Int))).run Try.prog W = .ok (.slice (some ⟨W.heap.size, 0, none⟩) n n) (W.alloc (.cells (Array.replicate n (.int .u8 0)) 5)) := by
  obtain ⟨i, hi, hz0, hs, hb⟩ := info_parts info5
  have hr := run_make (P := Try.prog) W 42 5 i (.int .u8 0) Try.underlying42 hi hz0 .i64 .i64 (n : Int) (n : Int) (by omega) (by omega) (by rw [hb]; omega) (by omega)
  have hm : madeCells (Value.int .u8 0).cells ((n : Int).toNat * i.size) = Array.replicate n (.int .u8 0) := by
    rw [hs, Nat.mul_one, Int.toNat_natCast]
    apply Array.ext'
    rw [show (Value.int .u8 0).cells = #[.int .u8 0] from rfl, toList_madeCells_one]
    simp
  rw [hm] at hr
  simpa using hr
theorem own_repl (W : World) (n : Nat) : Own (W.alloc (.cells (Array.replicate n (.int .u8 0)) 5)) 5 W.heap.size (List.replicate n (.int .u8 0)) [] := by
  have := heap_alloc_new W (.cells (Array.replicate n (.int .u8 0)) 5)
  unfold Own
  rw [this]
  simp

/-- Behind a copy that an append has made of a fresh slice. -/
theorem app_after {w W w' : World} {gg cap n : Nat} {l : List Nat} (hW : Chg No w W) (hown : w'.ownsRow w.heap.size 5 1 (.slice (some ⟨gg, 0, none⟩) (0 + n) cap) (0 + n) ([] ++ nv .u8 l))
    (hgrow : W.grownBy w' (Value.slice (some ⟨w.heap.size, 0, none⟩) 0 0).ownBlock) : w.heap.size ≤ gg ∧ Chg No w w' ∧ Rn w' .u8 (some ⟨gg, 0, none⟩) l := by
  refine ⟨(ownsRow_lt hown rfl).1, hW.grown hgrow (fun k hk => .inr (by simp only [Value.ownBlock, Option.some.injEq] at hk; omega)), ?_⟩
  rcases own_of_ownsRow hown with ⟨h0, _, _⟩ | ⟨g', cap', rest', hv', _, hO', _, _, _⟩
  · cases h0
  · obtain rfl : gg = g' := by
      injection hv' with h1
      simpa using h1
    exact Own.rn (rest := rest') hO'
/-- With one parity shard each factor is 1. -/
theorem fac_one (i : Nat) (h : 1 + i < 65536) : fac 1 0 i = 1 := by
  have hp : p2 1 = 1 := by decide
  unfold fac
  rw [hp, Nat.div_one, el_zero, Nat.zero_xor]
  have h0 : el (1 + i) ≠ 0 := fun e => by
    have := el_inj (i := 1 + i) (j := 0) (by omega) (by omega) (by rw [e, el_zero])
    omega
  unfold gdiv
  exact gmul_inv (el_lt _) h0

set_option maxRecDepth 100000 in
set_option maxHeartbeats 12800000 in
theorem textbook_walk (m : Int) (p q : Option Addr) (k c ll lc : Nat) (ds : List (List Nat)) (w : World) (hl : Lr w .u8 p ds) (hlk : ds.length = k) (hb : Byt ds) :
    Calls Try.prog 5 #[dataV m p q k c ll lc] w fun e w' => e = .returned (.bool true) ∧ Chg No w w' := by
  unfold dataV
  have HL := hid hl
  have HFX := hid fixed_calls
  have HGD := hid (fun w h => good_calls m p q k c ll lc ds w h hlk hb)
  have HLK := hid hlk
  unfold GoodPost at HGD
  clear hl hlk hb
  go_enter Try.func5, Try.ntmps5
  go_wp2_with fail
  refine (HFX.out _).mono ?_
  rintro e w1 ⟨rfl, hC1⟩
  have hS : Own (w.alloc (.cells #[.int .i64 m, .slice p k c, .slice q ll lc] 40)) 40 w.heap.size [.int .i64 m, .slice p k c, .slice q ll lc] [] := heap_alloc_new w _
  have hS1 := hS.keptNo hC1
  have hC : Chg No w w1 := ((Chg.refl No w).alloc _).trans hC1
  have s0 : w1.cell? ⟨w.heap.size, 0, none⟩ = some (.int .i64 m) := hS1.cell (i := 0) (by simp)
  have s1 : w1.cell? ⟨w.heap.size, 1, none⟩ = some (.slice p k c) := hS1.cell (i := 1) (by simp)
  have s2 : w1.cell? ⟨w.heap.size, 2, none⟩ = some (.slice q ll lc) := hS1.cell (i := 2) (by simp)
  have HS := hid hS1
  have HC := hid hC
  generalize w.heap.size = D at *
  clear hS hS1 hC1 hC
  go_wp2_with fail
  refine (HGD.out _ (HL.out.keptNo HC.out)).mono ?_
  rintro e w2 ⟨t, rfl, hgd, hC2⟩
  have HC2 := hid (HC.out.trans hC2)
  have HS2 := hid (HS.out.keptNo hC2)
  have s0 := hC2.cell s0 id
  have s1 := hC2.cell s1 id
  have s2 := hC2.cell s2 id
  clear hC2 HS HC
  cases t with
  | false =>
    clear hgd
    go_wp2_with fail
    go_ret
    exact ⟨rfl, HC2.out⟩
  | true =>
    obtain ⟨x, n, rfl, hprm, hds, hn2, hlt⟩ := hgd rfl
    have HPRM := hid hprm
    have HDS := hid hds
    obtain ⟨b0, o0, q0, cc0, rfl, hd0, _, _⟩ := HL.out 0 (by rw [HLK.out]; exact hprm.1)
    rw [hds.ln 0 hprm.1, Nat.add_zero] at hd0
    have hk1 := hprm.1
    have hk2 := hprm.2.2.1
    have hm1 := hprm.2.1
    have hm2 := hprm.2.2.2.1
    have hk3 := hprm.2.2.2.2
    rw [Int.toNat_natCast] at hk3
    have hn4 := hds.small
    have hpp := p2_pos x
    have hkm : k + x ≤ 131072 := by omega
    have hk65 : 1 + k ≤ 65536 := by omega
    have HPO := hid (polynomial_calls x n k c ll lc (some ⟨b0, o0, none⟩) q ds w2 hprm hds (HL.out.keptNo HC2.out) hn2)
    unfold dataV at HPO
    have HD0 := hid hd0
    have HCO := hid (fun w => codecs_calls k x hprm w)
    have HWO := hid (fun j (h : j < x) w => Words_calls k x j hprm h w)
    have HMA := hid (fun b c g n cap1 cap2 p s d rest w h => MulAdd_calls b c g n cap1 cap2 p s d rest w h)
    unfold CodecsPost at HCO
    clear hgd hprm hds hd0 HGD HFX hlt hk3 hpp
    go_wp2_with fail
    refine HPO.out.mono ?_
    rintro e w3 ⟨rfl, hC3⟩
    have HC3 := hid (HC2.out.trans hC3)
    have HS3 := hid (HS2.out.keptNo hC3)
    have s0 := hC3.cell s0 id
    have s1 := hC3.cell s1 id
    have c0 := HC3.out.cell HD0.out id
    clear hC3 HPO HC2 HS2 s2
    go_wp2_with fail
    go_quiet (fail)
    obtain ⟨w4, hw4⟩ : ∃ w4, w4 = w3.drewN nq := ⟨_, rfl⟩
    rw [← hw4]
    have hC4 : Chg No w3 w4 := by rw [hw4]; exact (Chg.refl _ _).drewN _
    have HC4 := hid (HC3.out.trans hC4)
    have HS4 := hid (HS3.out.keptNo hC4)
    clear hw4 hC4 s0 s1 c0 HC3 HS3
    go_wp2_with fail
    refine (pNew_calls _).mono ?_
    rintro e w5 ⟨rfl, _, hC5⟩
    have HC5 := hid (HC4.out.trans hC5)
    have HS5 := hid (HS4.out.keptNo hC5)
    generalize w4.heap.size = K0 at *
    clear hC5 HC4 HS4
    go_wp2_with fail
    refine (HCO.out _).mono ?_
    rintro e w7 ⟨G, C, W, T, K, rfl, hCs, hG, hC7⟩
    have HCS := hid hCs
    have HC7 := hid (HC5.out.trans hC7)
    have HS7 := hid (HS5.out.keptNo hC7)
    clear hCs hG hC7 HC5 HS5
    go_wp2_with fail
    go_loopw [41] (fun i wr => ∃ i' : Nat, i' ≤ 2 ∧ i = .int .i64 (i' : Int) ∧ Chg No w7 wr) (fun i _ => 2 - (intOf i).toNat)
    case atStart => exact ⟨0, by omega, rfl, Chg.refl _ _⟩
    case round =>
      obtain ⟨ci, hci, rfl, hC8⟩ := hrel
      obtain ⟨w8, rfl⟩ : ∃ w8 : World, w8 = wr := ⟨_, rfl⟩
      have HC8 := hid hC8
      clear hC8
      by_cases hil : ci < 2
      · as_aux_lemma =>
        obtain ⟨f, hf⟩ : ∃ f : Bool, w8.cell? ⟨G, ci, none⟩ = some (.pointer (some ⟨C f, 0, none⟩)) := by
          have ho := HCS.out.own.keptNo HC8.out
          have : ci = 0 ∨ ci = 1 := by omega
          rcases this with rfl | rfl
          · exact ⟨false, ho.cell (i := 0) (by simp)⟩
          · exact ⟨true, ho.cell (i := 1) (by simp)⟩
        have hcd := (HCS.out.cd f).keptNo HC8.out
        have s1 : w8.cell? ⟨D, 1, none⟩ = some (.slice (some ⟨b0, o0, none⟩) k c) := (HS7.out.keptNo HC8.out).cell (i := 1) (by simp)
        have HCW8 := hid (HC7.out.trans HC8.out)
        have HEN := hid (fun w h1 h2 => encoded_calls f (C f) k x (mu (p2 x + k)) (W f) (T f) (K f) n c (some ⟨b0, o0, none⟩) ds w h1 HDS.out h2)
        have HCD := hid hcd
        obtain ⟨tt, htt⟩ : ∃ tt, tt = k + x := ⟨_, rfl⟩
        have HTT := hid htt
        have htk : k < tt := by omega
        have htt2 : tt ≤ 131072 := by omega
        have hadd : (k : Int) + (x : Int) = (tt : Int) := by omega
        have hnt : ((tt : Int) != (tt : Int)) = false := by simp
        clear htt hcd
        unfold EncPost at HEN
        generalize C f = Cf at *
        generalize W f = Wf at *
        generalize T f = Tf at *
        generalize K f = Kf at *
        generalize mu (p2 x + k) = rr at *
        clear HCS
        go_wp2_with fail
        refine (HEN.out _ HCD.out (HL.out.keptNo HCW8.out)).mono ?_
        rintro e w9 ⟨v9, xs9, rfl, hR9, hx9, hC9⟩
        have hxl9 : xs9.length = tt := by
          have := congrArg List.length hx9
          rw [HTT.out]; simpa [HLK.out, par_length] using this
        obtain ⟨Gs, rs, rfl, hR9, hGs, hms, hbs⟩ := hR9.some (by omega)
        rw [hxl9] at hms ⊢
        obtain ⟨ct, hct⟩ : ∃ ct, ct = tt + rs.length := ⟨_, rfl⟩
        rw [← hct] at hms ⊢
        have hctk : tt ≤ ct := by omega
        have hLs := hR9.lr
        rw [hx9] at hLs
        have HLS := hid hLs
        have HC9 := hid (HC8.out.trans hC9)
        have HCW9 := hid (HCW8.out.trans hC9)
        clear hR9 hx9 hC9 hGs hbs hxl9 hct hf s1 hLs HEN HCD
        go_wp2_with fail
        go_loopw [10] (fun i wr => ∃ j : Nat, j ≤ x ∧ i = .int .i64 (j : Int) ∧ Chg No w9 wr) (fun i _ => x - (intOf i).toNat)
        case atStart => exact ⟨0, by omega, rfl, Chg.refl _ _⟩
        case round =>
          obtain ⟨j, hj, rfl, hC10⟩ := hrel
          obtain ⟨w10, rfl⟩ : ∃ w10 : World, w10 = wr := ⟨_, rfl⟩
          have HC10 := hid (HC9.out.trans hC10)
          have HCE := hid hC10
          clear hC10
          by_cases hjx : j < x
          · as_aux_lemma =>
            have hjx2 : (j : Int) < (x : Int) := by omega
            have HWJ := hid (HWO.out j hjx w10)
            have hkk : ((k : Int) != (k : Int)) = false := by simp
            clear HWO
            go_wp2_with fail
            refine HWJ.out.mono ?_
            rintro e w11 ⟨gr, rfl, hO11, hg11, hC11⟩
            have HOR := hid hO11
            have HC11 := hid (HCE.out.trans hC11)
            clear hO11 hC11 HWJ hg11
            go_upto_region 21 with fail
            go_cut [13, 14] (fun s13 s14 wx => ∃ w12 : World, w12 = wx ∧ ∃ ga gb : Nat, ga ≠ gb ∧ s13 = .slice (some ⟨ga, 0, none⟩) n n ∧ s14 = .slice (some ⟨gb, 0, none⟩) n n ∧ Own w12 5 ga (List.replicate n (.int .u8 0)) [] ∧ Own w12 5 gb (List.replicate n (.int .u8 0)) [] ∧ w11.heap.size ≤ ga ∧ w11.heap.size ≤ gb ∧ Chg No w11 w12)
            case first =>
              have hmk := run_mk8 n hn4
              go_region
              all_goals
                (go_wp2_with fail
                 go_meet
                 have h1 := (own_repl w11.drew n).alloc (.cells (Array.replicate n (.int .u8 0)) 5)
                 have h2 := own_repl (w11.drew.alloc (.cells (Array.replicate n (.int .u8 0)) 5)) n
                 have h3 : Chg No w11 ((w11.drew.alloc (.cells (Array.replicate n (.int .u8 0)) 5)).alloc (.cells (Array.replicate n (.int .u8 0)) 5)) := (((Chg.refl No w11).drew).alloc _).alloc _
                 have h4 : (w11.drew.alloc (.cells (Array.replicate n (.int .u8 0)) 5)).heap.size = w11.heap.size + 1 := by simp
                 rw [h4] at h2
                 first
                   | exact ⟨_, rfl, w11.heap.size, w11.heap.size + 1, by omega, rfl, rfl, h1, h2, Nat.le_refl _, Nat.le_succ _, h3⟩
                   | exact ⟨_, rfl, w11.heap.size + 1, w11.heap.size, by omega, rfl, rfl, h2, h1, Nat.le_succ _, Nat.le_refl _, h3⟩)
            case rest =>
              obtain ⟨w12, rfl, ga, gb, hab, rfl, rfl, hOa, hOb, hga, hgb, hC12⟩ := hcut
              have HOA : Hid (Own w12 5 ga (nv .u8 (parTo x n ds j 0)) []) := hid (by rw [parTo, nv_replicate]; exact hOa)
              have HOB : Hid (Own w12 5 gb (nv .u8 (parTo x n ds j 0)) []) := hid (by rw [parTo, nv_replicate]; exact hOb)
              have HC12 := hid hC12
              clear hOa hOb hC12
              go_wp2_with fail
              go_loopw [82] (fun i wr => ∃ (i' : Nat) (l : List Nat), i' ≤ k ∧ i = .int .i64 (i' : Int) ∧ Own wr 5 ga (nv .u8 (parTo x n ds j i')) [] ∧ Own wr 5 gb (nv .u8 l) [] ∧ l.length = n ∧ (∀ b, gn l b < 256) ∧ (x = 1 → l = parTo x n ds j i') ∧ Chg (fun q => q = ga ∨ q = gb) w12 wr) (fun i _ => k - (intOf i).toNat)
              case atStart => exact ⟨0, _, by omega, rfl, HOA.out, HOB.out, parTo_length _ _ _ _ _, parTo_lt _ _ _ _ _, fun _ => rfl, Chg.refl _ _⟩
              case round =>
                clear HOA HOB
                obtain ⟨i, l, hi, rfl, hOa, hOb, hll, hlb, hl1, hC13⟩ := hrel
                obtain ⟨w13, rfl⟩ : ∃ w13 : World, w13 = wr := ⟨_, rfl⟩
                have hNo : Chg No w11 w13 := HC12.out.trans' hC13 (fun q hq e => by rcases e with e | e <;> omega)
                have HNO := hid hNo
                have HOA := hid hOa
                have HOB := hid hOb
                have HLL := hid hll
                have HLB := hid hlb
                have HL1 := hid hl1
                have HC13 := hid hC13
                clear hOa hOb hll hlb hl1 hC13 hNo
                have hga13 := HOA.out.lt
                have hgb13 := HOB.out.lt
                by_cases hik : i < k
                · as_aux_lemma =>
                  have hik2 : (i : Int) < (k : Int) := by omega
                  have hik0 : (0 : Int) ≤ (i : Int) := by omega
                  have f1 := (HOR.out.keptNo HNO.out).nat (i := i) (by rw [fillTo_length]; exact hik)
                  rw [gn_fillTo _ _ _ _ hik, if_pos hik] at f1
                  have f2 : w13.cell? ⟨D, 1, none⟩ = some (.slice (some ⟨b0, o0, none⟩) k c) := ((HS7.out.keptNo HC9.out).keptNo (HC11.out.trans HNO.out)).cell (i := 1) (by simp)
                  have hCA : Chg No w w13 := (HCW9.out.trans HC11.out).trans HNO.out
                  obtain ⟨b', o', q', c', he, f30, hri0, _, _⟩ := HL.out i (by rw [HLK.out]; exact hik)
                  obtain ⟨rfl, rfl⟩ : b0 = b' ∧ o0 = o' := by simpa using he
                  rw [HDS.out.ln i hik] at f30
                  obtain ⟨bs, os, rfl, hrs⟩ := hri0.at0 (by rw [HDS.out.ln i hik]; omega)
                  have hbs0 : bs < w.heap.size := World.block_lt_of_cell? _ _ (hrs 0 (by rw [HDS.out.ln i hik]; omega))
                  have hb00 : b0 < w.heap.size := World.block_lt_of_cell? _ _ f30
                  have hw11 : w.heap.size ≤ w11.heap.size := (HCW9.out.trans HC11.out).size
                  have hD11 : D < w11.heap.size := ((HS7.out.keptNo HC9.out).keptNo HC11.out).lt
                  have hgr11 : gr < w11.heap.size := HOR.out.lt
                  have hbs13 : bs < w13.heap.size := by have := HNO.out.size; omega
                  have n1 : ¬ Only ga gr := fun e => by simp only [Only] at e; omega
                  have n2 : ¬ Only ga D := fun e => by simp only [Only] at e; omega
                  have n3 : ¬ Only ga b0 := fun e => by simp only [Only] at e; omega
                  have n4 : ¬ Only ga bs := fun e => by simp only [Only] at e; omega
                  have n5 : ¬ Only ga gb := fun e => by simp only [Only] at e; omega
                  have f3 := hCA.cell f30 id
                  have hri := hri0.keptNo hCA
                  have HRI := hid hri
                  have HRC := hid hri.addCell
                  have HNV : Hid ((nv .u8 (gl ds i)).length = n) := hid (by rw [nv_length]; exact HDS.out.ln i hik)
                  have HCA := hid hCA
                  obtain ⟨i0, hi0, hz0, hz1, hz2⟩ := info_parts info5
                  have hfl := fac_lt x j i
                  have HFE := hid (show parTo x n ds j (i + 1) = madd (fac x j i) (gl ds i) (parTo x n ds j i) from rfl)
                  obtain ⟨fq, hfq⟩ : ∃ fq, fq = fac x j i := ⟨_, rfl⟩
                  have HFQ := hid hfq
                  rw [← hfq] at f1 hfl HFE
                  clear he hri hri0 f30 hrs hCA hfq hb00 hw11 hD11 hgr11
                  go_wp2_with fail
                  go_region_held3 (fun w' => w'.cell? ⟨gr, i, none⟩ = some (.int .u16 (fq : Int)) ∧ w'.cell? ⟨D, 1, none⟩ = some (.slice (some ⟨b0, o0, none⟩) k c) ∧ w'.cell? ⟨b0, o0 + i, none⟩ = some (.slice (some ⟨bs, os, none⟩) n c'))
                    (first
                      | exact ⟨f1, f2, f3⟩
                      | go_keep
                      | exact ⟨hC14.cell f1 id, hC14.cell f2 id, hC14.cell f3 id⟩
                      | exact ⟨hC15.cell (hC14.cell f1 id) n1, hC15.cell (hC14.cell f2 id) n2, hC15.cell (hC14.cell f3 id) n3⟩)
                    (first
                      | (refine step_append_lies _ (by rfl) _ _ _ (by rfl) w13.heap.size 5 i0 _ 1 1 Try.underlying42 hi0 hz0 hz1 hz2 rfl (by omega) (.slice (some ⟨w13.heap.size, 0, none⟩) 0 0) 0 [] (by rfl) (emptyRow w13 5) ⟨bs, os, none⟩ n c' (nv .u8 (gl ds i)) (by rfl) (by rw [Nat.mul_one]; exact HNV.out) (fun jj u hu => ((Chg.refl No w13).alloc (.cells #[] 5)).cell (HRC.out jj u hu) id) nv_one (by omega) (by unfold maxLen; omega) (by omega) (by simp) (w13.heap.size + 1) (by simp) ?_
                         intro gg cap w14 hown14 hgrow14 hat14 hlt14
                         obtain ⟨hgg, hC14, hR14⟩ := app_after (w := w13) (by first | exact ((Chg.refl No w13).alloc _).drew | exact ((Chg.refl No w13).drew).alloc _) hown14 hgrow14
                         have hMA : MulAddAt w14 K0 fq ga n (some ⟨gg, 0, none⟩) (gl ds i) (parTo x n ds j i) [] := ⟨HDS.out.even, by unfold maxLen; omega, hfl, parTo_length _ _ _ _ _, HDS.out.ln i hik, parTo_lt _ _ _ _ _, HDS.out.lb i, HOA.out.keptNo hC14, hR14, fun a ha => by cases ha; show gg ≠ ga; omega⟩)
                      | (go_at_call 27; refine (HMA.out _ _ _ _ _ _ _ _ _ _ _ hMA).mono ?_; rintro e w15 ⟨rfl, hO15, hC15⟩))
                  have hCB : Chg (Only ga) w13 w15 := (hC14.no).trans hC15
                  have f2 := ((Chg.refl No w15).alloc (.cells #[] 5)).cell (hCB.cell f2 n2) id
                  have f3 := ((Chg.refl No w15).alloc (.cells #[] 5)).cell (hCB.cell f3 n3) id
                  have hri15 := HRI.out.kept hCB (fun a ha => by cases ha; exact n4)
                  have HRA : Hid (∀ jj u, (nv .u8 (gl ds i))[jj]? = some u → (w15.alloc (.cells #[] 5)).cell? ((⟨bs, os, none⟩ : Addr).add jj) = some u) := hid (fun jj u hu => ((Chg.refl No w15).alloc (.cells #[] 5)).cell (hri15.addCell jj u hu) id)
                  have HER := hid (emptyRow w15 5)
                  have HSZ : Hid (w15.heap.size ≤ (w15.alloc (.cells #[] 5)).heap.size) := hid (by simp)
                  rw [← HFE.out] at hO15
                  have HO15 := hid hO15
                  have HOB15 := hid (HOB.out.kept hCB n5)
                  have HCB := hid hCB
                  have hgb15 : gb < w15.heap.size := HOB15.out.lt
                  clear f1 hC14 hC15 hR14 hMA hown14 hgrow14 hat14 hlt14 hCB hri15 hO15
                  go_wp2_with (at_builtin; (with_reducible refine wpList_app HER.out ⟨bs, os, none⟩ (nv .u8 (gl ds i)) ?_ (.int .u8 0) n c' 1 ?_ ?_ ?_ ?_ ?_ ?_ ?_ ?_ ?_ ?_); exact HRA.out; exact ⟨rfl, rfl⟩; exact HNV.out; exact Try.underlying42; kernel_rfl; rfl; exact nv_one; (unfold maxLen; omega); omega; exact HSZ.out; intro v2 W2 hO2 hg2)
                  rcases own_of_ownsRow hO2 with ⟨_, h0, _⟩ | ⟨g2, cap2, rest2, hv2, hb2, hOg, _, _, _⟩
                  · exact absurd h0 (by omega)
                  rw [Nat.zero_add] at hv2
                  subst hv2
                  have hC16 : Chg No w15 W2 := ((Chg.refl No w15).alloc (.cells #[] 5)).grown hg2 (fun k hk => .inr (by simp only [Value.ownBlock, Option.some.injEq] at hk; omega))
                  have hMB : MulAddAt W2 K0 1 gb n (some ⟨g2, 0, none⟩) (gl ds i) l [] := ⟨HDS.out.even, by unfold maxLen; omega, by omega, HLL.out, HDS.out.ln i hik, HLB.out, HDS.out.lb i, HOB15.out.keptNo hC16, Own.rn (rest := rest2) hOg, fun a ha => by cases ha; show g2 ≠ gb; omega⟩
                  have hMB2 := HMA.out K0 1 gb n n cap2 (some ⟨g2, 0, none⟩) (gl ds i) l [] W2 hMB
                  rw [show ((1 : Nat) : Int) = 1 from rfl] at hMB2
                  have HMB := hid hMB2
                  have HC16 := hid hC16
                  clear hO2 hg2 hOg hC16 hMB hMB2 f2 f3
                  go_wp2_with fail
                  refine HMB.out.mono ?_
                  rintro e w17 ⟨rfl, hO17, hC17⟩
                  have hO17a : Own w17 5 ga (nv .u8 (parTo x n ds j (i + 1))) [] := (HO15.out.keptNo HC16.out).kept hC17 (fun e => by simp only [Only] at e; omega)
                  have hx17 : x = 1 → madd 1 (gl ds i) l = parTo x n ds j (i + 1) := fun hx => by
                    have hj0 : j = 0 := by omega
                    rw [HFE.out, HL1.out hx, HFQ.out, hj0, hx, fac_one i (by omega)]
                  have hC17a : Chg (fun q => q = ga ∨ q = gb) w12 w17 := ((HC13.out.trans (HCB.out.mono fun _ _ e => .inl e)).trans HC16.out.no).trans (hC17.mono fun _ _ e => .inr e)
                  have HO17 := hid hO17
                  have HO17a := hid hO17a
                  have HX17 := hid hx17
                  have HC17 := hid hC17a
                  clear hO17 hC17 hO17a hx17 hC17a HMB
                  go_wp2_with fail
                  go_roundw
                  case rel => exact ⟨i + 1, _, by omega, by go_num, HO17a.out, HO17.out, by rw [madd_length]; exact HLL.out, gn_madd_lt (by omega) HLB.out, HX17.out, HC17.out⟩
                  case measure => simp [intOf]; omega
                · as_aux_lemma =>
                  have hie : i = k := by omega
                  have hik2 : ¬ ((i : Int) < (k : Int)) := by omega
                  obtain ⟨kj, hkj⟩ : ∃ kj, kj = k + j := ⟨_, rfl⟩
                  have EKJ : (k : Int) + (j : Int) = (kj : Int) := by omega
                  have n2 : kj < tt := by have := HTT.out; omega
                  have n3 : (kj : Int) < (tt : Int) := by omega
                  have hCS : Chg No w9 w13 := HC11.out.trans HNO.out
                  obtain ⟨b1, o1, q1, c1, he, hcs, hrs, _, _⟩ := (HLS.out.keptNo hCS) kj (by rw [List.length_append, par_length, HLK.out, ← HTT.out]; exact n2)
                  obtain ⟨rfl, rfl⟩ : Gs = b1 ∧ 0 = o1 := by simpa using he
                  have hgl : gl (ds ++ par k x n ds) kj = parTo x n ds j k := by
                    have := gl_app_hi (a := ds) (b := par k x n ds) j
                    rw [HLK.out, ← hkj] at this
                    rw [this, gl_par _ _ _ _ _ hjx]
                  rw [hgl, parTo_length, Nat.zero_add] at hcs
                  rw [hgl] at hrs
                  have hOa := HOA.out
                  rw [hie] at hOa
                  have hE1 := equal_calls (some ⟨ga, 0, none⟩) q1 n n n c1 (parTo x n ds j k) (parTo x n ds j k) w13 hOa.rn hrs (parTo_length _ _ _ _ _) (parTo_length _ _ _ _ _) (by unfold maxLen; omega)
                  rw [decide_eq_true rfl] at hE1
                  have HE1 := hid hE1
                  have HCS := hid hCS
                  by_cases hx1 : x = 1
                  · as_aux_lemma =>
                    have hj0 : j = 0 := by omega
                    obtain ⟨b2, o2, q2, c2, he2, hcs2, hrs2, _, _⟩ := (HLS.out.keptNo hCS) k (by rw [List.length_append, par_length, HLK.out]; omega)
                    obtain ⟨rfl, rfl⟩ : Gs = b2 ∧ 0 = o2 := by simpa using he2
                    have hgl2 : gl (ds ++ par k x n ds) k = parTo x n ds j k := by
                      have := gl_app_hi (a := ds) (b := par k x n ds) 0
                      rw [HLK.out, Nat.add_zero] at this
                      rw [this, gl_par _ _ _ _ _ (by omega), hj0]
                    rw [hgl2, parTo_length, Nat.zero_add] at hcs2
                    rw [hgl2] at hrs2
                    have hlp : l = parTo x n ds j k := by rw [HL1.out hx1, hie]
                    have hOb := HOB.out
                    rw [hlp] at hOb
                    have hE2 := fun M => equal_calls (some ⟨gb, 0, none⟩) q2 n n n c2 (parTo x n ds j k) (parTo x n ds j k) (w13.drewN M) (hOb.rn.keptNo ((Chg.refl No w13).drewN M)) (hrs2.keptNo ((Chg.refl No w13).drewN M)) (parTo_length _ _ _ _ _) (parTo_length _ _ _ _ _) (by unfold maxLen; omega)
                    rw [decide_eq_true rfl] at hE2
                    have HE2 := hid hE2
                    have hx1e : ((x : Int) == 1) = true := by rw [hx1]; rfl
                    have hktt : (k : Int) < (tt : Int) := by omega
                    have hk0 : (0 : Int) ≤ (k : Int) := by omega
                    have HX1 := hid hx1
                    have HJ0 := hid hj0
                    clear he he2 hrs hrs2 hgl hgl2 hlp hOa hOb hE1 hE2 hCS hkj hie hx1 hj0
                    go_wp2_with fail
                    refine HE1.out.mono ?_
                    rintro e w14 ⟨rfl, M, rfl⟩
                    go_wp2_with fail
                    refine (HE2.out M).mono ?_
                    rintro e w15 ⟨rfl, M2, rfl⟩
                    go_wp2_with fail
                    go_roundw
                    case rel => exact ⟨j + 1, by omega, by go_num, (HC11.out.trans HNO.out).drewN _⟩
                    case measure => simp [intOf]; omega
                  · as_aux_lemma =>
                    have hx1e : ((x : Int) == 1) = false := by simp; omega
                    clear he hrs hgl hOa hE1 hCS hkj hie
                    go_wp2_with fail
                    refine HE1.out.mono ?_
                    rintro e w14 ⟨rfl, M, rfl⟩
                    go_wp2_with fail
                    go_roundw
                    case rel => exact ⟨j + 1, by omega, by go_num, (HC11.out.trans HNO.out).drewN M⟩
                    case measure => simp [intOf]; omega
          · as_aux_lemma =>
            have hjx2 : ¬ ((j : Int) < (x : Int)) := by omega
            have HC16 := hid HC10.out
            go_wp2_with fail
            go_roundw
            case rel => exact ⟨ci + 1, by omega, by go_num, HC16.out⟩
            case measure => simp [intOf]; omega
      · as_aux_lemma =>
        have hie : ¬ (ci < 2) := hil
        go_wp2_with fail
        refine (HCO.out _).mono ?_
        rintro e w9 ⟨G', C', W', T', K', rfl, _, _, hC9⟩
        have HC9 := hid hC9
        clear hC9
        go_wp2_with fail
        go_ret
        exact ⟨rfl, (HC7.out.trans HC8.out).trans HC9.out⟩
end Go.Proofs.Ytpnmmedjamkmeaa
