/- The walk of reconstruct; printed by wip/print_Yl.py. -/
import Derived.Test.YtpnmmedjamkmeaaGreatGivesG16
import Derived.Test.YtpnmmedjamkmeaaGreatGivesG17
set_option linter.unusedSimpArgs false
set_option linter.unusedVariables false
set_option linter.unusedSimpArgs false
namespace Go.Proofs.YtpnmmedjamkmeaaGreat
open Go.RowKit

theorem Rn_nil (w : World) (k : IntKind) (p : Option Addr) : Rn w k p [] := fun i hi => absurd hi (by simp)
def RecPost (B : Nat → Prop) (G : Nat) (r0 : List Value) (ls cw : List (List Nat)) (want : List Nat) (w : World) (e : Ending) (w' : World) : Prop :=
  e = .returned (.int .i64 0) ∧ (∃ vs', Hr w' B G (fixTo ls cw want want.length) vs' r0) ∧ Chg (Only G) w w'
set_option maxRecDepth 20000 in
theorem rec_few (fast : Bool) (C k m r W T K n c t lim : Nat) (p : Option Addr) (ls : List (List Nat)) (w : World) (hc : Cd w fast C k m r W T K) (hl : Lr w .u8 p ls) (ht : t = k + m) (hd : Ho t n ls) (hm : m < (em ls t).length) (hlt : (em ls t).length < t) :
    Calls Tryz.prog 35 #[.pointer (some ⟨C, 0, none⟩), .slice p t c, .int .i64 (lim : Int)] w fun e w' => e = .returned (.int .i64 9) ∧ Chg No w w' := by
  have HP := hid (fun w hl => Partial_few p k m n c t ls w hl ht hd hc.prm hm hlt)
  have HL := hid hl
  have c0 := hc.c0
  have c1 := hc.c1
  clear hc hl hd hm hlt ht
  go_enter Tryz.func35, Tryz.ntmps35
  go_wp2_with fail
  go_region_held3 (fun w' => w'.cell? ⟨C, 0, none⟩ = some (.int .i64 (k : Int)) ∧ w'.cell? ⟨C, 1, none⟩ = some (.int .i64 (m : Int)))
    (first
      | exact ⟨c0, c1⟩
      | exact ⟨hC2.cell c0 id, hC2.cell c1 id⟩
      | assumption)
    (first
      | (go_at_call 67; refine (HP.out _ (HL.out.keptNo ((Chg.refl No w).drew))).mono ?_; rintro e w2 ⟨rfl, hC2⟩))
  have hC : Chg No w w2 := ((Chg.refl No w).drew).trans hC2
  go_wp2_with fail
  go_ret
  exact ⟨rfl, hC⟩
set_option maxRecDepth 20000 in
theorem rec_none (fast : Bool) (C k m r W T K n c t lim : Nat) (p : Option Addr) (ls : List (List Nat)) (w : World) (hc : Cd w fast C k m r W T K) (hl : Lr w .u8 p ls) (ht : t = k + m) (hd : Ho t n ls) (hm : (em ls t).length = t) :
    Calls Tryz.prog 35 #[.pointer (some ⟨C, 0, none⟩), .slice p t c, .int .i64 (lim : Int)] w fun e w' => e = .returned (.int .i64 161) ∧ Chg No w w' := by
  have HP := hid (fun w hl => Partial_none p k m n c t ls w hl ht hd hc.prm hm)
  have HL := hid hl
  have c0 := hc.c0
  have c1 := hc.c1
  clear hc hl hd hm ht
  go_enter Tryz.func35, Tryz.ntmps35
  go_wp2_with fail
  go_region_held3 (fun w' => w'.cell? ⟨C, 0, none⟩ = some (.int .i64 (k : Int)) ∧ w'.cell? ⟨C, 1, none⟩ = some (.int .i64 (m : Int)))
    (first
      | exact ⟨c0, c1⟩
      | exact ⟨hC2.cell c0 id, hC2.cell c1 id⟩
      | assumption)
    (first
      | (go_at_call 67; refine (HP.out _ (HL.out.keptNo ((Chg.refl No w).drew))).mono ?_; rintro e w2 ⟨rfl, hC2⟩))
  have hC : Chg No w w2 := ((Chg.refl No w).drew).trans hC2
  go_wp2_with fail
  go_ret
  exact ⟨rfl, hC⟩
set_option maxRecDepth 20000 in
theorem rec_whole (fast : Bool) (B : Nat → Prop) (C k m r W T K n c t lim G : Nat) (ls cw : List (List Nat)) (vs r0 : List Value) (w : World) (hc : Cd w fast C k m r W T K) (hh : Hr w B G ls vs r0) (ht : t = k + m) (hd : Ho t n ls) (hm : em ls t = []) :
    Calls Tryz.prog 35 #[.pointer (some ⟨C, 0, none⟩), .slice (some ⟨G, 0, none⟩) t c, .int .i64 (lim : Int)] w (RecPost B G r0 ls cw (wantOf (em ls t) lim) w) := by
  unfold RecPost
  have HP := Partial_ok (some ⟨G, 0, none⟩) k m n c t ls
  have HP := hid (fun w hl => HP w hl ht hd hc.prm (by rw [hm]; exact Nat.zero_le _))
  have HH := hid hh
  have HL := hid hh.lr
  have c0 := hc.c0
  have c1 := hc.c1
  have HF : Hid (fixTo ls cw (wantOf (em ls t) lim) (wantOf (em ls t) lim).length = ls) := hid (by rw [hm]; rfl)
  rw [hm] at HP HF ⊢
  clear hc hd hm ht hh
  go_enter Tryz.func35, Tryz.ntmps35
  go_wp2_with fail
  go_region_held3 (fun w' => w'.cell? ⟨C, 0, none⟩ = some (.int .i64 (k : Int)) ∧ w'.cell? ⟨C, 1, none⟩ = some (.int .i64 (m : Int)))
    (first
      | exact ⟨c0, c1⟩
      | exact ⟨hC2.cell c0 id, hC2.cell c1 id⟩
      | assumption)
    (first
      | (go_at_call 67; refine (HP.out _ (HL.out.keptNo ((Chg.refl No w).drew))).mono ?_; rintro e w2 ⟨v, rfl, hO2, hC2⟩))
  have hC : Chg No w w2 := ((Chg.refl No w).drew).trans hC2
  rcases own_of_ownsRow hO2 with ⟨rfl, _, _⟩ | ⟨g, cap, rest, rfl, _⟩
  · clear hO2
    go_wp2_with fail
    go_loopw [10, 35] (fun v i wr => v = .slice none 0 0 ∧ i = .int .i64 0 ∧ wr = w2) (fun _ _ _ => 0)
    case atStart => exact ⟨rfl, rfl, rfl⟩
    case round =>
      obtain ⟨rfl, rfl, rfl⟩ := hrel
      go_wp2_with fail
      go_ret
      exact ⟨rfl, ⟨vs, by rw [HF.out]; exact HH.out.keptNo hC⟩, hC.no⟩
  · clear hO2
    go_wp2_with fail
    go_loopw [10, 35] (fun v i wr => v = .slice none 0 0 ∧ i = .int .i64 0 ∧ wr = w2) (fun _ _ _ => 0)
    case atStart => exact ⟨rfl, rfl, rfl⟩
    case round =>
      obtain ⟨rfl, rfl, rfl⟩ := hrel
      go_wp2_with fail
      go_ret
      exact ⟨rfl, ⟨vs, by rw [HF.out]; exact HH.out.keptNo hC⟩, hC.no⟩
set_option maxRecDepth 20000 in
set_option maxHeartbeats 3200000 in
theorem rec_some_false (B : Nat → Prop) (C k m r W T K n c t lim G : Nat) (ls cw : List (List Nat)) (vs r0 : List Value) (w : World) (hc : Cd w false C k m r W T K) (hh : Hr w B G ls vs r0) (hB : ∀ b, B b → b < w.heap.size) (ht : t = k + m) (hd : Ho t n ls) (hbt : Byt ls)
    (hm : (em ls t).length ≤ m) (h1 : (em ls t).length ≠ 0) (hrow : ∀ i ∈ em ls t, gvB k m n (lgOf k m r (em ls t)) (em ls t) ls i = gl cw i) :
    Calls Tryz.prog 35 #[.pointer (some ⟨C, 0, none⟩), .slice (some ⟨G, 0, none⟩) t c, .int .i64 (lim : Int)] w (RecPost B G r0 ls cw (wantOf (em ls t) lim) w) := by
  unfold RecPost
  have hGB := hh.bg
  have hGlt := hB G hGB
  have HBW := hid hB
  have hGV : Gv k m n r (lgOf k m r (em ls t)) (em ls t) (wantOf (em ls t) lim) ls := rec_gv ht hd hbt hc.prm hm
  have HGV := hid hGV
  have HROW := hid hrow
  have hml := hGV.mlen
  have hn1 := hGV.pos
  have hn4 := hGV.small
  have HP := hid (fun w hl => Partial_ok (some ⟨G, 0, none⟩) k m n c t ls w hl ht hd hc.prm hm)
  have HMT : Hid (∀ s ∈ em ls t, s < t) := hid (fun s hs => (mem_em.1 hs).1)
  obtain ⟨mis, hmis⟩ : ∃ mis, mis = em ls t := ⟨_, rfl⟩
  rw [← hmis] at HGV HROW HP hml h1 HMT ⊢
  have hms2 : ∀ s ∈ mis, s < k + m := by rw [← ht]; exact HMT.out
  have HLG := hid (fun n' (hn : mis.length = n') c p w h1' h2 => logs_calls' false C k m r W T K n' c p mis w h1' h2 hn (by omega) (by omega) hms2 HGV.out.ris)
  unfold LogPost at HLG
  have HCUT := hid (fun w hl => cut_holes (some ⟨G, 0, none⟩) t n c ls w hl hd)
  have HGIV := hid (fun c1 c2 c3 c4 p1 p2 p3 p4 w h1 h2 h3 h4 h5 => directGiven_calls false C k m r W T K n c1 c2 c3 c4 p1 p2 p3 p4 (lgOf k m r mis) mis (wantOf mis lim) ls w h1 HGV.out h2 h3 h4 h5)
  unfold GivPost at HGIV
  rw [← ht] at HGIV
  have HC := hid hc
  have HH := hid hh
  have HL := hid hh.lr
  have c0 := hc.c0
  have c1 := hc.c1
  have hlt := hd.lt
  have HWI : Hid (∀ i ∈ wantOf mis lim, i < t) := hid (fun i hi => HMT.out i (mem_wantOf.1 hi).1)
  have HVL : Hid (vs.length = t) := hid (by rw [hh.len, hd.lt])
  have HLT := hid hd.lt
  have ht1 := hd.tsmall
  have hle := wantOf_le mis lim
  have HLB : Hid (∀ i ∈ wantOf mis lim, (gl cw i).length ≤ 140737488355328) := hid (fun i hi => by
    rw [← HROW.out i (mem_wantOf.1 hi).1]; unfold gvB; rw [gdTo_length]; omega)
  clear hc hh hd hbt hm hmis hrow hGV hms2 hlt ht
  have hfn : ∀ W, (binOp BinOp.eql 79 (Value.func (Fn.func 64) #[.pointer (some ⟨C, 0, none⟩)] #[]) Value.nilFunc).run Tryz.prog W = .ok (.bool false) W := fun _ => rfl
  obtain ⟨ne, hne⟩ : ∃ ne, ne = mis.length := ⟨_, rfl⟩
  rw [← hne] at h1 hml
  have HNE := hid hne
  have HLG := hid (fun c p w h1' h2 => HLG.out ne hne.symm c p w h1' h2)
  rw [← hne] at HP HGIV hle
  clear hne
  go_enter Tryz.func35, Tryz.ntmps35
  go_wp2_with fail
  go_region_held3 (fun w' => w'.cell? ⟨C, 0, none⟩ = some (.int .i64 (k : Int)) ∧ w'.cell? ⟨C, 1, none⟩ = some (.int .i64 (m : Int)))
    (first
      | exact ⟨c0, c1⟩
      | exact ⟨hC2.cell c0 id, hC2.cell c1 id⟩
      | assumption)
    (first
      | (go_at_call 67; refine (HP.out _ (HL.out.keptNo ((Chg.refl No w).drew))).mono ?_; rintro e w2 ⟨v, rfl, hO2, hC2⟩))
  have hC : Chg No w w2 := ((Chg.refl No w).drew).trans hC2
  have hO2' : w2.ownsRow w.heap.size 3 1 v ne (nv .i64 mis) := hO2
  clear hO2 hC2 HP
  rcases own_of_ownsRow hO2' with ⟨_, h0, _⟩ | ⟨g, cap, rest, rfl, hg, hOg, hgl, hcp, hmx⟩
  · omega
  have HOG := hid hOg
  have HRM := hid hOg.rn
  have HC2 := hid hC
  have HW0 : Hid (w2.ownsRow w.heap.size 3 1 (.slice none 0 0) 0 (nv .i64 [])) := hid ⟨rfl, .inl ⟨rfl, rfl⟩⟩
  clear hO2' hOg hgl hcp hmx hC c0 c1
  go_wp2_with fail
  go_loopw [10, 35] (fun v i wr => ∃ j : Nat, j ≤ ne ∧ i = .int .i64 (j : Int) ∧ wr.ownsRow w2.heap.size 3 1 v (wantOf (mis.take j) lim).length (nv .i64 (wantOf (mis.take j) lim)) ∧ Chg No w2 wr) (fun _ i _ => ne - (intOf i).toNat)
  case atStart => exact ⟨0, by omega, rfl, ⟨rfl, .inl ⟨rfl, rfl⟩⟩, Chg.refl _ _⟩
  case round =>
    clear HW0
    obtain ⟨j, hj, rfl, hO, hCw⟩ := hrel
    obtain ⟨w3, rfl⟩ : ∃ w3 : World, w3 = wr := ⟨_, rfl⟩
    have HO := hid hO
    have HCW := hid hCw
    clear hO hCw
    have hwl := wantOf_le (mis.take j) lim
    rw [List.length_take, ← HNE.out] at hwl
    by_cases hlt : j < ne
    · have hcg := (HOG.out.keptNo HCW.out).nat (i := j) (by rw [← HNE.out]; exact hlt)
      have hes := wantOf_succ mis lim j (by rw [← HNE.out]; exact hlt)
      have hgt := HMT.out (gn mis j) (mem_gn.2 ⟨j, by rw [← HNE.out]; exact hlt, rfl⟩)
      have hlt2 : (j : Int) < (ne : Int) := by omega
      obtain ⟨s, hs⟩ : ∃ s, s = gn mis j := ⟨_, rfl⟩
      rw [← hs] at hcg hes hgt
      obtain ⟨nv0, hnv0⟩ : ∃ x, x = (wantOf (mis.take j) lim).length := ⟨_, rfl⟩
      have HOJ : Hid (w3.ownsRow w2.heap.size 3 1 u10 nv0 (nv .i64 (wantOf (mis.take j) lim))) := hid (by rw [hnv0]; exact HO.out)
      rw [← hnv0] at hwl
      have HNV := hid hnv0
      have hSZ := HCW.out.size
      clear hs hnv0 HO
      by_cases hsl : s < lim
      · as_aux_lemma =>
        have hsl2 : (s : Int) < (lim : Int) := by omega
        rw [if_pos hsl] at hes
        have HES := hid hes
        have HSZ := hid hSZ
        clear hes hSZ
        go_wp2_with (at_builtin; (with_reducible refine wpList_appG (ownsRow_kept HOJ.out ((Chg.refl No w3).alloc (.cells #[.int .i64 (s : Int)] 3)) (fun _ _ => id)) ⟨w3.heap.size, 0, none⟩ [.int .i64 (s : Int)] ?_ (.int .i64 0) 1 1 8 ?_ ?_ ?_ ?_ ?_ ?_ ?_ ?_ ?_ ?_ ?_); exact (Own.lit1 w3 3 _).addCell; exact ⟨rfl, rfl⟩; rfl; exact Nat.one_pos; exact Tryz.underlying23; kernel_rfl; rfl; (intro u hu; simp at hu; subst hu; rfl); (unfold maxLen; omega); omega; (have := HSZ.out; simp; omega); intro g1 r1 w4 hO3 hm3 hb3 hg3 hc3)
        have hC3 : Chg No w2 w4 := Chg.own1 (HCW.out.alloc _) (ownsRow_kept HOJ.out ((Chg.refl No w3).alloc (.cells #[.int .i64 (s : Int)] 3)) (fun _ _ => id)) (Nat.le_refl _) hc3
        have hO4 : w4.ownsRow w2.heap.size 3 1 (.slice (some ⟨g1, 0, none⟩) (nv0 + 1) (nv0 + 1 + r1.length)) (wantOf (mis.take (j + 1)) lim).length (nv .i64 (wantOf (mis.take (j + 1)) lim)) := by
          rw [HES.out, show nv .i64 (wantOf (mis.take j) lim ++ [s]) = nv .i64 (wantOf (mis.take j) lim) ++ [.int .i64 (s : Int)] from by simp [nv], List.length_append, ← HNV.out]
          exact ownsRow_of_own hO3 hb3 (by simp [HNV.out]) rfl hm3
        have HO4 := hid hO4
        have HC3 := hid hC3
        clear hO3 hm3 hb3 hg3 hc3 hC3 hO4
        go_wp2_with fail
        go_roundw
        case rel => exact ⟨j + 1, by omega, by go_num, HO4.out, HC3.out⟩
        case measure => simp [intOf]; omega
      · as_aux_lemma =>
        have hsl2 : ¬ ((s : Int) < (lim : Int)) := by omega
        rw [if_neg hsl] at hes
        have HO4 : Hid (w3.ownsRow w2.heap.size 3 1 u10 (wantOf (mis.take (j + 1)) lim).length (nv .i64 (wantOf (mis.take (j + 1)) lim))) := hid (by rw [hes, ← HNV.out]; exact HOJ.out)
        clear hes hSZ
        go_wp2_with fail
        go_roundw
        case rel => exact ⟨j + 1, by omega, by go_num, HO4.out, HCW.out⟩
        case measure => simp [intOf]; omega
    · have hjn : j = ne := by omega
      have hO := HO.out
      have hCall := HC2.out.trans HCW.out
      have hcd := HC.out.keptNo hCall
      have HCALL := hid hCall
      rw [hjn, HNE.out, List.take_length] at hO
      have c9 := hcd.c9
      simp only [givF, Bool.false_eq_true, if_false, if_true] at c9
      have hlt2 : ¬ ((j : Int) < (ne : Int)) := by omega
      have hw23 : w2.heap.size ≤ w3.heap.size := HCW.out.size
      have hw02 : w.heap.size ≤ w2.heap.size := HC2.out.size
      rw [hjn] at hlt2 ⊢
      have HOG3 := hid (HOG.out.keptNo HCW.out)
      have HRM3 := hid (HRM.out.keptNo HCW.out)
      clear HO hCall hcd hwl
      obtain ⟨want, hwant⟩ : ∃ want, want = wantOf mis lim := ⟨_, rfl⟩
      rw [← hwant] at hO hle HGIV HWI HLB
      have HWM : Hid (∀ i ∈ want, i ∈ mis) := hid (fun i hi => (mem_wantOf.1 (by rw [← hwant]; exact hi)).1)
      have HWE := hid hwant
      clear hwant
      obtain ⟨nw, hnw⟩ : ∃ nw, nw = want.length := ⟨_, rfl⟩
      rw [← hnw] at hO hle HGIV
      have HNW := hid hnw
      clear hnw
      rcases own_of_ownsRow hO with ⟨rfl, h0, _⟩ | ⟨gw, capw, restw, rfl, hgw, hOw, hwl, hcpw, hmxw⟩
      · as_aux_lemma =>
        clear hO
        go_wp2_with fail
        go_ret
        refine ⟨rfl, ⟨vs, ?_⟩, HCALL.out.no⟩
        rw [← HWE.out, ← HNW.out, h0]
        exact HH.out.keptNo HCALL.out
      · by_cases hnw0 : nw = 0
        · as_aux_lemma =>
          have HN0 : Hid (want.length = 0) := hid (by rw [← HNW.out]; exact hnw0)
          subst hnw0
          clear hO hOw hwl hcpw hmxw
          go_wp2_with fail
          go_ret
          refine ⟨rfl, ⟨vs, ?_⟩, HCALL.out.no⟩
          rw [← HWE.out, HN0.out]
          exact HH.out.keptNo HCALL.out
        · have HOW := hid hOw
          have d0 : ((nw : Int) == 0) = false := by rw [beq_eq_false_iff_ne]; omega
          have HRW := hid hOw.rn
          clear hO hOw hwl hcpw hmxw
          go_wp2_with fail
          go_region_held3 (fun w' => Chg No w3 w' ∧ w'.cell? ⟨C, 9, none⟩ = some (.func (Fn.func 64) #[.pointer (some ⟨C, 0, none⟩)] #[]))
            (first
              | exact ⟨(Chg.refl No w3).drew, c9⟩
              | assumption
              | exact ⟨((Chg.refl No w3).drew).trans hC5, hC5.cell c9 id⟩
              | exact ⟨(((Chg.refl No w3).drew).trans hC5).trans hC6, hC6.cell (hC5.cell c9 id) id⟩
              | exact ⟨((((Chg.refl No w3).drew).trans hC5).trans hC6).trans hC7, hC7.cell (hC6.cell (hC5.cell c9 id) id) id⟩)
            (first
              | (go_at_call 64; refine (HGIV.out _ _ _ _ _ _ _ _ _ (HC.out.keptNo (((HCALL.out.drew).trans hC5).trans hC6)) (hO5.rn.keptNo hC6) (HRM3.out.keptNo ((((Chg.refl No w3).drew).trans hC5).trans hC6)) (HRW.out.keptNo ((((Chg.refl No w3).drew).trans hC5).trans hC6)) hL6).mono ?_; rintro e w7 ⟨Gb, xs, rfl, hR7, hx7, hg7, hb7, hC7⟩)
              | (go_at_call 69; refine (HCUT.out _ (HL.out.keptNo ((HCALL.out.drew).trans hC5))).mono ?_; rintro e w6 ⟨g6, rfl, hL6, hg6, hC6⟩)
              | (go_at_call 68; refine (HLG.out _ _ _ (HC.out.keptNo (HCALL.out.drew)) (HRM3.out.keptNo ((Chg.refl No w3).drew))).mono ?_; rintro e w5 ⟨g5, rfl, hO5, hg5, hC5⟩))
          have hC37 : Chg No w3 w7 := ((((Chg.refl No w3).drew).trans hC5).trans hC6).trans hC7
          have h36 : w3.heap.size ≤ w6.heap.size := ((((Chg.refl No w3).drew).trans hC5).trans hC6).size
          have hC07 : Chg No w w7 := HCALL.out.trans hC37
          have HC07 := hid hC07
          have hgb : w.heap.size ≤ Gb := by omega
          have HXB : Hid (∀ x ∈ xs, w.heap.size ≤ x.b) := hid (fun x hx => by have := hb7 x hx; omega)
          have HX := hid hx7
          have HR7 := hid hR7
          have HOW7 := hid (HOW.out.keptNo hC37)
          have hgw2 : w.heap.size ≤ gw := by omega
          have HXL : Hid (xs.length = nw) := hid (by have h := congrArg List.length hx7; rw [List.length_map, List.length_map] at h; rw [h, HNW.out])
          clear hC37 h36 hC07 hC5 hC6 hC7 hR7 hx7 hg7 hb7 hO5 hL6 hg5 hg6 c9
          go_wp2_with fail
          go_loopw [73] (fun i wr => ∃ (j : Nat) (vs' : List Value), j ≤ nw ∧ i = .int .i64 (j : Int) ∧ Hr wr B G (fixTo ls cw want j) vs' r0 ∧ Chg (Only G) w7 wr) (fun i _ => nw - (intOf i).toNat)
          case atStart => exact ⟨0, vs, by omega, rfl, HH.out.keptNo HC07.out, Chg.refl _ _⟩
          case round =>
            obtain ⟨j, vs', hj, rfl, hH, hCx⟩ := hrel
            obtain ⟨w8, rfl⟩ : ∃ w8 : World, w8 = wr := ⟨_, rfl⟩
            have HH8 := hid hH
            have HCX := hid hCx
            have hvl : vs'.length = t := by rw [hH.len, fixTo_length, HLT.out]
            by_cases hlt3 : j < nw
            · as_aux_lemma =>
              have hlt4 : (j : Int) < (nw : Int) := by omega
              have hcw1 := (HOW7.out.kept hCx (by simp only [Only]; omega)).nat (i := j) (by rw [← HNW.out]; exact hlt3)
              have hcb := (HR7.out.kept hCx (by simp only [Only]; omega) (fun x hx => by have := HXB.out x hx; simp only [Only]; omega)).cell (i := j) (by rw [HXL.out]; exact hlt3)
              obtain ⟨s, hs⟩ : ∃ s, s = gn want j := ⟨_, rfl⟩
              have hsm : s ∈ want := mem_gn.2 ⟨j, by rw [← HNW.out]; exact hlt3, hs.symm⟩
              have hst := HWI.out s hsm
              rw [← hs] at hcw1
              have hxj : xs[j]'(by rw [HXL.out]; exact hlt3) ∈ xs := List.getElem_mem _
              have hxd : (xs[j]'(by rw [HXL.out]; exact hlt3)).d = gl cw s := by
                have h := HX.out
                have h2 : (xs.map Pc.d)[j]'(by rw [List.length_map, HXL.out]; exact hlt3) = (want.map (gvB k m n (lgOf k m r mis) mis ls))[j]'(by rw [List.length_map, ← HNW.out]; exact hlt3) := by simp only [h]
                rw [List.getElem_map, List.getElem_map] at h2
                rw [h2, ← gn_get want j (by rw [← HNW.out]; exact hlt3), ← hs]
                exact HROW.out s (HWM.out s hsm)
              have hRn := ((HR7.out.inn _ hxj).kept hCx (by have := HXB.out _ hxj; simp only [Only]; omega)).rn
              have hxb := HXB.out _ hxj
              obtain ⟨x, hx⟩ : ∃ x, x = xs[j]'(by rw [HXL.out]; exact hlt3) := ⟨_, rfl⟩
              rw [← hx] at hcb hxd hRn hxb
              rw [hxd] at hRn
              unfold Pc.v at hcb
              rw [hxd] at hcb
              obtain ⟨cc, hcc⟩ : ∃ cc, cc = (gl cw s).length + x.r.length := ⟨_, rfl⟩
              rw [← hcc] at hcb
              have hgc := hH.out.cell (i := s) (by omega)
              have hgf := hH.out.frozen s
              have HRN := hid hRn
              have HLS := hid (HLB.out s hsm)
              have HSS := hid hs
              have hbn : ¬ B x.b := fun h => by have := HBW.out _ h; omega
              have hst2 : (s : Int) < (t : Int) := by omega
              generalize vs'[s] = v0 at hgc
              have HXR := hid hxd
              clear hxd hxj hx hRn hs hH hCx
              obtain ⟨ln, hln⟩ : ∃ ln, ln = (gl cw s).length := ⟨_, rfl⟩
              rw [← hln] at hcb hcc
              have HLN := hid hln
              have HCE := hid hcc
              clear hln hcc
              go_wp2_with fail
              have hset := HH8.out.set (i := s) (by omega) (q := some ⟨x.b, 0, none⟩) (l := gl cw s) (c := cc) HRN.out (fun y hy => by
                simp only [Option.some.injEq] at hy; subst hy; exact hbn) HLS.out (by rw [← HLN.out, HCE.out]; omega)
              rw [← HLN.out] at hset
              have hfix : fixTo ls cw want (j + 1) = (fixTo ls cw want j).set s (gl cw s) := by rw [fixTo, ← HSS.out]
              rw [← hfix] at hset
              have HSET := hid hset
              clear hset hfix
              go_roundw
              case rel => exact ⟨j + 1, _, by omega, by go_num, HSET.out, HCX.out.setCell (p := ⟨G, s, none⟩) (.inl rfl) _⟩
              case measure => simp [intOf]; omega
            · as_aux_lemma =>
              obtain rfl : j = nw := by omega
              have hlt4 : ¬ ((j : Int) < (j : Int)) := by omega
              clear hH hCx
              go_wp2_with fail
              go_ret
              refine ⟨rfl, ⟨vs', ?_⟩, HC07.out.no.trans HCX.out⟩
              rw [← HWE.out, ← HNW.out]
              exact HH8.out
set_option maxRecDepth 20000 in
set_option maxHeartbeats 3200000 in
theorem rec_some_true (B : Nat → Prop) (C k m r W T K n c t lim G : Nat) (ls cw : List (List Nat)) (vs r0 : List Value) (w : World) (hc : Cd w true C k m r W T K) (hh : Hr w B G ls vs r0) (hB : ∀ b, B b → b < w.heap.size) (ht : t = k + m) (hd : Ho t n ls) (hbt : Byt ls)
    (hm : (em ls t).length ≤ m) (h1 : (em ls t).length ≠ 0) (hrow : ∀ i ∈ em ls t, gvB k m n (lgOf k m r (em ls t)) (em ls t) ls i = gl cw i) :
    Calls Tryz.prog 35 #[.pointer (some ⟨C, 0, none⟩), .slice (some ⟨G, 0, none⟩) t c, .int .i64 (lim : Int)] w (RecPost B G r0 ls cw (wantOf (em ls t) lim) w) := by
  unfold RecPost
  have hGB := hh.bg
  have hGlt := hB G hGB
  have HBW := hid hB
  have hGV : Gv k m n r (lgOf k m r (em ls t)) (em ls t) (wantOf (em ls t) lim) ls := rec_gv ht hd hbt hc.prm hm
  have HGV := hid hGV
  have HROW := hid hrow
  have hml := hGV.mlen
  have hn1 := hGV.pos
  have hn4 := hGV.small
  have HP := hid (fun w hl => Partial_ok (some ⟨G, 0, none⟩) k m n c t ls w hl ht hd hc.prm hm)
  have HMT : Hid (∀ s ∈ em ls t, s < t) := hid (fun s hs => (mem_em.1 hs).1)
  obtain ⟨mis, hmis⟩ : ∃ mis, mis = em ls t := ⟨_, rfl⟩
  rw [← hmis] at HGV HROW HP hml h1 HMT ⊢
  have hms2 : ∀ s ∈ mis, s < k + m := by rw [← ht]; exact HMT.out
  have HLG := hid (fun n' (hn : mis.length = n') c p w h1' h2 => logs_calls' true C k m r W T K n' c p mis w h1' h2 hn (by omega) (by omega) hms2 HGV.out.ris)
  unfold LogPost at HLG
  have HCUT := hid (fun w hl => cut_holes (some ⟨G, 0, none⟩) t n c ls w hl hd)
  have HGIV := hid (fun c1 c2 c3 c4 p1 p2 p3 p4 w h1 h2 h3 h4 h5 => fastGiven_calls true C k m r W T K n c1 c2 c3 c4 p1 p2 p3 p4 (lgOf k m r mis) mis (wantOf mis lim) ls w h1 HGV.out h2 h3 h4 h5)
  unfold GivPost at HGIV
  rw [← ht] at HGIV
  have HC := hid hc
  have HH := hid hh
  have HL := hid hh.lr
  have c0 := hc.c0
  have c1 := hc.c1
  have hlt := hd.lt
  have HWI : Hid (∀ i ∈ wantOf mis lim, i < t) := hid (fun i hi => HMT.out i (mem_wantOf.1 hi).1)
  have HVL : Hid (vs.length = t) := hid (by rw [hh.len, hd.lt])
  have HLT := hid hd.lt
  have ht1 := hd.tsmall
  have hle := wantOf_le mis lim
  have HLB : Hid (∀ i ∈ wantOf mis lim, (gl cw i).length ≤ 140737488355328) := hid (fun i hi => by
    rw [← HROW.out i (mem_wantOf.1 hi).1]; unfold gvB; rw [gdTo_length]; omega)
  clear hc hh hd hbt hm hmis hrow hGV hms2 hlt ht
  have hfn : ∀ W, (binOp BinOp.eql 79 (Value.func (Fn.func 66) #[.pointer (some ⟨C, 0, none⟩)] #[]) Value.nilFunc).run Tryz.prog W = .ok (.bool false) W := fun _ => rfl
  obtain ⟨ne, hne⟩ : ∃ ne, ne = mis.length := ⟨_, rfl⟩
  rw [← hne] at h1 hml
  have HNE := hid hne
  have HLG := hid (fun c p w h1' h2 => HLG.out ne hne.symm c p w h1' h2)
  rw [← hne] at HP HGIV hle
  clear hne
  go_enter Tryz.func35, Tryz.ntmps35
  go_wp2_with fail
  go_region_held3 (fun w' => w'.cell? ⟨C, 0, none⟩ = some (.int .i64 (k : Int)) ∧ w'.cell? ⟨C, 1, none⟩ = some (.int .i64 (m : Int)))
    (first
      | exact ⟨c0, c1⟩
      | exact ⟨hC2.cell c0 id, hC2.cell c1 id⟩
      | assumption)
    (first
      | (go_at_call 67; refine (HP.out _ (HL.out.keptNo ((Chg.refl No w).drew))).mono ?_; rintro e w2 ⟨v, rfl, hO2, hC2⟩))
  have hC : Chg No w w2 := ((Chg.refl No w).drew).trans hC2
  have hO2' : w2.ownsRow w.heap.size 3 1 v ne (nv .i64 mis) := hO2
  clear hO2 hC2 HP
  rcases own_of_ownsRow hO2' with ⟨_, h0, _⟩ | ⟨g, cap, rest, rfl, hg, hOg, hgl, hcp, hmx⟩
  · omega
  have HOG := hid hOg
  have HRM := hid hOg.rn
  have HC2 := hid hC
  have HW0 : Hid (w2.ownsRow w.heap.size 3 1 (.slice none 0 0) 0 (nv .i64 [])) := hid ⟨rfl, .inl ⟨rfl, rfl⟩⟩
  clear hO2' hOg hgl hcp hmx hC c0 c1
  go_wp2_with fail
  go_loopw [10, 35] (fun v i wr => ∃ j : Nat, j ≤ ne ∧ i = .int .i64 (j : Int) ∧ wr.ownsRow w2.heap.size 3 1 v (wantOf (mis.take j) lim).length (nv .i64 (wantOf (mis.take j) lim)) ∧ Chg No w2 wr) (fun _ i _ => ne - (intOf i).toNat)
  case atStart => exact ⟨0, by omega, rfl, ⟨rfl, .inl ⟨rfl, rfl⟩⟩, Chg.refl _ _⟩
  case round =>
    clear HW0
    obtain ⟨j, hj, rfl, hO, hCw⟩ := hrel
    obtain ⟨w3, rfl⟩ : ∃ w3 : World, w3 = wr := ⟨_, rfl⟩
    have HO := hid hO
    have HCW := hid hCw
    clear hO hCw
    have hwl := wantOf_le (mis.take j) lim
    rw [List.length_take, ← HNE.out] at hwl
    by_cases hlt : j < ne
    · have hcg := (HOG.out.keptNo HCW.out).nat (i := j) (by rw [← HNE.out]; exact hlt)
      have hes := wantOf_succ mis lim j (by rw [← HNE.out]; exact hlt)
      have hgt := HMT.out (gn mis j) (mem_gn.2 ⟨j, by rw [← HNE.out]; exact hlt, rfl⟩)
      have hlt2 : (j : Int) < (ne : Int) := by omega
      obtain ⟨s, hs⟩ : ∃ s, s = gn mis j := ⟨_, rfl⟩
      rw [← hs] at hcg hes hgt
      obtain ⟨nv0, hnv0⟩ : ∃ x, x = (wantOf (mis.take j) lim).length := ⟨_, rfl⟩
      have HOJ : Hid (w3.ownsRow w2.heap.size 3 1 u10 nv0 (nv .i64 (wantOf (mis.take j) lim))) := hid (by rw [hnv0]; exact HO.out)
      rw [← hnv0] at hwl
      have HNV := hid hnv0
      have hSZ := HCW.out.size
      clear hs hnv0 HO
      by_cases hsl : s < lim
      · as_aux_lemma =>
        have hsl2 : (s : Int) < (lim : Int) := by omega
        rw [if_pos hsl] at hes
        have HES := hid hes
        have HSZ := hid hSZ
        clear hes hSZ
        go_wp2_with (at_builtin; (with_reducible refine wpList_appG (ownsRow_kept HOJ.out ((Chg.refl No w3).alloc (.cells #[.int .i64 (s : Int)] 3)) (fun _ _ => id)) ⟨w3.heap.size, 0, none⟩ [.int .i64 (s : Int)] ?_ (.int .i64 0) 1 1 8 ?_ ?_ ?_ ?_ ?_ ?_ ?_ ?_ ?_ ?_ ?_); exact (Own.lit1 w3 3 _).addCell; exact ⟨rfl, rfl⟩; rfl; exact Nat.one_pos; exact Tryz.underlying23; kernel_rfl; rfl; (intro u hu; simp at hu; subst hu; rfl); (unfold maxLen; omega); omega; (have := HSZ.out; simp; omega); intro g1 r1 w4 hO3 hm3 hb3 hg3 hc3)
        have hC3 : Chg No w2 w4 := Chg.own1 (HCW.out.alloc _) (ownsRow_kept HOJ.out ((Chg.refl No w3).alloc (.cells #[.int .i64 (s : Int)] 3)) (fun _ _ => id)) (Nat.le_refl _) hc3
        have hO4 : w4.ownsRow w2.heap.size 3 1 (.slice (some ⟨g1, 0, none⟩) (nv0 + 1) (nv0 + 1 + r1.length)) (wantOf (mis.take (j + 1)) lim).length (nv .i64 (wantOf (mis.take (j + 1)) lim)) := by
          rw [HES.out, show nv .i64 (wantOf (mis.take j) lim ++ [s]) = nv .i64 (wantOf (mis.take j) lim) ++ [.int .i64 (s : Int)] from by simp [nv], List.length_append, ← HNV.out]
          exact ownsRow_of_own hO3 hb3 (by simp [HNV.out]) rfl hm3
        have HO4 := hid hO4
        have HC3 := hid hC3
        clear hO3 hm3 hb3 hg3 hc3 hC3 hO4
        go_wp2_with fail
        go_roundw
        case rel => exact ⟨j + 1, by omega, by go_num, HO4.out, HC3.out⟩
        case measure => simp [intOf]; omega
      · as_aux_lemma =>
        have hsl2 : ¬ ((s : Int) < (lim : Int)) := by omega
        rw [if_neg hsl] at hes
        have HO4 : Hid (w3.ownsRow w2.heap.size 3 1 u10 (wantOf (mis.take (j + 1)) lim).length (nv .i64 (wantOf (mis.take (j + 1)) lim))) := hid (by rw [hes, ← HNV.out]; exact HOJ.out)
        clear hes hSZ
        go_wp2_with fail
        go_roundw
        case rel => exact ⟨j + 1, by omega, by go_num, HO4.out, HCW.out⟩
        case measure => simp [intOf]; omega
    · have hjn : j = ne := by omega
      have hO := HO.out
      have hCall := HC2.out.trans HCW.out
      have hcd := HC.out.keptNo hCall
      have HCALL := hid hCall
      rw [hjn, HNE.out, List.take_length] at hO
      have c9 := hcd.c9
      simp only [givF, Bool.false_eq_true, if_false, if_true] at c9
      have hlt2 : ¬ ((j : Int) < (ne : Int)) := by omega
      have hw23 : w2.heap.size ≤ w3.heap.size := HCW.out.size
      have hw02 : w.heap.size ≤ w2.heap.size := HC2.out.size
      rw [hjn] at hlt2 ⊢
      have HOG3 := hid (HOG.out.keptNo HCW.out)
      have HRM3 := hid (HRM.out.keptNo HCW.out)
      clear HO hCall hcd hwl
      obtain ⟨want, hwant⟩ : ∃ want, want = wantOf mis lim := ⟨_, rfl⟩
      rw [← hwant] at hO hle HGIV HWI HLB
      have HWM : Hid (∀ i ∈ want, i ∈ mis) := hid (fun i hi => (mem_wantOf.1 (by rw [← hwant]; exact hi)).1)
      have HWE := hid hwant
      clear hwant
      obtain ⟨nw, hnw⟩ : ∃ nw, nw = want.length := ⟨_, rfl⟩
      rw [← hnw] at hO hle HGIV
      have HNW := hid hnw
      clear hnw
      rcases own_of_ownsRow hO with ⟨rfl, h0, _⟩ | ⟨gw, capw, restw, rfl, hgw, hOw, hwl, hcpw, hmxw⟩
      · as_aux_lemma =>
        clear hO
        go_wp2_with fail
        go_ret
        refine ⟨rfl, ⟨vs, ?_⟩, HCALL.out.no⟩
        rw [← HWE.out, ← HNW.out, h0]
        exact HH.out.keptNo HCALL.out
      · by_cases hnw0 : nw = 0
        · as_aux_lemma =>
          have HN0 : Hid (want.length = 0) := hid (by rw [← HNW.out]; exact hnw0)
          subst hnw0
          clear hO hOw hwl hcpw hmxw
          go_wp2_with fail
          go_ret
          refine ⟨rfl, ⟨vs, ?_⟩, HCALL.out.no⟩
          rw [← HWE.out, HN0.out]
          exact HH.out.keptNo HCALL.out
        · have HOW := hid hOw
          have d0 : ((nw : Int) == 0) = false := by rw [beq_eq_false_iff_ne]; omega
          have HRW := hid hOw.rn
          clear hO hOw hwl hcpw hmxw
          go_wp2_with fail
          go_region_held3 (fun w' => Chg No w3 w' ∧ w'.cell? ⟨C, 9, none⟩ = some (.func (Fn.func 66) #[.pointer (some ⟨C, 0, none⟩)] #[]))
            (first
              | exact ⟨(Chg.refl No w3).drew, c9⟩
              | assumption
              | exact ⟨((Chg.refl No w3).drew).trans hC5, hC5.cell c9 id⟩
              | exact ⟨(((Chg.refl No w3).drew).trans hC5).trans hC6, hC6.cell (hC5.cell c9 id) id⟩
              | exact ⟨((((Chg.refl No w3).drew).trans hC5).trans hC6).trans hC7, hC7.cell (hC6.cell (hC5.cell c9 id) id) id⟩)
            (first
              | (go_at_call 66; refine (HGIV.out _ _ _ _ _ _ _ _ _ (HC.out.keptNo (((HCALL.out.drew).trans hC5).trans hC6)) (hO5.rn.keptNo hC6) (HRM3.out.keptNo ((((Chg.refl No w3).drew).trans hC5).trans hC6)) (HRW.out.keptNo ((((Chg.refl No w3).drew).trans hC5).trans hC6)) hL6).mono ?_; rintro e w7 ⟨Gb, xs, rfl, hR7, hx7, hg7, hb7, hC7⟩)
              | (go_at_call 69; refine (HCUT.out _ (HL.out.keptNo ((HCALL.out.drew).trans hC5))).mono ?_; rintro e w6 ⟨g6, rfl, hL6, hg6, hC6⟩)
              | (go_at_call 68; refine (HLG.out _ _ _ (HC.out.keptNo (HCALL.out.drew)) (HRM3.out.keptNo ((Chg.refl No w3).drew))).mono ?_; rintro e w5 ⟨g5, rfl, hO5, hg5, hC5⟩))
          have hC37 : Chg No w3 w7 := ((((Chg.refl No w3).drew).trans hC5).trans hC6).trans hC7
          have h36 : w3.heap.size ≤ w6.heap.size := ((((Chg.refl No w3).drew).trans hC5).trans hC6).size
          have hC07 : Chg No w w7 := HCALL.out.trans hC37
          have HC07 := hid hC07
          have hgb : w.heap.size ≤ Gb := by omega
          have HXB : Hid (∀ x ∈ xs, w.heap.size ≤ x.b) := hid (fun x hx => by have := hb7 x hx; omega)
          have HX := hid hx7
          have HR7 := hid hR7
          have HOW7 := hid (HOW.out.keptNo hC37)
          have hgw2 : w.heap.size ≤ gw := by omega
          have HXL : Hid (xs.length = nw) := hid (by have h := congrArg List.length hx7; rw [List.length_map, List.length_map] at h; rw [h, HNW.out])
          clear hC37 h36 hC07 hC5 hC6 hC7 hR7 hx7 hg7 hb7 hO5 hL6 hg5 hg6 c9
          go_wp2_with fail
          go_loopw [73] (fun i wr => ∃ (j : Nat) (vs' : List Value), j ≤ nw ∧ i = .int .i64 (j : Int) ∧ Hr wr B G (fixTo ls cw want j) vs' r0 ∧ Chg (Only G) w7 wr) (fun i _ => nw - (intOf i).toNat)
          case atStart => exact ⟨0, vs, by omega, rfl, HH.out.keptNo HC07.out, Chg.refl _ _⟩
          case round =>
            obtain ⟨j, vs', hj, rfl, hH, hCx⟩ := hrel
            obtain ⟨w8, rfl⟩ : ∃ w8 : World, w8 = wr := ⟨_, rfl⟩
            have HH8 := hid hH
            have HCX := hid hCx
            have hvl : vs'.length = t := by rw [hH.len, fixTo_length, HLT.out]
            by_cases hlt3 : j < nw
            · as_aux_lemma =>
              have hlt4 : (j : Int) < (nw : Int) := by omega
              have hcw1 := (HOW7.out.kept hCx (by simp only [Only]; omega)).nat (i := j) (by rw [← HNW.out]; exact hlt3)
              have hcb := (HR7.out.kept hCx (by simp only [Only]; omega) (fun x hx => by have := HXB.out x hx; simp only [Only]; omega)).cell (i := j) (by rw [HXL.out]; exact hlt3)
              obtain ⟨s, hs⟩ : ∃ s, s = gn want j := ⟨_, rfl⟩
              have hsm : s ∈ want := mem_gn.2 ⟨j, by rw [← HNW.out]; exact hlt3, hs.symm⟩
              have hst := HWI.out s hsm
              rw [← hs] at hcw1
              have hxj : xs[j]'(by rw [HXL.out]; exact hlt3) ∈ xs := List.getElem_mem _
              have hxd : (xs[j]'(by rw [HXL.out]; exact hlt3)).d = gl cw s := by
                have h := HX.out
                have h2 : (xs.map Pc.d)[j]'(by rw [List.length_map, HXL.out]; exact hlt3) = (want.map (gvB k m n (lgOf k m r mis) mis ls))[j]'(by rw [List.length_map, ← HNW.out]; exact hlt3) := by simp only [h]
                rw [List.getElem_map, List.getElem_map] at h2
                rw [h2, ← gn_get want j (by rw [← HNW.out]; exact hlt3), ← hs]
                exact HROW.out s (HWM.out s hsm)
              have hRn := ((HR7.out.inn _ hxj).kept hCx (by have := HXB.out _ hxj; simp only [Only]; omega)).rn
              have hxb := HXB.out _ hxj
              obtain ⟨x, hx⟩ : ∃ x, x = xs[j]'(by rw [HXL.out]; exact hlt3) := ⟨_, rfl⟩
              rw [← hx] at hcb hxd hRn hxb
              rw [hxd] at hRn
              unfold Pc.v at hcb
              rw [hxd] at hcb
              obtain ⟨cc, hcc⟩ : ∃ cc, cc = (gl cw s).length + x.r.length := ⟨_, rfl⟩
              rw [← hcc] at hcb
              have hgc := hH.out.cell (i := s) (by omega)
              have hgf := hH.out.frozen s
              have HRN := hid hRn
              have HLS := hid (HLB.out s hsm)
              have HSS := hid hs
              have hbn : ¬ B x.b := fun h => by have := HBW.out _ h; omega
              have hst2 : (s : Int) < (t : Int) := by omega
              generalize vs'[s] = v0 at hgc
              have HXR := hid hxd
              clear hxd hxj hx hRn hs hH hCx
              obtain ⟨ln, hln⟩ : ∃ ln, ln = (gl cw s).length := ⟨_, rfl⟩
              rw [← hln] at hcb hcc
              have HLN := hid hln
              have HCE := hid hcc
              clear hln hcc
              go_wp2_with fail
              have hset := HH8.out.set (i := s) (by omega) (q := some ⟨x.b, 0, none⟩) (l := gl cw s) (c := cc) HRN.out (fun y hy => by
                simp only [Option.some.injEq] at hy; subst hy; exact hbn) HLS.out (by rw [← HLN.out, HCE.out]; omega)
              rw [← HLN.out] at hset
              have hfix : fixTo ls cw want (j + 1) = (fixTo ls cw want j).set s (gl cw s) := by rw [fixTo, ← HSS.out]
              rw [← hfix] at hset
              have HSET := hid hset
              clear hset hfix
              go_roundw
              case rel => exact ⟨j + 1, _, by omega, by go_num, HSET.out, HCX.out.setCell (p := ⟨G, s, none⟩) (.inl rfl) _⟩
              case measure => simp [intOf]; omega
            · as_aux_lemma =>
              obtain rfl : j = nw := by omega
              have hlt4 : ¬ ((j : Int) < (j : Int)) := by omega
              clear hH hCx
              go_wp2_with fail
              go_ret
              refine ⟨rfl, ⟨vs', ?_⟩, HC07.out.no.trans HCX.out⟩
              rw [← HWE.out, ← HNW.out]
              exact HH8.out
end Go.Proofs.YtpnmmedjamkmeaaGreat
