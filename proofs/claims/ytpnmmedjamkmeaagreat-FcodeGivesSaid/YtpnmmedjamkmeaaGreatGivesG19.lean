/- Walks of Reconstruct, ReconstructData and of the law's chosen. -/
import Derived.WalkSpells
import Derived.Test.YtpnmmedjamkmeaaGreatGivesG18
import Derived.Test.YtpnmmedjamkmeaaGreatGivesG12
import Derived.Test.YtpnmmedjamkmeaaGreatGivesG11
set_option linter.unusedSimpArgs false
set_option linter.unusedVariables false
set_option linter.unusedSimpArgs false
namespace Go.Proofs.YtpnmmedjamkmeaaGreat
open Go.RowKit

set_option maxRecDepth 20000 in
/-- Reconstruct is reconstruct with all numbers. -/
theorem Reconstruct_of {C k m t c : Nat} {p : Option Addr} {w : World} {v : Int} {Q : World → Prop} (hp : prm k (m : Int)) (hc : ∀ w', Chg No w w' → w'.cell? ⟨C, 0, none⟩ = some (.int .i64 (k : Int)) ∧ w'.cell? ⟨C, 1, none⟩ = some (.int .i64 (m : Int)))
    (hQ : ∀ w', Q w' → w'.cell? ⟨C, 0, none⟩ = some (.int .i64 (k : Int)) ∧ w'.cell? ⟨C, 1, none⟩ = some (.int .i64 (m : Int)))
    (H : ∀ w', Chg No w w' → Calls Tryz.prog 35 #[.pointer (some ⟨C, 0, none⟩), .slice p t c, .int .i64 ((k + m : Nat) : Int)] w' fun e w'' => e = .returned (.int .i64 v) ∧ Q w'') :
    Calls Tryz.prog 14 #[.pointer (some ⟨C, 0, none⟩), .slice p t c] w fun e w' => e = .returned (.int .i64 v) ∧ Q w' := by
  obtain ⟨h1, h2, h3, h4, h5⟩ := hp
  rw [show ((k + m : Nat) : Int) = (k : Int) + (m : Int) from by omega] at H
  have H := hid H
  obtain ⟨c0, c1⟩ := hc w (Chg.refl _ _)
  have HQ := hid hQ
  clear hc hQ h5
  have hw : IntKind.i64.wrap ((k : Int) + (m : Int)) = (k : Int) + (m : Int) := IntWalk.i64_in _ (by omega)
  go_enter Tryz.func14, Tryz.ntmps14
  go_wp2_with fail
  go_region_held3 (fun w' => w'.cell? ⟨C, 0, none⟩ = some (.int .i64 (k : Int)) ∧ w'.cell? ⟨C, 1, none⟩ = some (.int .i64 (m : Int)))
    (first
      | exact ⟨c0, c1⟩
      | exact HQ.out _ hQ2
      | assumption)
    (first
      | (go_at_call 35; refine (H.out _ ((Chg.refl No w).drew)).mono ?_; rintro e w2 ⟨rfl, hQ2⟩))
  go_wp2_with fail
  go_ret
  exact ⟨rfl, hQ2⟩
set_option maxRecDepth 20000 in
theorem ReconstructData_of {C k m t c : Nat} {p : Option Addr} {w : World} {v : Int} {Q : World → Prop} (c0 : w.cell? ⟨C, 0, none⟩ = some (.int .i64 (k : Int)))
    (H : Calls Tryz.prog 35 #[.pointer (some ⟨C, 0, none⟩), .slice p t c, .int .i64 (k : Int)] w fun e w'' => e = .returned (.int .i64 v) ∧ Q w'') :
    Calls Tryz.prog 15 #[.pointer (some ⟨C, 0, none⟩), .slice p t c] w fun e w' => e = .returned (.int .i64 v) ∧ Q w' := by
  have H := hid H
  go_enter Tryz.func15, Tryz.ntmps15
  go_wp2_with fail
  refine H.out.mono ?_
  rintro e w2 ⟨rfl, hQ2⟩
  go_wp2_with fail
  go_ret
  exact ⟨rfl, hQ2⟩

theorem cnt_set {n p : Nat} {f : Nat → Bool} (hp : p < n) (hf : f p = false) : cnt n (fun t => if t = p then true else f t) = cnt n f + 1 := by
  have key : ∀ j, j ≤ n → cnt j (fun t => if t = p then true else f t) = cnt j f + (if p < j then 1 else 0) := by
    intro j
    induction j with
    | zero => intro _; rfl
    | succ j ih =>
      intro hj
      rw [cnt_succ, cnt_succ, ih (by omega)]
      by_cases e : j = p
      · subst e; simp [hf]
      · by_cases h : p < j
        · simp only [if_neg e, if_pos h, if_pos (show p < j + 1 by omega)]; omega
        · simp only [if_neg e, if_neg h, if_neg (show ¬ p < j + 1 by omega)]; omega
  rw [key n (Nat.le_refl _), if_pos hp]
theorem cnt_free {n : Nat} {f : Nat → Bool} (h : cnt n f < n) : ∃ p, p < n ∧ f p = false := by
  have h2 := cnt_not n f
  have h3 : 0 < cnt n (fun i => !f i) := by omega
  exact ⟨pk n (fun i => !f i) 0, pk_lt h3, by simpa using pk_is h3⟩
theorem cnt_false (n : Nat) : cnt n (fun _ => false) = 0 := by
  induction n with
  | zero => rfl
  | succ n ih => rw [cnt_succ, ih]; rfl
theorem step_mod {n a p : Nat} (ha : a < n) (hp : p < n) (hne : a ≠ p) : (p + n - (a + 1) % n) % n < (p + n - a) % n := by
  by_cases h : a + 1 = n
  · rw [h, Nat.mod_self, Nat.sub_zero, Nat.add_mod_right, Nat.mod_eq_of_lt hp]
    rw [show p + n - a = p + 1 from by omega, Nat.mod_eq_of_lt (by omega)]; omega
  · rw [Nat.mod_eq_of_lt (show a + 1 < n by omega)]
    by_cases h2 : a < p
    · rw [show p + n - (a + 1) = (p - (a + 1)) + n from by omega, show p + n - a = (p - a) + n from by omega, Nat.add_mod_right, Nat.add_mod_right, Nat.mod_eq_of_lt (by omega), Nat.mod_eq_of_lt (by omega)]; omega
    · rw [Nat.mod_eq_of_lt (by omega), Nat.mod_eq_of_lt (by omega)]; omega
def ChosenPost (t c : Nat) (w : World) (e : Ending) (w' : World) : Prop :=
  ∃ G cl, e = .returned (.slice (some ⟨G, 0, none⟩) t t) ∧ Own w' 4 G (bw cl t) [] ∧ cnt t cl = c ∧ w.heap.size ≤ G ∧ Chg No w w'
set_option maxRecDepth 20000 in
set_option maxHeartbeats 3200000 in
theorem chosen_calls (p : Option Addr) (hn hc t c : Nat) (hs : List Int) (w : World) (hl : Rd w .i64 p hs) (hlen : hs.length = hn) (ht1 : 1 ≤ t) (ht2 : t ≤ 131072) (hct : c ≤ t) :
    Calls Tryz.prog 9 #[.slice p hn hc, .int .i64 (c : Int), .int .i64 (t : Int)] w (ChosenPost t c w) := by
  have HL := hid hl
  have HN := hid hlen
  clear hl hlen
  go_enter Tryz.func9, Tryz.ntmps9
  go_wp2_with (at_make; go_must ((with_reducible refine wpList_mk1 4 (.bool false) 1 t t ?_ ?_ ?_ ?_ ?_ ?_ ?_ ?_); exact ⟨rfl, rfl⟩; exact Tryz.underlying27; kernel_rfl; rfl; omega; omega; (unfold maxLen; omega); intro W1 hO1 hC1 hs1))
  have hO2 : Own W1 4 w.heap.size (bw (fun _ => false) t) [] := by
    rw [bw_false]; simpa [Own] using hO1
  obtain ⟨G, hG⟩ : ∃ G, G = w.heap.size := ⟨_, rfl⟩
  rw [← hG] at hO2 ⊢
  have HGE := hid hG
  clear hO1 hs1 hG
  have HC1 := hid hC1
  clear hC1
  go_loopw [8] (fun i wr => ∃ (j : Nat) (cl : Nat → Bool), j ≤ c ∧ i = .int .i64 (j : Int) ∧ Own wr 4 G (bw cl t) [] ∧ cnt t cl = j ∧ Chg (Only G) W1 wr) (fun i _ => c - (intOf i).toNat)
  case atStart => exact ⟨0, _, by omega, rfl, hO2, cnt_false t, Chg.refl _ _⟩
  case round =>
    clear hO2
    obtain ⟨j, cl, hj, rfl, hO, hcn, hC⟩ := hrel
    obtain ⟨w2, rfl⟩ : ∃ w2 : World, w2 = wr := ⟨_, rfl⟩
    have HO := hid hO
    have HC := hid hC
    clear hO hC
    by_cases hlt : j < c
    · have hlt2 : (j : Int) < (c : Int) := by omega
      have hlt3 : (j : Int) < (t : Int) := by omega
      obtain ⟨q, hq, hqf⟩ := cnt_free (n := t) (f := cl) (by omega)
      have HQ := hid hqf
      have HCN := hid hcn
      clear hqf hcn
      by_cases hjh : j < hn
      · as_aux_lemma =>
        have hjh2 : (j : Int) < (hn : Int) := by omega
        obtain ⟨bh, oh, rfl, hch⟩ := HL.out j (by rw [HN.out]; exact hjh)
        have hch2 := HC.out.cell (HC1.out.cell hch id) (by
          have := World.block_lt_of_cell? w _ hch
          have := HGE.out
          simp only [Only] at *; omega)
        obtain ⟨a0, ha0, hai⟩ := wrapIdx (ga hs j) t (by omega)
        have hw1 : IntKind.i64.wrap ((ga hs j).tmod (t : Int) + (t : Int)) = (ga hs j).tmod (t : Int) + (t : Int) := IntWalk.i64_in _ (by
          have h1 : -(t : Int) < (ga hs j).tmod t := by
            have := Int.lt_tmod_of_pos (ga hs j) (b := (t : Int)) (by omega); omega
          have h2 : (ga hs j).tmod t < (t : Int) := Int.tmod_lt_of_pos (ga hs j) (by omega)
          omega)
        have ht0 : ((t : Int) == 0) = false := by rw [beq_eq_false_iff_ne]; omega
        generalize ga hs j = y at *
        clear hch
        go_wp2_with fail
        go_loopw [9] (fun a wr => ∃ a' : Nat, a' < t ∧ a = .int .i64 (a' : Int) ∧ wr = w2) (fun a _ => (q + t - (intOf a).toNat) % t)
        case atStart => exact ⟨a0, ha0, by rw [← hai], rfl⟩
        case round =>
          obtain ⟨a, ha, rfl, rfl⟩ := hrel
          have hca := HO.out.cell' (bw_get cl t a ha)
          have hcf := HO.out.frozen a
          have ha2 : (a : Int) < (t : Int) := by omega
          cases hcl : cl a with
          | true =>
            as_aux_lemma =>
            rw [hcl] at hca
            have hst := step_mod ha hq (fun e => by rw [e, HQ.out] at hcl; cases hcl)
            have hmd : ((a : Int) + 1).tmod (t : Int) = (((a + 1) % t : Nat) : Int) := by rw [Int.tmod_eq_emod_of_nonneg (by omega)]; simp
            have ht0 : ((t : Int) == 0) = false := by rw [beq_eq_false_iff_ne]; omega
            have hbt : (a + 1) % t < t := Nat.mod_lt _ (by omega)
            generalize (a + 1) % t = b at *
            have HST := hid hst
            clear hst hcl
            go_wp2_with fail
            go_roundw
            case rel => exact ⟨b, hbt, by go_num, by first | rfl | trivial⟩
            case measure => have := HST.out; simpa [intOf] using this
          | false =>
            as_aux_lemma =>
            rw [hcl] at hca
            have hset := HO.out.set (i := a) (by simpa using ha) (.bool true)
            rw [bw_set cl t a true ha] at hset
            have HSET := hid hset
            have hcn2 : Hid (cnt t (fun s => if s = a then true else cl s) = j + 1) := hid (by rw [cnt_set ha hcl, HCN.out])
            clear hset hcl
            go_wp2_with fail
            go_roundw
            case rel => exact ⟨j + 1, _, by omega, by go_num, HSET.out, hcn2.out, HC.out.setCell (p := ⟨G, a, none⟩) (.inl rfl) _⟩
            case measure => simp [intOf]; omega
      · as_aux_lemma =>
        have hjh2 : ¬ ((j : Int) < (hn : Int)) := by omega
        go_wp2_with fail
        go_loopw [9] (fun a wr => ∃ a' : Nat, a' < t ∧ a = .int .i64 (a' : Int) ∧ wr = w2) (fun a _ => (q + t - (intOf a).toNat) % t)
        case atStart => exact ⟨j, by omega, rfl, rfl⟩
        case round =>
          obtain ⟨a, ha, rfl, rfl⟩ := hrel
          have hca := HO.out.cell' (bw_get cl t a ha)
          have hcf := HO.out.frozen a
          have ha2 : (a : Int) < (t : Int) := by omega
          cases hcl : cl a with
          | true =>
            as_aux_lemma =>
            rw [hcl] at hca
            have hst := step_mod ha hq (fun e => by rw [e, HQ.out] at hcl; cases hcl)
            have hmd : ((a : Int) + 1).tmod (t : Int) = (((a + 1) % t : Nat) : Int) := by rw [Int.tmod_eq_emod_of_nonneg (by omega)]; simp
            have ht0 : ((t : Int) == 0) = false := by rw [beq_eq_false_iff_ne]; omega
            have hbt : (a + 1) % t < t := Nat.mod_lt _ (by omega)
            generalize (a + 1) % t = b at *
            have HST := hid hst
            clear hst hcl
            go_wp2_with fail
            go_roundw
            case rel => exact ⟨b, hbt, by go_num, by first | rfl | trivial⟩
            case measure => have := HST.out; simpa [intOf] using this
          | false =>
            as_aux_lemma =>
            rw [hcl] at hca
            have hset := HO.out.set (i := a) (by simpa using ha) (.bool true)
            rw [bw_set cl t a true ha] at hset
            have HSET := hid hset
            have hcn2 : Hid (cnt t (fun s => if s = a then true else cl s) = j + 1) := hid (by rw [cnt_set ha hcl, HCN.out])
            clear hset hcl
            go_wp2_with fail
            go_roundw
            case rel => exact ⟨j + 1, _, by omega, by go_num, HSET.out, hcn2.out, HC.out.setCell (p := ⟨G, a, none⟩) (.inl rfl) _⟩
            case measure => simp [intOf]; omega
    · as_aux_lemma =>
      obtain rfl : j = c := by omega
      have hlt2 : ¬ ((j : Int) < (j : Int)) := by omega
      have HCC : Hid (Chg No w w2) := hid (HC1.out.trans' HC.out fun i hi e => by have := HGE.out; simp only [Only] at e; omega)
      have HCN := hid hcn
      clear hcn
      go_wp2_with fail
      go_ret
      exact ⟨G, cl, rfl, HO.out, HCN.out, by rw [HGE.out]; exact Nat.le_refl _, HCC.out⟩
end Go.Proofs.YtpnmmedjamkmeaaGreat

/- What Reconstruct and ReconstructData do to a codeword of which rows were taken. -/
set_option linter.unusedSimpArgs false
set_option linter.unusedVariables false
set_option linter.unusedSimpArgs false
namespace Go.Proofs.YtpnmmedjamkmeaaGreat
open Go.RowKit

/-- The rows that were not taken. -/
def rowsOf (cw : List (List Nat)) (cl : Nat → Bool) (t : Nat) : List (List Nat) := (List.range t).map fun i => if cl i then [] else gl cw i
@[simp] theorem rowsOf_length (cw : List (List Nat)) (cl : Nat → Bool) (t : Nat) : (rowsOf cw cl t).length = t := by simp [rowsOf]
theorem gl_rowsOf (cw : List (List Nat)) (cl : Nat → Bool) (t i : Nat) (h : i < t) : gl (rowsOf cw cl t) i = if cl i then [] else gl cw i := by
  rw [gl_get _ _ (by simpa using h)]; simp [rowsOf]
structure Cw (k m n t : Nat) (cw : List (List Nat)) : Prop where
  len : cw.length = t
  ln : ∀ i, i < t → (gl cw i).length = n
  byt : Byt cw
theorem cw_of {k m n : Nat} {ds : List (List Nat)} (hd : Ds k n ds) (hp : prm k (m : Int)) : Cw k m n (k + m) (ds ++ par k m n ds) := by
  have hE : Ev (k + m) n (ds ++ par k m n ds) := hd.ev (par_length _ _ _ _) par_mem hp.1 (by have := hp.2.2.1; have := hp.2.2.2.1; omega)
  exact ⟨hE.lt, hE.ln, Byt.app hd.lb byt_par⟩
theorem ho_rows {k m n : Nat} {cw ds : List (List Nat)} {cl : Nat → Bool} (hc : Cw k m n (k + m) cw) (hd : Ds k n ds) (hp : prm k (m : Int)) : Ho (k + m) n (rowsOf cw cl (k + m)) where
  lt := by simp
  ln := fun i hi => by
    rw [gl_rowsOf _ _ _ _ hi]
    cases cl i with
    | true => exact .inl rfl
    | false => exact .inr (hc.ln i hi)
  even := hd.even
  small := hd.small
  pos := hd.pos
  tpos := by have := hp.1; omega
  tsmall := by have := hp.2.2.1; have := hp.2.2.2.1; omega
theorem byt_rows {k m n t : Nat} {cw : List (List Nat)} {cl : Nat → Bool} (hc : Cw k m n t cw) : Byt (rowsOf cw cl t) := by
  intro i b
  by_cases hi : i < t
  · rw [gl_rowsOf _ _ _ _ hi]
    cases cl i with
    | true => simp [gn]
    | false => exact hc.byt i b
  · rw [gl_out _ _ (by simp; omega)]; simp [gn]
theorem em_rows {k m n t : Nat} {cw : List (List Nat)} {cl : Nat → Bool} (hc : Cw k m n t cw) (hn : 1 ≤ n) : em (rowsOf cw cl t) t = pick t cl := by
  unfold em pick
  refine List.filter_congr fun i hi => ?_
  have hi := List.mem_range.1 hi
  rw [gl_rowsOf _ _ _ _ hi]
  cases h : cl i with
  | true => rfl
  | false => have h2 := hc.ln i hi; simp only [Bool.false_eq_true, if_false, decide_eq_false_iff_not]; omega
theorem em_rows_len {k m n t : Nat} {cw : List (List Nat)} {cl : Nat → Bool} (hc : Cw k m n t cw) (hn : 1 ≤ n) : (em (rowsOf cw cl t) t).length = cnt t cl := by rw [em_rows hc hn]; rfl
theorem mem_pick {n i : Nat} {p : Nat → Bool} : i ∈ pick n p ↔ i < n ∧ p i = true := by unfold pick; rw [List.mem_filter, List.mem_range]
/-- What is there behind reconstruct. -/
theorem fix_rows {k m n t lim : Nat} {cw : List (List Nat)} {cl : Nat → Bool} (hc : Cw k m n t cw) (hn : 1 ≤ n) :
    fixTo (rowsOf cw cl t) cw (wantOf (em (rowsOf cw cl t) t) lim) (wantOf (em (rowsOf cw cl t) t) lim).length = rowsOf cw (fun i => cl i && decide (lim ≤ i)) t := by
  rw [em_rows hc hn]
  refine ext_gl (by simp) fun i hi => ?_
  rw [fixTo_length, rowsOf_length] at hi
  rw [gl_fixTo (fun j hj => by rw [rowsOf_length]; exact (mem_pick.1 (mem_wantOf.1 hj).1).1) i _ (Nat.le_refl _), List.take_length, gl_rowsOf _ _ _ _ hi, gl_rowsOf _ _ _ _ hi]
  by_cases h : i ∈ wantOf (pick t cl) lim
  · obtain ⟨h1, h2⟩ := mem_wantOf.1 h
    rw [if_pos h, if_neg (by simp; intro _; omega)]
  · rw [if_neg h]
    cases hcl : cl i with
    | false => simp
    | true =>
      have : lim ≤ i := by
        apply Nat.le_of_not_lt; intro hl
        exact h (mem_wantOf.2 ⟨mem_pick.2 ⟨hi, hcl⟩, hl⟩)
      simp [this]
theorem rows_none {cw : List (List Nat)} {cl : Nat → Bool} {t : Nat} (h : cw.length = t) (hf : ∀ i, i < t → cl i = false) : rowsOf cw cl t = cw := by
  refine ext_gl (by simp [h]) fun i hi => ?_
  rw [rowsOf_length] at hi
  rw [gl_rowsOf _ _ _ _ hi, hf i hi]; simp
theorem reconstruct_calls (fast : Bool) (B : Nat → Prop) (C k m r W T K n c lim G : Nat) (ds : List (List Nat)) (cl : Nat → Bool) (vs r0 : List Value) (w : World) (hc : Cd w fast C k m r W T K)
    (hh : Hr w B G (rowsOf (ds ++ par k m n ds) cl (k + m)) vs r0) (hB : ∀ b, B b → b < w.heap.size) (hd : Ds k n ds) (hn : cnt (k + m) cl ≤ m) :
    Calls Tryz.prog 35 #[.pointer (some ⟨C, 0, none⟩), .slice (some ⟨G, 0, none⟩) (k + m) c, .int .i64 (lim : Int)] w fun e w' =>
      e = .returned (.int .i64 0) ∧ (∃ vs', Hr w' B G (rowsOf (ds ++ par k m n ds) (fun i => cl i && decide (lim ≤ i)) (k + m)) vs' r0) ∧ Chg (Only G) w w' := by
  have hw := cw_of hd hc.prm
  have ho := ho_rows (cl := cl) hw hd hc.prm
  have hel := em_rows_len (cl := cl) hw hd.pos
  have key : Calls Tryz.prog 35 #[.pointer (some ⟨C, 0, none⟩), .slice (some ⟨G, 0, none⟩) (k + m) c, .int .i64 (lim : Int)] w
      (RecPost B G r0 (rowsOf (ds ++ par k m n ds) cl (k + m)) (ds ++ par k m n ds) (wantOf (em (rowsOf (ds ++ par k m n ds) cl (k + m)) (k + m)) lim) w) := by
    by_cases h0 : (em (rowsOf (ds ++ par k m n ds) cl (k + m)) (k + m)).length = 0
    · exact rec_whole fast B C k m r W T K n c (k + m) lim G _ _ vs r0 w hc hh rfl ho (List.eq_nil_of_length_eq_zero h0)
    · have hcw : ∀ s, s < k + m → (gl (rowsOf (ds ++ par k m n ds) cl (k + m)) s).length ≠ 0 → gl (rowsOf (ds ++ par k m n ds) cl (k + m)) s = gl (ds ++ par k m n ds) s := fun s hs h => by
        rw [gl_rowsOf _ _ _ _ hs] at h ⊢
        cases hcl : cl s with
        | true => rw [hcl] at h; exact absurd rfl h
        | false => rfl
      have hrow := fun i hi => rec_row (i := i) rfl ho (byt_rows hw) hc.prm hc.hr (by rw [hel]; exact hn) hd hcw hi
      cases fast with
      | false => exact rec_some_false B C k m r W T K n c (k + m) lim G _ _ vs r0 w hc hh hB rfl ho (byt_rows hw) (by rw [hel]; exact hn) h0 hrow
      | true => exact rec_some_true B C k m r W T K n c (k + m) lim G _ _ vs r0 w hc hh hB rfl ho (byt_rows hw) (by rw [hel]; exact hn) h0 hrow
  refine key.mono fun e w' h => ?_
  unfold RecPost at h
  rw [fix_rows hw hd.pos] at h
  exact h
theorem Rec_ok (fast : Bool) (B : Nat → Prop) (C k m r W T K n c G : Nat) (ds : List (List Nat)) (cl : Nat → Bool) (vs r0 : List Value) (w : World) (hc : Cd w fast C k m r W T K)
    (hh : Hr w B G (rowsOf (ds ++ par k m n ds) cl (k + m)) vs r0) (hB : ∀ b, B b → b < w.heap.size) (hd : Ds k n ds) (hn : cnt (k + m) cl ≤ m) (hCG : C ≠ G) :
    Calls Tryz.prog 14 #[.pointer (some ⟨C, 0, none⟩), .slice (some ⟨G, 0, none⟩) (k + m) c] w fun e w' =>
      e = .returned (.int .i64 0) ∧ (∃ vs', Hr w' B G (ds ++ par k m n ds) vs' r0) ∧ Chg (Only G) w w' := by
  have hw := cw_of hd hc.prm
  refine Reconstruct_of (k := k) (m := m) (Q := fun w' => (∃ vs', Hr w' B G (ds ++ par k m n ds) vs' r0) ∧ Chg (Only G) w w') hc.prm (fun w' h => ⟨(hc.keptNo h).c0, (hc.keptNo h).c1⟩) (fun w' h => ⟨h.2.cell hc.c0 hCG, h.2.cell hc.c1 hCG⟩) fun w' h => ?_
  refine (reconstruct_calls fast B C k m r W T K n c (k + m) G ds cl vs r0 w' (hc.keptNo h) (hh.keptNo h) (fun b hb => Nat.lt_of_lt_of_le (hB b hb) h.size) hd hn).mono fun e w'' => ?_
  rintro ⟨he, ⟨vs', hv⟩, h2⟩
  rw [rows_none (cl := fun i => cl i && decide (k + m ≤ i)) hw.len (fun i hi => by simp; intro _; omega)] at hv
  exact ⟨he, ⟨vs', hv⟩, h.no.trans h2⟩
theorem RecData_ok (fast : Bool) (B : Nat → Prop) (C k m r W T K n c G : Nat) (ds : List (List Nat)) (cl : Nat → Bool) (vs r0 : List Value) (w : World) (hc : Cd w fast C k m r W T K)
    (hh : Hr w B G (rowsOf (ds ++ par k m n ds) cl (k + m)) vs r0) (hB : ∀ b, B b → b < w.heap.size) (hd : Ds k n ds) (hn : cnt (k + m) cl ≤ m) :
    Calls Tryz.prog 15 #[.pointer (some ⟨C, 0, none⟩), .slice (some ⟨G, 0, none⟩) (k + m) c] w fun e w' =>
      e = .returned (.int .i64 0) ∧ (∃ vs', Hr w' B G (rowsOf (ds ++ par k m n ds) (fun i => cl i && decide (k ≤ i)) (k + m)) vs' r0) ∧ Chg (Only G) w w' :=
  ReconstructData_of (k := k) (m := m) (Q := fun w' => (∃ vs', Hr w' B G (rowsOf (ds ++ par k m n ds) (fun i => cl i && decide (k ≤ i)) (k + m)) vs' r0) ∧ Chg (Only G) w w') hc.c0
    (reconstruct_calls fast B C k m r W T K n c k G ds cl vs r0 w hc hh hB hd hn)
/-- What is answered when too many are gone. -/
def gone (t cn : Nat) : Int := if cn = t then 161 else 9
theorem reconstruct_no (fast : Bool) (C k m r W T K n c lim : Nat) (p : Option Addr) (ds : List (List Nat)) (cl : Nat → Bool) (w : World) (hc : Cd w fast C k m r W T K)
    (hl : Lr w .u8 p (rowsOf (ds ++ par k m n ds) cl (k + m))) (hd : Ds k n ds) (hn : m < cnt (k + m) cl) :
    Calls Tryz.prog 35 #[.pointer (some ⟨C, 0, none⟩), .slice p (k + m) c, .int .i64 (lim : Int)] w fun e w' => e = .returned (.int .i64 (gone (k + m) (cnt (k + m) cl))) ∧ Chg No w w' := by
  have hw := cw_of hd hc.prm
  have ho := ho_rows (cl := cl) hw hd hc.prm
  have hel := em_rows_len (cl := cl) hw hd.pos
  have hle := em_le (rowsOf (ds ++ par k m n ds) cl (k + m)) (k + m)
  rw [← hel] at hn ⊢
  unfold gone
  by_cases h : (em (rowsOf (ds ++ par k m n ds) cl (k + m)) (k + m)).length = k + m
  · rw [if_pos h]
    exact rec_none fast C k m r W T K n c (k + m) lim p _ w hc hl rfl ho h
  · rw [if_neg h]
    exact rec_few fast C k m r W T K n c (k + m) lim p _ w hc hl rfl ho hn (by omega)
theorem Rec_no (fast : Bool) (C k m r W T K n c : Nat) (p : Option Addr) (ds : List (List Nat)) (cl : Nat → Bool) (w : World) (hc : Cd w fast C k m r W T K)
    (hl : Lr w .u8 p (rowsOf (ds ++ par k m n ds) cl (k + m))) (hd : Ds k n ds) (hn : m < cnt (k + m) cl) :
    Calls Tryz.prog 14 #[.pointer (some ⟨C, 0, none⟩), .slice p (k + m) c] w fun e w' => e = .returned (.int .i64 (gone (k + m) (cnt (k + m) cl))) ∧ Chg No w w' :=
  Reconstruct_of (k := k) (m := m) (Q := fun w' => Chg No w w') hc.prm (fun w' h => ⟨(hc.keptNo h).c0, (hc.keptNo h).c1⟩) (fun w' h => ⟨h.cell hc.c0 id, h.cell hc.c1 id⟩) fun w' h =>
    (reconstruct_no fast C k m r W T K n c (k + m) p ds cl w' (hc.keptNo h) (hl.keptNo h) hd hn).mono fun _ _ h2 => ⟨h2.1, h.trans h2.2⟩
theorem RecData_no (fast : Bool) (C k m r W T K n c : Nat) (p : Option Addr) (ds : List (List Nat)) (cl : Nat → Bool) (w : World) (hc : Cd w fast C k m r W T K)
    (hl : Lr w .u8 p (rowsOf (ds ++ par k m n ds) cl (k + m))) (hd : Ds k n ds) (hn : m < cnt (k + m) cl) :
    Calls Tryz.prog 15 #[.pointer (some ⟨C, 0, none⟩), .slice p (k + m) c] w fun e w' => e = .returned (.int .i64 (gone (k + m) (cnt (k + m) cl))) ∧ Chg No w w' :=
  ReconstructData_of (k := k) (m := m) (Q := fun w' => Chg No w w') hc.c0 (reconstruct_no fast C k m r W T K n c k p ds cl w hc hl hd hn)
end Go.Proofs.YtpnmmedjamkmeaaGreat

/- Walks of bytes.Clone, shape.Fresh, the codec's fresh. -/
set_option linter.unusedSimpArgs false
set_option linter.unusedVariables false
set_option linter.unusedSimpArgs false
namespace Go.Proofs.YtpnmmedjamkmeaaGreat
open Go.RowKit

/-- A row's cells, for a copy of it. -/
theorem Rn.src {w : World} {k : IntKind} {b off : Nat} {l : List Nat} (h : Rn w k (some ⟨b, off, none⟩) l) : ∀ j u, (nv k l)[j]? = some u → w.cell? ((⟨b, off, none⟩ : Addr).add j) = some u := by
  intro j u hu
  have hjl : j < l.length := by
    have := (List.getElem?_eq_some_iff.1 hu).1
    simpa using this
  obtain ⟨b2, off2, he, hc⟩ := h j hjl
  obtain ⟨rfl, rfl⟩ : b = b2 ∧ off = off2 := by simpa using he
  have hadd : (⟨b, off, none⟩ : Addr).add j = ⟨b, off + j, none⟩ := by unfold Addr.add; split <;> simp_all
  rw [hadd, hc, ← nv_get? _ _ _ hjl, hu]
/-- What a copy leaves. -/
def ClonePost (l : List Nat) (n : Nat) (w : World) (e : Ending) (w' : World) : Prop :=
  ∃ g rest, e = .returned (.slice (some ⟨g, 0, none⟩) n (n + rest.length)) ∧ Own w' 5 g (nv .u8 l) rest ∧ w.heap.size ≤ g ∧ Chg No w w'
set_option maxRecDepth 20000 in
theorem Clone_calls (p : Option Addr) (n c : Nat) (l : List Nat) (w : World) (hr : Rn w .u8 p l) (hl : l.length = n) (h0 : 0 < n) (hm : n ≤ 140737488355328) :
    Calls Tryz.prog 41 #[.slice p n c] w (ClonePost l n w) := by
  obtain ⟨b, off, rfl, _⟩ := hr.at0 (by omega)
  have HS := hid (fun (W : World) (h : Chg No w W) => (hr.keptNo h).src)
  have HER := hid (emptyRow w 5)
  have HL := hid hl
  have hnn : ∀ W, (binOp BinOp.eql 35 (Value.slice (some ⟨b, off, none⟩) n c) (.slice none 0 0)).run Tryz.prog W = .ok (.bool false) W := fun W => by
    have := Lib.run_eql_slice_nil (P := Tryz.prog) W 35 5 (some ⟨b, off, none⟩) n c 0 0 Tryz.underlying35
    simpa using this
  clear hr hl
  go_enter Tryz.func41, Tryz.ntmps41
  go_wp2_with (at_builtin; go_must ((with_reducible refine wpList_app HER.out ⟨b, off, none⟩ (nv .u8 l) ?_ (.int .u8 0) n c 1 ?_ ?_ ?_ ?_ ?_ ?_ ?_ ?_ ?_ ?_); exact HS.out _ ((Chg.refl _ _).alloc _); exact ⟨rfl, rfl⟩; (rw [nv_length]; exact HL.out); exact Tryz.underlying35; kernel_rfl; rfl; exact nv_one; (unfold maxLen; omega); omega; (simp); intro v2 W2 hO2 hg2))
  rcases own_of_ownsRow hO2 with ⟨_, h1, _⟩ | ⟨g2, cap2, rest2, hv2, hb2, hOg, hlg, hcg, hmg⟩
  · omega
  · subst hv2
    rw [List.nil_append] at hOg
    have hC2 : Chg No w W2 := ((Chg.refl No w).alloc (.cells #[] 5)).grown hg2 (fun k hk => .inr (by simp only [Value.ownBlock, Option.some.injEq] at hk; omega))
    rw [Nat.zero_add] at hcg ⊢
    subst hcg
    have HOG := hid hOg
    have HC2 := hid hC2
    have HB2 := hid hb2
    clear hO2 hg2 hOg hC2 hb2 hlg hmg
    go_wp2_with fail
    go_ret
    exact ⟨g2, rest2, rfl, HOG.out, HB2.out, HC2.out⟩
/-- A list of whole numbers that the code has made since base. -/
def IntsV (w : World) (base : Nat) (v : Value) (l : List Nat) : Prop := w.ownsRow base 3 1 v l.length (nv .i64 l)
theorem IntsV.nil (w : World) (base : Nat) : IntsV w base (.slice none 0 0) [] := ⟨rfl, .inl ⟨rfl, rfl⟩⟩
theorem IntsV.cases {w : World} {base : Nat} {v : Value} {l : List Nat} (h : IntsV w base v l) : (v = .slice none 0 0 ∧ l = []) ∨
    ∃ g rest, v = .slice (some ⟨g, 0, none⟩) l.length (l.length + rest.length) ∧ base ≤ g ∧ Own w 3 g (nv .i64 l) rest := by
  rcases own_of_ownsRow h with ⟨rfl, h0, _⟩ | ⟨g, cap, rest, rfl, hb, hO, _, hc, _⟩
  · exact .inl ⟨rfl, List.eq_nil_of_length_eq_zero h0⟩
  · exact .inr ⟨g, rest, by rw [hc], hb, hO⟩
theorem IntsV.keptNo {w w' : World} {base : Nat} {v : Value} {l : List Nat} (h : IntsV w base v l) (hc : Chg No w w') : IntsV w' base v l := by
  unfold IntsV at h ⊢
  rcases own_of_ownsRow h with ⟨rfl, h0, h1⟩ | ⟨g, cap, rest, rfl, hb, hO, h2, hc2, hm⟩
  · exact ⟨by simp, .inl ⟨rfl, h0⟩⟩
  · exact ownsRow_of_own (hO.keptNo hc) hb h2 hc2 hm
/-- Which of the fresh shards are there. -/
def givenL (i : Nat) (fs : List (List Nat)) : List Nat := pick i fun i => decide (0 < (gl fs i).length)
theorem givenL_succ (i : Nat) (fs : List (List Nat)) : givenL (i + 1) fs = givenL i fs ++ (if 0 < (gl fs i).length then [i] else []) := by
  unfold givenL; rw [pick_succ]; simp
theorem givenL_le (i : Nat) (fs : List (List Nat)) : (givenL i fs).length ≤ i := by
  have := cnt_not i (fun i => decide (0 < (gl fs i).length))
  unfold givenL; unfold cnt at this; omega
/-- Fresh shards: k of them, each empty or of the length n. -/
structure Fr (k n : Nat) (fs : List (List Nat)) : Prop where
  lk : fs.length = k
  ln : ∀ i, i < k → (gl fs i).length = 0 ∨ (gl fs i).length = n
  lb : Byt fs
/-- What Fresh tells. -/
def FreshPost (n : Nat) (l : List Nat) (w : World) (e : Ending) (w' : World) : Prop :=
  ∃ v, e = .returned (.tuple #[.int .i64 (n : Int), v, .int .i64 0]) ∧ IntsV w' w.heap.size v l ∧ Chg No w w'

set_option maxRecDepth 20000 in
set_option maxHeartbeats 1600000 in
theorem Fresh_yes (p q : Option Addr) (k m n c c2 t : Nat) (ls fs : List (List Nat)) (w : World) (hl : Lr w .u8 p ls) (ht : t = k + m) (hd : Ev t n ls) (hp : prm k (m : Int)) (hf : Lr w .u8 q fs) (hfr : Fr k n fs) :
    Calls Tryz.prog 74 #[.int .i64 2, .int .i64 (k : Int), .int .i64 (m : Int), .slice p t c, .slice q k c2] w (FreshPost n (givenL k fs) w) := by
  have H1 := hid (counted_yes k m t p c hp ht w)
  have H2 := hid (lengths_even p t n c ls w hl hd)
  have H3 := hid (odd_no n hd.even)
  have HF := hid hf
  have HR := hid hfr
  have hn := hd.small
  have hn1 := hd.pos
  have hk := hp.2.2.1
  clear hl hd hp ht hf hfr
  go_enter Tryz.func74, Tryz.ntmps74
  go_wp2_with fail
  refine H1.out.mono ?_
  rintro e w1 ⟨rfl, rfl⟩
  go_wp2_with fail
  refine H2.out.mono ?_
  rintro e w1 ⟨rfl, rfl⟩
  go_wp2_with fail
  go_loopw [17, 16, 43] (fun v ev i wr => ∃ i' : Nat, i' ≤ k ∧ i = .int .i64 (i' : Int) ∧ ev = .bool true ∧ IntsV wr w1.heap.size v (givenL i' fs) ∧ Chg No w1 wr) (fun _ _ i _ => k - (intOf i).toNat)
  case atStart => exact ⟨0, by omega, rfl, rfl, IntsV.nil _ _, Chg.refl _ _⟩
  case round =>
    obtain ⟨i, hi, rfl, rfl, hv, hC⟩ := hrel
    obtain ⟨w2, rfl⟩ : ∃ w2 : World, w2 = wr := ⟨_, rfl⟩
    have HV := hid hv
    have HC := hid hC
    clear hv hC
    by_cases hil : i < k
    · obtain ⟨b, o, q1, cc, rfl, hc1, _, _⟩ := (HF.out.keptNo HC.out) i (by rw [HR.out.lk]; exact hil)
      have hgs := givenL_succ i fs
      have hgl := givenL_le i fs
      rcases HR.out.ln i hil with h0 | h0
      · rw [h0] at hc1 hgs
        rw [if_neg (by omega), List.append_nil] at hgs
        have HG := hid hgs
        clear h0 hgs
        go_wp2_with fail
        go_roundw
        case rel => exact ⟨i + 1, by omega, by go_num, rfl, by rw [HG.out]; exact HV.out, HC.out⟩
        case measure => simp [intOf]; omega
      · rw [h0] at hc1 hgs
        rw [if_pos (by omega)] at hgs
        have HG := hid hgs
        have HVA := hid (HV.out.keptNo ((Chg.refl No w2).alloc (.cells #[.int .i64 (i : Int)] 3)))
        have hown := HVA.out
        unfold IntsV at hown
        have HOWN := hid hown
        have HSZ := hid HC.out.size
        have hnn : ((n : Int) == (n : Int)) = true := by simp
        obtain ⟨ln, hln⟩ : ∃ ln, (givenL i fs).length = ln := ⟨_, rfl⟩
        rw [hln] at HOWN hgl
        have HLN := hid hln
        clear h0 hgs hown hln
        go_wp2_with (at_builtin; go_must ((with_reducible refine wpList_app HOWN.out ⟨w2.heap.size, 0, none⟩ [.int .i64 (i : Int)] ?_ (.int .i64 0) 1 1 8 ?_ ?_ ?_ ?_ ?_ ?_ ?_ ?_ ?_ ?_); exact (Own.lit1 w2 3 _).addCell; exact ⟨rfl, rfl⟩; rfl; exact Tryz.underlying23; kernel_rfl; rfl; (intro u hu; simp at hu; subst hu; rfl); (unfold maxLen; omega); omega; (have := HSZ.out; simp; omega); intro v3 W3 hO3 hg3))
        have hv3 : IntsV W3 w1.heap.size v3 (givenL (i + 1) fs) := by
          unfold IntsV
          rw [HG.out, List.length_append, HLN.out, nv_append]
          exact hO3
        have hC3 : Chg No w1 W3 := (HC.out.alloc _).grown hg3 (fun x hx => by
          rcases HV.out.cases with ⟨e, _⟩ | ⟨g, rest, e, hb, _⟩
          · rw [e] at hx; simp [Value.ownBlock] at hx
          · rw [e] at hx; simp only [Value.ownBlock, Option.some.injEq] at hx; right; omega)
        have HV3 := hid hv3
        have HC3 := hid hC3
        clear hv3 hC3 hO3 hg3
        go_wp2_with fail
        go_roundw
        case rel => exact ⟨i + 1, by omega, by go_num, rfl, HV3.out, HC3.out⟩
        case measure => simp [intOf]; omega
    · obtain rfl : i = k := by omega
      go_wp2_with fail
      refine (H3.out _).mono ?_
      rintro e w3 ⟨rfl, rfl⟩
      go_wp2_with fail
      go_ret3
      exact ⟨_, rfl, HV.out, HC.out⟩
end Go.Proofs.YtpnmmedjamkmeaaGreat

/- Walks: the codec's fresh. -/
set_option linter.unusedSimpArgs false
set_option linter.unusedVariables false
set_option linter.unusedSimpArgs false
namespace Go.Proofs.YtpnmmedjamkmeaaGreat
open Go.RowKit

theorem IntsV.old {w : World} {a b : Nat} {v : Value} {l : List Nat} (h : IntsV w b v l) (hab : a ≤ b) : IntsV w a v l := by
  rcases own_of_ownsRow h with ⟨rfl, h0, h1⟩ | ⟨g, cap, rest, rfl, hb, hO, h2, hc2, hm⟩
  · exact ⟨by simp, .inl ⟨rfl, h0⟩⟩
  · exact ownsRow_of_own hO (by omega) h2 hc2 hm
set_option maxRecDepth 20000 in
theorem fresh_none (C k m r W T K n c c2 t : Nat) (fast : Bool) (p q : Option Addr) (ls fs : List (List Nat)) (w : World) (hc : Cd w fast C k m r W T K) (hl : Lr w .u8 p ls) (ht : t = k + m) (hd : Ev t n ls) (hf : Lr w .u8 q fs) (hfr : Fr k n fs) :
    Calls Tryz.prog 39 #[.pointer (some ⟨C, 0, none⟩), .slice p t c, .slice q k c2, .pointer none] w (FreshPost n (givenL k fs) w) := by
  have HW := hid (fun w h h2 => Fresh_yes p q k m n c c2 t ls fs w h ht hd hc.prm h2 hfr)
  unfold FreshPost at HW
  have HL := hid hl
  have HF := hid hf
  have c0 := hc.c0
  have c1 := hc.c1
  clear hc hl hd ht hf hfr
  go_enter Tryz.func39, Tryz.ntmps39
  go_wp2_with fail
  go_region_held3 (fun w' => Chg No w w' ∧ w'.cell? ⟨C, 0, none⟩ = some (.int .i64 (k : Int)) ∧ w'.cell? ⟨C, 1, none⟩ = some (.int .i64 (m : Int)))
    (first
      | exact ⟨(Chg.refl No w).drew, c0, c1⟩
      | assumption
      | exact ⟨((Chg.refl No w).drew).trans hC5, hC5.cell c0 id, hC5.cell c1 id⟩)
    (first | (go_at_call 74; refine (HW.out _ (HL.out.keptNo ((Chg.refl No w).drew)) (HF.out.keptNo ((Chg.refl No w).drew))).mono ?_; rintro e w5 ⟨v5, rfl, hV5, hC5⟩))
  have HV5 := hid hV5
  have HC5 := hid (((Chg.refl No w).drew).trans hC5)
  clear hV5 hC5 c0 c1
  go_wp2_with fail
  go_ret3
  exact ⟨v5, rfl, HV5.out, HC5.out⟩
set_option maxRecDepth 20000 in
theorem fresh_span (C k m r W T K n c c2 t S a b : Nat) (fast : Bool) (p q : Option Addr) (ls fs : List (List Nat)) (w : World) (hc : Cd w fast C k m r W T K) (hl : Lr w .u8 p ls) (ht : t = k + m) (hd : Ev t n ls) (hf : Lr w .u8 q fs) (hfr : Fr k n fs)
    (hs : Own w 51 S [.int .i64 (a : Int), .int .i64 (b : Int)] []) (hsp : Sp a b n) :
    Calls Tryz.prog 39 #[.pointer (some ⟨C, 0, none⟩), .slice p t c, .slice q k c2, .pointer (some ⟨S, 0, none⟩)] w (FreshPost n (givenL k fs) w) := by
  have HW := hid (fun w h h2 => Fresh_yes p q k m n c c2 t ls fs w h ht hd hc.prm h2 hfr)
  have HI := hid (within_yes a b n hsp hd.small)
  unfold FreshPost at HW
  have HL := hid hl
  have HF := hid hf
  have HS := hid hs
  have c0 := hc.c0
  have c1 := hc.c1
  clear hc hl hd ht hf hfr hs hsp
  go_enter Tryz.func39, Tryz.ntmps39
  go_wp2_with fail
  go_region_held3 (fun w' => Chg No w w' ∧ w'.cell? ⟨C, 0, none⟩ = some (.int .i64 (k : Int)) ∧ w'.cell? ⟨C, 1, none⟩ = some (.int .i64 (m : Int)))
    (first
      | exact ⟨(Chg.refl No w).drew, c0, c1⟩
      | assumption
      | exact ⟨((Chg.refl No w).drew).trans hC5, hC5.cell c0 id, hC5.cell c1 id⟩)
    (first | (go_at_call 74; refine (HW.out _ (HL.out.keptNo ((Chg.refl No w).drew)) (HF.out.keptNo ((Chg.refl No w).drew))).mono ?_; rintro e w5 ⟨v5, rfl, hV5, hC5⟩))
  have HV5 := hid hV5
  have HC5 := hid (((Chg.refl No w).drew).trans hC5)
  have hS5 := HS.out.keptNo HC5.out
  have s0 : w5.cell? ⟨S, 0, none⟩ = some (.int .i64 (a : Int)) := hS5.cell (i := 0) (by simp)
  have s1 : w5.cell? ⟨S, 1, none⟩ = some (.int .i64 (b : Int)) := hS5.cell (i := 1) (by simp)
  clear hV5 hC5 c0 c1 hS5
  unfold spanV at HI
  go_wp2_with fail
  refine (HI.out _).mono ?_
  rintro e w6 ⟨rfl, hC6⟩
  have HV6 := hid (HV5.out.keptNo hC6)
  have HC6 := hid (HC5.out.trans hC6)
  clear hC6
  go_wp2_with fail
  go_ret3
  exact ⟨v5, rfl, HV6.out, HC6.out⟩
end Go.Proofs.YtpnmmedjamkmeaaGreat

/- The plain part of UpdateSpan: differences, rows added to. -/
set_option linter.unusedSimpArgs false
set_option linter.unusedVariables false
set_option linter.unusedSimpArgs false
namespace Go.Proofs.YtpnmmedjamkmeaaGreat
open Go.RowKit

/-- A row's span. -/
def cut1 (a b : Nat) (l : List Nat) : List Nat := (l.drop a).take (b - a)
theorem cut1_length {a b : Nat} {l : List Nat} (h : b ≤ l.length) : (cut1 a b l).length = b - a := by
  unfold cut1; rw [List.length_take, List.length_drop]; omega
theorem gn_cut1 {a b : Nat} {l : List Nat} {i : Nat} (h : a + i < b) (hb : b ≤ l.length) : gn (cut1 a b l) i = gn l (a + i) := gn_cut h hb
/-- Two rows' sum. -/
def xl (x y : List Nat) : List Nat := (List.range x.length).map fun t => gn x t ^^^ gn y t
@[simp] theorem xl_length (x y : List Nat) : (xl x y).length = x.length := by simp [xl]
theorem gn_xl (x y : List Nat) (i : Nat) (h : i < x.length) : gn (xl x y) i = gn x i ^^^ gn y i := by
  rw [gn_get _ _ (by simpa using h)]; simp [xl]
theorem xl_lt {x y : List Nat} (hx : ∀ i, gn x i < 256) (hy : ∀ i, gn y i < 256) (i : Nat) : gn (xl x y) i < 256 := by
  by_cases h : i < x.length
  · rw [gn_xl _ _ _ h]; exact Nat.xor_lt_two_pow (n := 8) (hx i) (hy i)
  · rw [gn_out _ _ (by simpa using h)]; omega
/-- A row to which n bytes of p have been added from the place a on. -/
def rowX (a n : Nat) (d p : List Nat) : List Nat := (List.range d.length).map fun i => if a ≤ i ∧ i < a + n then gn d i ^^^ gn p (i - a) else gn d i
@[simp] theorem rowX_length (a n : Nat) (d p : List Nat) : (rowX a n d p).length = d.length := by simp [rowX]
theorem gn_rowX (a n : Nat) (d p : List Nat) (i : Nat) (h : i < d.length) : gn (rowX a n d p) i = if a ≤ i ∧ i < a + n then gn d i ^^^ gn p (i - a) else gn d i := by
  rw [gn_get _ _ (by simpa using h)]; simp [rowX]
theorem rowX_zero (a : Nat) (d p : List Nat) : rowX a 0 d p = d := by
  refine ext_gn (by simp) fun i hi => ?_
  rw [rowX_length] at hi
  rw [gn_rowX _ _ _ _ _ hi, if_neg (by omega)]
theorem rowX_set (a n : Nat) (d p : List Nat) (h : a + n < d.length) : (rowX a n d p).set (a + n) (gn d (a + n) ^^^ gn p n) = rowX a (n + 1) d p := by
  refine ext_gn (by simp) fun i hi => ?_
  rw [List.length_set, rowX_length] at hi
  rw [gn_set _ _ _ _ (by simpa using h), gn_rowX _ _ _ _ _ hi, gn_rowX _ _ _ _ _ hi]
  by_cases e : i = a + n
  · subst e; rw [if_pos rfl, if_pos (by omega), Nat.add_sub_cancel_left]
  · rw [if_neg e]
    by_cases c : a ≤ i ∧ i < a + n
    · rw [if_pos c, if_pos (by omega)]
    · rw [if_neg c, if_neg (by omega)]
theorem rowX_old (a n : Nat) (d p : List Nat) (h : a + n < d.length) : gn (rowX a n d p) (a + n) = gn d (a + n) := by
  rw [gn_rowX _ _ _ _ _ h, if_neg (by omega)]
theorem rowX_all (d p : List Nat) : rowX 0 d.length d p = xl d p := by
  refine ext_gn (by simp) fun i hi => ?_
  rw [rowX_length] at hi
  rw [gn_rowX _ _ _ _ _ hi, gn_xl _ _ _ hi, if_pos (by omega), Nat.sub_zero]
theorem rowX_spl {a b : Nat} {d p : List Nat} (hab : a ≤ b) (hb : b ≤ d.length) : rowX a (b - a) d p = spl a b (xl (cut1 a b d) p) d := by
  have hl : (xl (cut1 a b d) p).length = b - a := by rw [xl_length, cut1_length hb]
  refine ext_gn (by rw [rowX_length, spl_length hl hab hb]) fun i hi => ?_
  rw [rowX_length] at hi
  rw [gn_rowX _ _ _ _ _ hi, gn_spl hl hab hb]
  by_cases c : a ≤ i ∧ i < b
  · rw [if_pos (by omega), if_pos c, gn_xl _ _ _ (by rw [cut1_length hb]; omega), gn_cut1 (by omega) hb, show a + (i - a) = i from by omega]
  · rw [if_neg (by omega), if_neg c]
/-- The difference that a fresh shard makes within a span: none where it is empty. -/
def dif (a b : Nat) (ls fs : List (List Nat)) (i : Nat) : List Nat := if 0 < (gl fs i).length then xl (cut1 a b (gl ls i)) (cut1 a b (gl fs i)) else List.replicate (b - a) 0
def difs (k a b : Nat) (ls fs : List (List Nat)) : List (List Nat) := (List.range k).map (dif a b ls fs)
theorem gl_difs (k a b : Nat) (ls fs : List (List Nat)) (i : Nat) (h : i < k) : gl (difs k a b ls fs) i = dif a b ls fs i := by
  rw [gl_get _ _ (by simpa [difs] using h)]; simp [difs]
theorem cut1_lt {a b : Nat} {l : List Nat} (h : ∀ i, gn l i < 256) (i : Nat) : gn (cut1 a b l) i < 256 := gn_take_lt h a (b - a) i
theorem zeros_lt (n i : Nat) : gn (List.replicate n 0) i < 256 := by
  by_cases h : i < n
  · simp [gn, h]
  · rw [gn_out _ _ (by simpa using h)]; omega
theorem dif_lt {a b : Nat} {ls fs : List (List Nat)} (hl : Byt ls) (hf : Byt fs) (i x : Nat) : gn (dif a b ls fs i) x < 256 := by
  unfold dif
  split
  · exact xl_lt (cut1_lt (hl i)) (cut1_lt (hf i)) x
  · exact zeros_lt _ _
theorem dif_length {k n a b t : Nat} {ls fs : List (List Nat)} (hd : Ev t n ls) (hk : k ≤ t) (hsp : Sp a b n) {i : Nat} (hi : i < k) : (dif a b ls fs i).length = b - a := by
  unfold dif
  split
  · rw [xl_length, cut1_length (by rw [hd.ln i (by omega)]; exact hsp.bn)]
  · simp
theorem ds_difs {k n a b t : Nat} {ls fs : List (List Nat)} (hd : Ev t n ls) (hl : Byt ls) (hk : k ≤ t) (hf : Byt fs) (hab : a < b) (hsp : Sp a b n) : Ds k (b - a) (difs k a b ls fs) := by
  refine ⟨by simp [difs], fun i hi => ?_, fun i x => ?_, ?_, ?_, by omega⟩
  · rw [gl_difs _ _ _ _ _ _ hi]; exact dif_length hd hk hsp hi
  · by_cases hi : i < k
    · rw [gl_difs _ _ _ _ _ _ hi]; exact dif_lt hl hf i x
    · rw [gl_out _ _ (by simpa [difs] using hi)]; simp [gn]
  · have := hsp.ea; have := hsp.eb; omega
  · have := hsp.bn; have := hd.small; omega
/-- The rows that stand in the parity's places when the differences' parity has been added. -/
def updP (k m a b : Nat) (ls fs : List (List Nat)) : List (List Nat) := (List.range m).map fun j => xl (cut1 a b (gl ls (k + j))) (gl (par k m (b - a) (difs k a b ls fs)) j)
theorem gl_updP (k m a b : Nat) (ls fs : List (List Nat)) (j : Nat) (h : j < m) : gl (updP k m a b ls fs) j = xl (cut1 a b (gl ls (k + j))) (gl (par k m (b - a) (difs k a b ls fs)) j) := by
  rw [gl_get _ _ (by simpa [updP] using h)]; simp [updP]
/-- Without differences no parity changes. -/
theorem parTo_none {m n : Nat} {ds : List (List Nat)} (hn : n % 2 = 0) (hb : ∀ i b, gn (gl ds i) b < 256) (j k : Nat) (h : ∀ i, i < k → gl ds i = List.replicate n 0) : parTo m n ds j k = List.replicate n 0 := by
  refine bytes_ext (n := n / 2) (by rw [parTo_length]; omega) (by rw [List.length_replicate]; omega) (parTo_lt _ _ _ _ _) (zeros_lt n) fun t ht => ?_
  rw [we_parTo hn hb j t (by omega), we_zero]
  exact sm_zero' fun i hi => by rw [h i hi, we_zero, GF.mul_zero]
theorem xl_none (x : List Nat) (n : Nat) (h : x.length = n) : xl x (List.replicate n 0) = x := by
  refine ext_gn (by simp) fun i hi => ?_
  rw [xl_length] at hi
  rw [gn_xl _ _ _ hi]
  have : gn (List.replicate n 0) i = 0 := by simp [gn, show i < n by omega]
  rw [this, Nat.xor_zero]
theorem spl_self {a b : Nat} {d : List Nat} (hab : a ≤ b) (hb : b ≤ d.length) : spl a b (cut1 a b d) d = d := by
  have hl : (cut1 a b d).length = b - a := cut1_length hb
  refine ext_gn (by rw [spl_length hl hab hb]) fun i hi => ?_
  rw [spl_length hl hab hb] at hi
  rw [gn_spl hl hab hb]
  by_cases c : a ≤ i ∧ i < b
  · rw [if_pos c, gn_cut1 (by omega) hb, show a + (i - a) = i from by omega]
  · rw [if_neg c]
/-- Nothing given: nothing changes. -/
theorem updP_none {k m n a b : Nat} {xs : List Pc} {fs : List (List Nat)} (hd : Ev (k + m) n (xs.map Pc.d)) (hl : Byt (xs.map Pc.d)) (hf : Byt fs) (hab : a < b) (hsp : Sp a b n) (hg : givenL k fs = []) :
    encTo k a b (updP k m a b (xs.map Pc.d) fs) xs m = xs := by
  have hz : ∀ i, i < k → gl (difs k a b (xs.map Pc.d) fs) i = List.replicate (b - a) 0 := fun i hi => by
    rw [gl_difs _ _ _ _ _ _ hi]
    unfold dif
    rw [if_neg]
    intro h
    obtain ⟨q, hq, _⟩ := pk_all (p := fun i => decide (0 < (gl fs i).length)) hi (decide_eq_true h)
    unfold givenL at hg
    unfold cnt at hq
    rw [hg] at hq
    simp at hq
  have hD := ds_difs (k := k) hd hl (by omega) hf hab hsp
  apply List.ext_getElem?
  intro i
  rw [encTo_get?]
  cases hx : xs[i]? with
  | none => rfl
  | some x =>
    rw [Option.map_some]
    have hi := (List.getElem?_eq_some_iff.1 hx)
    obtain ⟨hil, hxe⟩ := hi
    split
    · rename_i h
      obtain ⟨j, rfl⟩ : ∃ j, i = k + j := ⟨i - k, by omega⟩
      have hg2 : gl (xs.map Pc.d) (k + j) = x.d := by rw [gl_get _ _ (by simpa using hil)]; simp [hxe]
      have hxl : x.d.length = n := by rw [← hg2]; exact hd.ln _ (by omega)
      rw [Nat.add_sub_cancel_left, gl_updP _ _ _ _ _ _ _ (by omega), gl_par _ _ _ _ _ (by omega), parTo_none hD.even hD.lb _ _ hz, hg2, xl_none _ _ (cut1_length (by rw [hxl]; exact hsp.bn)),
        spl_self (by omega) (by rw [hxl]; exact hsp.bn)]
    · rfl
end Go.Proofs.YtpnmmedjamkmeaaGreat
