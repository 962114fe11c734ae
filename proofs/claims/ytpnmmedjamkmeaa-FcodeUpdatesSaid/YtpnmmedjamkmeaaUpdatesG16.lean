/- The walk of the codec's Update; all, as a reader. -/
import Derived.Test.YtpnmmedjamkmeaaUpdatesG15
import Derived.Test.YtpnmmedjamkmeaaUpdatesG11
import Derived.Test.YtpnmmedjamkmeaaUpdatesG12
import Derived.Test.YtpnmmedjamkmeaaUpdatesG13
set_option linter.unusedSimpArgs false
set_option linter.unusedVariables false
set_option linter.unusedSimpArgs false
namespace Go.Proofs.Ytpnmmedjamkmeaa
open Go.RowKit

theorem UpdateSpan_calls (fast : Bool) (C k m r W T K n c c2 t a b G : Nat) (xs : List Pc) (q : Option Addr) (fs : List (List Nat)) (r0 : List Value) (w : World) (hc : Cd w fast C k m r W T K) (hR : Rws w 42 5 .u8 G xs r0)
    (ht : t = k + m) (hd : Ev t n (xs.map Pc.d)) (hbt : Byt (xs.map Pc.d)) (hf : Lr w .u8 q fs) (hfr : Fr k n fs) (hab : a < b) (hsp : Sp a b n) (htc : t ≤ c) (hap : Apart xs C W T K) :
    Calls Try.prog 53 #[.pointer (some ⟨C, 0, none⟩), .slice (some ⟨G, 0, none⟩) t c, .slice q k c2, spanV a b] w fun e w' => e = .returned (.int .i64 0) ∧ Rws w' 42 5 .u8 G (encTo k a b (updP k m a b (xs.map Pc.d) fs) xs m) r0 ∧ Chg (InB xs) w w' := by
  cases fast with
  | false => exact UpdateSpan_direct C k m r W T K n c c2 t a b G xs q fs r0 w hc hR ht hd hbt hf hfr hab hsp htc hap
  | true => exact UpdateSpan_fast C k m r W T K n c c2 t a b G xs q fs r0 w hc hR ht hd hbt hf hfr hab hsp htc hap
theorem Update_calls (fast : Bool) (C k m r W T K n c c2 t G : Nat) (xs : List Pc) (q : Option Addr) (fs : List (List Nat)) (r0 : List Value) (w : World) (hc : Cd w fast C k m r W T K) (hR : Rws w 42 5 .u8 G xs r0)
    (ht : t = k + m) (hd : Ev t n (xs.map Pc.d)) (hbt : Byt (xs.map Pc.d)) (hf : Lr w .u8 q fs) (hfr : Fr k n fs) (htc : t ≤ c) (hap : Apart xs C W T K) :
    Calls Try.prog 28 #[.pointer (some ⟨C, 0, none⟩), .slice (some ⟨G, 0, none⟩) t c, .slice q k c2] w fun e w' => e = .returned (.int .i64 0) ∧ Rws w' 42 5 .u8 G (encTo k 0 n (updP k m 0 n (xs.map Pc.d) fs) xs m) r0 ∧ Chg (InB xs) w w' := by
  have HV := hid (fun w h1 h2 h3 => UpdateSpan_calls fast C k m r W T K n c c2 t 0 n G xs q fs r0 w h1 h2 ht hd hbt h3 hfr hd.pos ⟨by omega, by omega, by omega, hd.even⟩ htc hap)
  have HWH := hid (fresh_none C k m r W T K n c c2 t fast (some ⟨G, 0, none⟩) q (xs.map Pc.d) fs w hc hR.lr ht hd hf hfr)
  unfold FreshPost at HWH
  have HC := hid hc
  have HR := hid hR
  have HF := hid hf
  clear hc hR ht hd hbt hap hf hfr
  unfold spanV at HV
  go_enter Try.func28, Try.ntmps28
  go_wp2_with fail
  refine HWH.out.mono ?_
  rintro e w2 ⟨v2, rfl, _, hC2⟩
  have HC2 := hid hC2
  clear hC2 HWH
  go_wp2_with fail
  refine (HV.out _ (HC.out.keptNo HC2.out) (HR.out.keptNo HC2.out) (HF.out.keptNo HC2.out)).mono ?_
  rintro e w3 ⟨rfl, hR3, hC3⟩
  have HC3 : Hid (Chg (InB xs) w w3) := hid ((show Chg (InB xs) w w2 from HC2.out.no).trans hC3)
  have HR3 := hid hR3
  clear hC3 hR3
  go_wp2_with fail
  go_ret
  exact ⟨rfl, HR3.out, HC3.out⟩
end Go.Proofs.Ytpnmmedjamkmeaa

/- all, as a reader. -/
set_option linter.unusedSimpArgs false
set_option linter.unusedVariables false
set_option linter.unusedSimpArgs false
namespace Go.Proofs.Ytpnmmedjamkmeaa
open Go.RowKit

theorem all_q (p q : Option Addr) (n m c d : Nat) (a b : List (List Nat)) (w : World) (ha : Lr w .u8 p a) (hb : Lr w .u8 q b) (hn : a.length = n) (hm : b.length = m) (hx : n ≤ maxLen) :
    Calls Try.prog 22 #[.slice p n c, .slice q m d] w fun e w' => e = .returned (.bool (decide (a = b))) ∧ ∃ N, w' = w.drewN N := by
  unfold maxLen at hx
  have HA := hid hn
  have HB := hid hm
  by_cases hl : n = m
  · have ht : ((n : Int) != (m : Int)) = false := by rw [hl]; simp
    have HL := hid hl
    clear hl hn hm
    go_enter Try.func22, Try.ntmps22
    go_wp2_with fail
    go_loopw [13] (fun i wr => ∃ k : Nat, k ≤ n ∧ i = .int .i64 (k : Int) ∧ (∀ j, j < k → gl a j = gl b j) ∧ ∃ N, wr = w.drewN N) (fun i _ => n - (intOf i).toNat)
    case atStart => exact ⟨0, by omega, rfl, fun j h => by omega, 0, rfl⟩
    case round =>
      obtain ⟨k, hk, rfl, hs, N, hN⟩ := hrel
      obtain ⟨w1, rfl⟩ : ∃ w1 : World, w1 = wr := ⟨_, rfl⟩
      have hC : Chg No w w1 := by rw [hN]; exact (Chg.refl _ _).drewN _
      have HN := hid hN
      clear hN
      have HS := hid hs
      clear hs
      by_cases hlt : k < n
      · obtain ⟨b1, o1, q1, c1, rfl, hc1, hr1, hl1, _⟩ := (ha.keptNo hC) k (by rw [HA.out]; exact hlt)
        obtain ⟨b2, o2, q2, c2, rfl, hc2, hr2, hl2, _⟩ := (hb.keptNo hC) k (by rw [HB.out, ← HL.out]; exact hlt)
        have hlt2 : (k : Int) < (m : Int) := by rw [← HL.out]; omega
        have HE := hid (fun w h1 h2 => equal_calls q1 q2 _ _ c1 c2 (gl a k) (gl b k) w h1 h2 rfl rfl (by unfold maxLen; omega))
        have HR1 := hid hr1
        have HR2 := hid hr2
        have HC := hid hC
        have HAB : Hid (gl a k ≠ gl b k → decide (a = b) = false) := hid (by
          intro hne
          simp only [decide_eq_false_iff_not]; intro h; subst h; exact hne rfl)
        clear hr1 hr2 hC
        obtain ⟨x, hx'⟩ : ∃ x, x = gl a k := ⟨_, rfl⟩
        obtain ⟨y, hy'⟩ : ∃ y, y = gl b k := ⟨_, rfl⟩
        rw [← hx', ← hy'] at HE HAB
        rw [← hx'] at HR1
        rw [← hy'] at HR2
        rw [← hx'] at hc1 hl1
        rw [← hy'] at hc2 hl2
        have HX := hid hx'
        have HY := hid hy'
        clear hx' hy'
        by_cases hxy : x = y
        · have hd : decide (x = y) = true := by simpa using hxy
          have HXY := hid hxy
          rw [hd] at HE
          clear hxy hd
          go_wp2_with fail
          go_quiet ((go_at_call 21; exact Calls.quiet_of (HE.out _ HR1.out HR2.out)))
          go_wp2_with fail
          go_roundw
          case rel => exact ⟨k + 1, by omega, by go_num, fun j h => by
            by_cases e : j = k
            · subst e; rw [← HX.out, ← HY.out]; exact HXY.out
            · exact HS.out j (by omega), N + nq, by rw [HN.out, World.drewN_drewN]⟩
          case measure => simp [intOf]; omega
        · have hd : decide (x = y) = false := by simpa using hxy
          have HE2 := hid (HAB.out hxy)
          rw [hd] at HE
          clear hxy hd
          go_wp2_with fail
          go_quiet ((go_at_call 21; exact Calls.quiet_of (HE.out _ HR1.out HR2.out)))
          go_wp2_with fail
          go_ret
          exact ⟨by rw [HE2.out]; rfl, N + nq, by rw [HN.out, World.drewN_drewN]⟩
      · obtain rfl : k = n := by omega
        have HE : Hid (decide (a = b) = true) := hid (by
          simp only [decide_eq_true_eq]; exact ext_gl (by rw [HA.out, HB.out, HL.out]) fun j hj => HS.out j (by rw [← HA.out]; exact hj))
        go_wp2_with fail
        go_ret
        exact ⟨by rw [HE.out]; rfl, N, HN.out⟩
  · have ht : ((n : Int) != (m : Int)) = true := by simp; omega
    have HE : Hid (decide (a = b) = false) := hid (by
      simp only [decide_eq_false_iff_not]; intro h; subst h; exact hl (hn.symm.trans hm))
    clear hl
    go_enter Try.func22, Try.ntmps22
    go_wp2_with fail
    go_ret
    exact ⟨by rw [HE.out]; rfl, 0, rfl⟩
end Go.Proofs.Ytpnmmedjamkmeaa

/- The plain law of FcodeUpdates. -/
set_option linter.unusedVariables false
set_option linter.unusedSimpArgs false
namespace Go.Proofs.Ytpnmmedjamkmeaa

/-- The data with the fresh shards in their places, those below z. -/
def nextTo (z : Nat) (ds fs : List (List Nat)) : List (List Nat) := (List.range ds.length).map fun i => if i < z ∧ 0 < (gl fs i).length then gl fs i else gl ds i
@[simp] theorem nextTo_length (z : Nat) (ds fs : List (List Nat)) : (nextTo z ds fs).length = ds.length := by simp [nextTo]
theorem gl_nextTo (z : Nat) (ds fs : List (List Nat)) (i : Nat) (h : i < ds.length) : gl (nextTo z ds fs) i = if i < z ∧ 0 < (gl fs i).length then gl fs i else gl ds i := by
  rw [gl_get _ _ (by simpa using h)]; simp [nextTo]
theorem nextTo_zero (ds fs : List (List Nat)) : nextTo 0 ds fs = ds := by
  refine ext_gl (by simp) fun i hi => ?_
  rw [nextTo_length] at hi
  rw [gl_nextTo _ _ _ _ hi, if_neg (by omega)]
theorem nextTo_skip {z : Nat} {ds fs : List (List Nat)} (h : (gl fs z).length = 0) : nextTo (z + 1) ds fs = nextTo z ds fs := by
  refine ext_gl (by simp) fun i hi => ?_
  rw [nextTo_length] at hi
  rw [gl_nextTo _ _ _ _ hi, gl_nextTo _ _ _ _ hi]
  by_cases e : i = z
  · subst e; rw [if_neg (by omega), if_neg (by omega)]
  · by_cases c : i < z ∧ 0 < (gl fs i).length
    · rw [if_pos c, if_pos (by omega)]
    · rw [if_neg c, if_neg (by omega)]
theorem nextTo_set {z : Nat} {ds fs : List (List Nat)} (hz : z < ds.length) (h : 0 < (gl fs z).length) : (nextTo z ds fs).set z (gl fs z) = nextTo (z + 1) ds fs := by
  refine ext_gl (by simp) fun i hi => ?_
  rw [List.length_set, nextTo_length] at hi
  have : gl ((nextTo z ds fs).set z (gl fs z)) i = if i = z then gl fs z else gl (nextTo z ds fs) i := by
    simp only [gl, List.getD_eq_getElem?_getD, List.getElem?_set]
    split
    · subst_vars; simp [hz]
    · rw [if_neg (by omega)]
  rw [this, gl_nextTo _ _ _ _ hi, gl_nextTo _ _ _ _ hi]
  by_cases e : i = z
  · subst e; rw [if_pos rfl, if_pos (by omega)]
  · rw [if_neg e]
    by_cases c : i < z ∧ 0 < (gl fs i).length
    · rw [if_pos c, if_pos (by omega)]
    · rw [if_neg c, if_neg (by omega)]
theorem ds_next {k n : Nat} {ds fs : List (List Nat)} (hd : Ds k n ds) (hf : Fr k n fs) : Ds k n (nextTo k ds fs) := by
  refine ⟨by rw [nextTo_length, hd.lk], fun i hi => ?_, fun i b => ?_, hd.even, hd.small, hd.pos⟩
  · rw [gl_nextTo _ _ _ _ (by rw [hd.lk]; exact hi)]
    split
    · rename_i h
      rcases hf.ln i hi with e | e
      · omega
      · exact e
    · exact hd.ln i hi
  · by_cases hi : i < ds.length
    · rw [gl_nextTo _ _ _ _ hi]
      split
      · exact hf.lb i b
      · exact hd.lb i b
    · rw [gl_out _ _ (by rw [nextTo_length]; omega)]; simp [gn]
theorem cut1_all {n : Nat} {l : List Nat} (h : l.length = n) : cut1 0 n l = l := by
  unfold cut1
  rw [List.drop_zero, Nat.sub_zero, List.take_of_length_le (by omega)]
theorem we_xl {x y : List Nat} (hx : ∀ i, gn x i < 256) (hy : ∀ i, gn y i < 256) (t : Nat) (ht : 2 * t + 1 < x.length) : we (xl x y) t = we x t + we y t := by
  unfold we wdAt
  rw [gn_xl _ _ _ (by omega), gn_xl _ _ _ ht, ← xor_wd (hx _) (hx _) (hy _) (hy _), gf_xor (wd_lt (hx _) (hx _)) (wd_lt (hy _) (hy _))]
/-- The parity of the new data is the old one and the differences' together. -/
theorem updP_full {k m n : Nat} {ds fs js : List (List Nat)} (hd : Ds k n ds) (hf : Fr k n fs) (hj : js = par k m n ds) : updP k m 0 n (ds ++ js) fs = par k m n (nextTo k ds fs) := by
  have hn := ds_next hd hf
  have hlk := hd.lk
  have hlo : ∀ i, i < k → gl (ds ++ js) i = gl ds i := fun i hi => gl_app_lo (by omega)
  have hev := hd.even
  refine ext_gl (by simp [updP, par]) fun j hjl => ?_
  have hjm : j < m := by simpa [updP] using hjl
  rw [gl_updP _ _ _ _ _ _ _ hjm, gl_par _ _ _ _ _ hjm, gl_par _ _ _ _ _ hjm]
  have hjl2 : gl (ds ++ js) (k + j) = parTo m n ds j k := by
    have := gl_app_hi (a := ds) (b := js) j
    rw [hlk] at this
    rw [this, hj, gl_par _ _ _ _ _ hjm]
  rw [hjl2, cut1_all (parTo_length _ _ _ _ _), Nat.sub_zero]
  have hdl : ∀ i, i < k → (dif 0 n (ds ++ js) fs i).length = n := fun i hi => by
    unfold dif
    split
    · rw [xl_length, hlo i hi, cut1_all (hd.ln i hi), hd.ln i hi]
    · simp
  have hdb : ∀ i b, gn (gl (difs k 0 n (ds ++ js) fs) i) b < 256 := fun i b => by
    by_cases hi : i < k
    · rw [gl_difs _ _ _ _ _ _ hi]
      unfold dif
      split
      · rw [hlo i hi]; exact xl_lt (cut1_lt (hd.lb i)) (cut1_lt (hf.lb i)) b
      · exact zeros_lt _ _
    · rw [gl_out _ _ (by simpa [difs] using hi)]; simp [gn]
  refine bytes_ext (n := n / 2) (by rw [xl_length, parTo_length]; omega) (by rw [parTo_length]; omega) (xl_lt (parTo_lt _ _ _ _ _) (parTo_lt _ _ _ _ _)) (parTo_lt _ _ _ _ _) fun t ht => ?_
  rw [we_xl (parTo_lt _ _ _ _ _) (parTo_lt _ _ _ _ _) t (by rw [parTo_length]; omega), we_parTo hev hd.lb j t (by omega), we_parTo hev hdb j t (by omega), we_parTo hev hn.lb j t (by omega), ← sm_add]
  refine sm_congr fun i hi => ?_
  rw [← GF.mul_add, gl_difs _ _ _ _ _ _ hi, gl_nextTo _ _ _ _ (by omega)]
  congr 1
  unfold dif
  by_cases h : 0 < (gl fs i).length
  · have hfl : (gl fs i).length = n := by
      rcases hf.ln i hi with e | e
      · omega
      · exact e
    rw [if_pos h, if_pos ⟨hi, h⟩, hlo i hi, cut1_all (hd.ln i hi), cut1_all hfl, we_xl (hd.lb i) (hf.lb i) t (by rw [hd.ln i hi]; omega), GF.add_self']
  · rw [if_neg h, if_neg (by omega), we_zero, GF.add_zero]
/-- Rows whose parity is written, whatever stood there. -/
theorem encTo_rows {k m n : Nat} {ds js P : List (List Nat)} {xs : List Pc} (hd : Ds k n ds) (hx : xs.map Pc.d = ds ++ js) (hj : js.length = m) (hjn : ∀ l ∈ js, l.length = n) (hP : P.length = m) :
    (encTo k 0 n P xs m).map Pc.d = ds ++ P := by
  have hk := hd.lk
  have hlen : xs.length = k + m := by
    have := congrArg List.length hx
    simp only [List.length_map, List.length_append] at this; omega
  refine ext_gl (by simp [hP, hlen, hk]) fun i hi => ?_
  rw [List.length_map, encTo_length] at hi
  have hg : gl ((encTo k 0 n P xs m).map Pc.d) i = if k ≤ i ∧ i < k + m then spl 0 n (gl P (i - k)) (gl (xs.map Pc.d) i) else gl (xs.map Pc.d) i := by
    simp only [gl, List.getD_eq_getElem?_getD, List.getElem?_map]
    rw [encTo_get?, List.getElem?_eq_getElem hi]
    simp only [Option.map_some, Option.getD_some]
    split <;> rfl
  rw [hg, hx]
  by_cases h : k ≤ i
  · obtain ⟨j, rfl⟩ : ∃ j, i = ds.length + j := ⟨i - k, by omega⟩
    rw [if_pos (by omega), gl_app_hi, gl_app_hi, show ds.length + j - k = j from by omega]
    have h2 : (gl js j).length = n := by
      rw [gl_get _ _ (by omega)]; exact hjn _ (List.getElem_mem _)
    unfold spl
    rw [List.take_zero, List.nil_append, List.drop_eq_nil_of_le (by omega), List.append_nil]
  · rw [if_neg (by omega), gl_app_lo (by omega), gl_app_lo (by omega)]
theorem upd_rows {k m n : Nat} {ds fs : List (List Nat)} {xs : List Pc} (hd : Ds k n ds) (hf : Fr k n fs) (hx : xs.map Pc.d = ds ++ par k m n ds) :
    (encTo k 0 n (updP k m 0 n (xs.map Pc.d) fs) xs m).map Pc.d = ds ++ par k m n (nextTo k ds fs) := by
  rw [hx, updP_full hd hf rfl]
  exact encTo_rows hd hx (par_length _ _ _ _) par_mem (par_length _ _ _ _)
/-- Verify over data with some parity. -/
theorem okSpan_app {k m n : Nat} {ds js : List (List Nat)} (hd : Ds k n ds) (hjn : ∀ l ∈ js, l.length = n) : okSpan k m 0 n (ds ++ js) ↔ par k m n ds = js := by
  unfold okSpan
  have hlk := hd.lk
  rw [← hlk, List.take_left, List.drop_left, hlk, Nat.sub_zero, cutL_all hd.mem, cutL_all hjn]
end Go.Proofs.Ytpnmmedjamkmeaa

/- Rows laid anew; bytes written over. -/
set_option linter.unusedVariables false
set_option linter.unusedSimpArgs false
namespace Go.Proofs.Ytpnmmedjamkmeaa
open Go.RowKit

/-- A row of its own takes the place of another. -/
theorem Rws.swap {w : World} {eo ei : TypeId} {k : IntKind} {G : Nat} {xs : List Pc} {r0 : List Value} (h : Rws w eo ei k G xs r0) {i : Nat} (hi : i < xs.length) {x : Pc}
    (hx : Own w ei x.b (nv k x.d) x.r) (hne : ∀ y ∈ xs, y.b ≠ x.b) (hG : x.b ≠ G) (hl : x.d.length ≤ 140737488355328) : Rws (w.setCell ⟨G, i, none⟩ x.v) eo ei k G (xs.set i x) r0 := by
  have ho := h.out.set (i := i) (by rw [List.length_map]; exact hi) x.v
  rw [← List.map_set] at ho
  refine ⟨ho, ?_, ?_, ?_, ?_⟩
  · intro y hy
    rcases List.mem_or_eq_of_mem_set hy with hy | rfl
    · exact (h.inn y hy).setOther (h.ne y hy) _
    · exact hx.setOther hG _
  · rw [List.map_set]
    have hd := h.dis
    unfold List.Nodup at hd ⊢
    rw [List.pairwise_iff_getElem] at hd ⊢
    intro a b ha hb hab
    rw [List.length_set, List.length_map] at ha hb
    rw [List.getElem_set, List.getElem_set]
    have hn : ∀ j (hj : j < xs.length), (xs.map Pc.b)[j]'(by rw [List.length_map]; exact hj) ≠ x.b := fun j hj e => by
      rw [List.getElem_map] at e
      exact hne _ (List.getElem_mem hj) e
    by_cases ea : i = a
    · rw [if_pos ea, if_neg (by omega)]
      exact fun e => hn b hb e.symm
    · rw [if_neg ea]
      by_cases eb : i = b
      · rw [if_pos eb]
        exact hn a ha
      · rw [if_neg eb]
        exact hd a b (by rw [List.length_map]; exact ha) (by rw [List.length_map]; exact hb) hab
  · intro y hy
    rcases List.mem_or_eq_of_mem_set hy with hy | rfl
    · exact h.ne y hy
    · exact hG
  · intro y hy
    rcases List.mem_or_eq_of_mem_set hy with hy | rfl
    · exact h.len y hy
    · exact hl
/-- A row whose first x bytes are another's. -/
def mixR (x : Nat) (e d : List Nat) : List Nat := (List.range d.length).map fun i => if i < x then gn e i else gn d i
@[simp] theorem mixR_length (x : Nat) (e d : List Nat) : (mixR x e d).length = d.length := by simp [mixR]
theorem gn_mixR (x : Nat) (e d : List Nat) (i : Nat) (h : i < d.length) : gn (mixR x e d) i = if i < x then gn e i else gn d i := by
  rw [gn_get _ _ (by simpa using h)]; simp [mixR]
theorem mixR_zero (e d : List Nat) : mixR 0 e d = d := by
  refine ext_gn (by simp) fun i hi => ?_
  rw [mixR_length] at hi
  rw [gn_mixR _ _ _ _ hi, if_neg (by omega)]
theorem mixR_set {x : Nat} {e d : List Nat} (h : x < d.length) : (mixR x e d).set x (gn e x) = mixR (x + 1) e d := by
  refine ext_gn (by simp) fun i hi => ?_
  rw [List.length_set, mixR_length] at hi
  rw [gn_set _ _ _ _ (by simpa using h), gn_mixR _ _ _ _ hi, gn_mixR _ _ _ _ hi]
  by_cases c : i = x
  · subst c; rw [if_pos rfl, if_pos (by omega)]
  · rw [if_neg c]
    by_cases c2 : i < x
    · rw [if_pos c2, if_pos (by omega)]
    · rw [if_neg c2, if_neg (by omega)]
theorem mixR_all {x : Nat} {e d : List Nat} (hd : d.length = x) (he : e.length = x) : mixR x e d = e := by
  refine ext_gn (by simp [hd, he]) fun i hi => ?_
  rw [mixR_length] at hi
  rw [gn_mixR _ _ _ _ hi, if_pos (by omega)]
/-- Rows the first z of which are others. -/
def wrTo (z : Nat) (L es : List (List Nat)) : List (List Nat) := (List.range L.length).map fun i => if i < z then gl es i else gl L i
@[simp] theorem wrTo_length (z : Nat) (L es : List (List Nat)) : (wrTo z L es).length = L.length := by simp [wrTo]
theorem gl_wrTo (z : Nat) (L es : List (List Nat)) (i : Nat) (h : i < L.length) : gl (wrTo z L es) i = if i < z then gl es i else gl L i := by
  rw [gl_get _ _ (by simpa using h)]; simp [wrTo]
theorem wrTo_zero (L es : List (List Nat)) : wrTo 0 L es = L := by
  refine ext_gl (by simp) fun i hi => ?_
  rw [wrTo_length] at hi
  rw [gl_wrTo _ _ _ _ hi, if_neg (by omega)]
theorem wrTo_set {z : Nat} {L es : List (List Nat)} (h : z < L.length) : (wrTo z L es).set z (gl es z) = wrTo (z + 1) L es := by
  refine ext_gl (by simp) fun i hi => ?_
  rw [List.length_set, wrTo_length] at hi
  rw [gl_set _ _ _ _ (by simpa using h), gl_wrTo _ _ _ _ hi, gl_wrTo _ _ _ _ hi]
  by_cases c : i = z
  · subst c; rw [if_pos rfl, if_pos (by omega)]
  · rw [if_neg c]
    by_cases c2 : i < z
    · rw [if_pos c2, if_pos (by omega)]
    · rw [if_neg c2, if_neg (by omega)]
theorem wrTo_all {k : Nat} {ds js es : List (List Nat)} (hd : ds.length = k) (he : es.length = k) : wrTo k (ds ++ js) es = es ++ js := by
  refine ext_gl (by simp [hd, he]) fun i hi => ?_
  rw [wrTo_length] at hi
  rw [gl_wrTo _ _ _ _ hi]
  by_cases c : i < k
  · rw [if_pos c, gl_app_lo (by omega)]
  · rw [if_neg c]
    obtain ⟨j, rfl⟩ : ∃ j, i = k + j := ⟨i - k, by omega⟩
    have h1 := gl_app_hi (a := ds) (b := js) j
    have h2 := gl_app_hi (a := es) (b := js) j
    rw [hd] at h1
    rw [he] at h2
    rw [h1, h2]
end Go.Proofs.Ytpnmmedjamkmeaa
