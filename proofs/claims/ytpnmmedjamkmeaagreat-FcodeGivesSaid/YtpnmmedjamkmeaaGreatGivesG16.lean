/- fastGiven in plain words: the values times the locator, their transform's derivative. -/
import Derived.Test.YtpnmmedjamkmeaaGreatGivesG15
import Derived.Test.YtpnmmedjamkmeaaGreatGivesG10
import Derived.Test.YtpnmmedjamkmeaaGreatGivesG14
import Derived.Test.YtpnmmedjamkmeaaGreatGivesG13
set_option linter.unusedVariables false
set_option linter.unusedSimpArgs false
namespace Go.Proofs.YtpnmmedjamkmeaaGreat

/-- The values after s shards: word t at place q. -/
def uTo (k m : Nat) (lg mis : List Nat) (pc : List (List Nat)) : Nat → Nat → Nat → GF
  | 0, _, _ => 0
  | s + 1, t, q => if s ∉ mis ∧ plc k m s = q then lge lg q * we (gl pc s) t else uTo k m lg mis pc s t q
theorem uTo_none {k m : Nat} {lg mis : List Nat} {pc : List (List Nat)} {q t : Nat} : ∀ s, (∀ a, a < s → a ∉ mis → plc k m a ≠ q) → uTo k m lg mis pc s t q = 0 := by
  intro s
  induction s with
  | zero => intro _; rfl
  | succ s ih =>
    intro h
    rw [uTo, if_neg (fun ⟨h1, h2⟩ => h s (by omega) h1 h2), ih (fun a ha => h a (by omega))]
theorem sm_uTo {k m : Nat} {lg mis : List Nat} {pc : List (List Nat)} {t N : Nat} (c : Nat → GF) (hN : ∀ s, s < k + m → plc k m s < N) : ∀ s, s ≤ k + m →
    sm N (fun q => uTo k m lg mis pc s t q * c q) = sm s (fun a => if a ∈ mis then 0 else lge lg (plc k m a) * we (gl pc a) t * c (plc k m a)) := by
  intro s
  induction s with
  | zero => intro _; exact sm_zero' fun q _ => GF.zero_mul _
  | succ s ih =>
    intro hs
    rw [sm, ← ih (by omega)]
    by_cases hm : s ∈ mis
    · rw [if_pos hm, GF.add_zero]
      exact sm_congr fun q _ => by rw [uTo, if_neg (fun h => h.1 hm)]
    · rw [if_neg hm]
      have h0 : uTo k m lg mis pc s t (plc k m s) = 0 := uTo_none s fun a ha _ e => by
        have := plc_inj (by omega) (by omega) e; omega
      have e1 : sm N (fun q => uTo k m lg mis pc (s + 1) t q * c q) = sm N (fun q => uTo k m lg mis pc s t q * c q + (if q = plc k m s then lge lg (plc k m s) * we (gl pc s) t * c (plc k m s) else 0)) := by
        refine sm_congr fun q _ => ?_
        by_cases e : q = plc k m s
        · subst e
          rw [uTo, if_pos ⟨hm, rfl⟩, if_pos rfl, h0, GF.zero_mul, GF.zero_add]
        · rw [uTo, if_neg (fun h => e h.2.symm), if_neg e, GF.add_zero]
      rw [e1, sm_add]
      congr 1
      rw [sm_one _ _ (plc k m s) (hN s (by omega)) (fun q _ hq => if_neg hq), if_pos rfl]
/-- The derivative's value at a lost place. -/
theorem fast_word {k m t i R : Nat} {lg mis : List Nat} {pc : List (List Nat)} (hR : R ≤ 16) (hN : ∀ s, s < k + m → plc k m s < 2 ^ R) (hi : i ∈ mis) (hik : i < k + m) :
    (lge lg (plc k m i)).inv * FT 0 R (Der R (IT 0 R (uTo k m lg mis pc (k + m) t))) (plc k m i) = gvW k m lg mis pc i t := by
  have hp := hN i hik
  have hR2 : 2 ^ R ≤ 2 ^ 16 := Nat.pow_le_pow_right (by omega) hR
  rw [der_kernel R 0 _ _ (Nat.zero_mod _) (by omega) hp]
  have h0 : uTo k m lg mis pc (k + m) t (plc k m i) = 0 := uTo_none _ fun a ha hm e => by
    have := plc_inj ha hik e
    subst this; exact hm hi
  rw [h0, GF.mul_zero, GF.add_zero]
  have e1 : sm (2 ^ R) (fun q => if q = plc k m i then 0 else uTo k m lg mis pc (k + m) t q * (gw (0 + q) + gw (0 + plc k m i)).inv) = sm (2 ^ R) (fun q => uTo k m lg mis pc (k + m) t q * (gw (plc k m i) + gw q).inv) := by
    refine sm_congr fun q _ => ?_
    by_cases e : q = plc k m i
    · rw [if_pos e, e, h0, GF.zero_mul]
    · rw [if_neg e, Nat.zero_add, Nat.zero_add, GF.add_comm (gw q)]
  rw [e1, sm_uTo (fun q => (gw (plc k m i) + gw q).inv) hN _ (Nat.le_refl _), ← sm_mul]
  refine sm_congr fun s _ => ?_
  by_cases c : s ∈ mis
  · rw [if_pos c, if_pos c, GF.mul_zero]
  · rw [if_neg c, if_neg c]
    unfold gvF
    ac_rfl
/-- A row while it is written over: the first x words. -/
def mixF (f g : Nat → GF) (x t : Nat) : GF := if t < x then f t else g t
theorem mixF_set (f g : Nat → GF) (n x : Nat) (h : x < n) : (rowL n (mixF f g x)).set x (f x).v = rowL n (mixF f g (x + 1)) := by
  rw [rowL_set _ _ _ _ h]
  refine rowL_congr fun t _ => ?_
  unfold mixF
  by_cases e : t = x
  · subst e; rw [if_pos rfl, if_pos (by omega)]
  · rw [if_neg e]
    by_cases h : t < x
    · rw [if_pos h, if_pos (by omega)]
    · rw [if_neg h, if_neg (by omega)]
theorem mixF_zero (f g : Nat → GF) (n : Nat) : rowL n (mixF f g 0) = rowL n g := rowL_congr fun t _ => if_neg (by omega)
theorem mixF_full (f g : Nat → GF) (n : Nat) : rowL n (mixF f g n) = rowL n f := rowL_congr fun t h => if_pos h
theorem gn_rowL' (n : Nat) (f : Nat → GF) (i : Nat) (h : i < n) : gn (rowL n f) i = (f i).v := by
  rw [gn_get _ _ (by simpa using h)]; simp [rowL]
/-- The derivative of row j, by its first b bits. -/
def dTo (g : Nat → GF) (j b : Nat) : GF := sm b (fun b => if j.testBit b then 0 else g (j + 2 ^ b))
theorem dTo_succ (g : Nat → GF) (j b : Nat) : dTo g j (b + 1) = dTo g j b + (if j.testBit b then 0 else g (j + 2 ^ b)) := rfl
theorem dTo_full (g : Nat → GF) (j R : Nat) : dTo g j R = Der R g j := rfl
theorem and_bit (j b : Nat) : (j &&& 2 ^ b = 0) ↔ j.testBit b = false := by
  constructor
  · intro h
    have h2 := congrArg (fun x => x.testBit b) h
    simp only [Nat.testBit_and, Nat.testBit_two_pow, Nat.zero_testBit] at h2
    simpa using h2
  · intro h
    apply Nat.eq_of_testBit_eq
    intro i
    rw [Nat.testBit_and, Nat.testBit_two_pow, Nat.zero_testBit]
    by_cases e : b = i
    · subst e; rw [h]; rfl
    · simp [e]
/-- The bytes that are given back, from the words. -/
theorem gvB_of {k m n h i : Nat} {lg mis : List Nat} {pc : List (List Nat)} {f : Nat → GF} (hn : n = 2 * h) (hb : ∀ i b, gn (gl pc i) b < 256) (hf : ∀ t, t < h → f t = gvW k m lg mis pc i t) : byTo f h = gvB k m n lg mis pc i := by
  refine byTo_of (l := gvB k m n lg mis pc i) (by unfold gvB; rw [gdTo_length, hn]) (gdTo_lt k m n lg mis pc i _) fun t ht => ?_
  rw [hf t ht]
  exact we_gdTo (by omega) hb i t (by omega) (k + m)
theorem ex_rs_nat (a : Nat) : gf (ex (rs (a : Int))) = gf (ex a) := by
  have : ex (rs (a : Int)) = ex a := by
    have e : rs (a : Int) = a % 65535 := by unfold rs; omega
    rw [e, ex_mod65535]
  rw [this]
theorem ex_rs_neg (a : Nat) : gf (ex (rs (-(a : Int)))) = (gf (ex a)).inv := by
  have h := ex_rs_sub 0 a
  have e : ((0 : Nat) : Int) - (a : Int) = -(a : Int) := by omega
  rw [e] at h
  rw [h, show gf (ex 0) = 1 from GF.ext (gf_v (ex_lt 0)), GF.one_mul]
end Go.Proofs.YtpnmmedjamkmeaaGreat

/- What reconstruct gives back: plain. -/
set_option linter.unusedVariables false
set_option linter.unusedSimpArgs false
namespace Go.Proofs.YtpnmmedjamkmeaaGreat

/-- The rows after j of the wanted ones have been put in. -/
def fixTo (ls cw : List (List Nat)) (want : List Nat) : Nat → List (List Nat)
  | 0 => ls
  | j + 1 => (fixTo ls cw want j).set (gn want j) (gl cw (gn want j))
@[simp] theorem fixTo_length (ls cw : List (List Nat)) (want : List Nat) (j : Nat) : (fixTo ls cw want j).length = ls.length := by
  induction j with
  | zero => rfl
  | succ j ih => rw [fixTo, List.length_set, ih]
theorem gl_fixTo {ls cw : List (List Nat)} {want : List Nat} (hw : ∀ i ∈ want, i < ls.length) (i : Nat) : ∀ j, j ≤ want.length → gl (fixTo ls cw want j) i = if i ∈ want.take j then gl cw i else gl ls i := by
  intro j
  induction j with
  | zero => intro _; simp [fixTo]
  | succ j ih =>
    intro hj
    have hm : gn want j ∈ want := mem_gn.2 ⟨j, by omega, rfl⟩
    rw [fixTo, gl_setH _ _ _ _ (by rw [fixTo_length]; exact hw _ hm), ih (by omega), List.take_add_one, List.getElem?_eq_getElem (by omega), ← gn_get want j (by omega)]
    by_cases e : i = gn want j
    · rw [if_pos e, if_pos (by rw [e]; simp), e]
    · rw [if_neg e]
      by_cases h : i ∈ want.take j
      · rw [if_pos h, if_pos (by simp [h])]
      · rw [if_neg h, if_neg (by simp [h, e])]
/-- Which of the missing rows are wanted. -/
def wantOf (ms : List Nat) (lim : Nat) : List Nat := ms.filter fun i => decide (i < lim)
theorem mem_wantOf {ms : List Nat} {lim i : Nat} : i ∈ wantOf ms lim ↔ i ∈ ms ∧ i < lim := by simp [wantOf]
theorem wantOf_le (ms : List Nat) (lim : Nat) : (wantOf ms lim).length ≤ ms.length := List.length_filter_le _ _
theorem wantOf_succ (ms : List Nat) (lim j : Nat) (h : j < ms.length) : wantOf (ms.take (j + 1)) lim = if gn ms j < lim then wantOf (ms.take j) lim ++ [gn ms j] else wantOf (ms.take j) lim := by
  unfold wantOf
  rw [List.take_add_one, List.getElem?_eq_getElem h, ← gn_get ms j h, List.filter_append]
  by_cases c : gn ms j < lim
  · have e : (some (gn ms j)).toList.filter (fun i => decide (i < lim)) = [gn ms j] := by simp [c]
    rw [if_pos c, e]
  · have e : (some (gn ms j)).toList.filter (fun i => decide (i < lim)) = [] := by simp [c]
    rw [if_neg c, e, List.append_nil]
theorem ris_of_pairwise {l : List Nat} (h : l.Pairwise (· < ·)) : Ris l := by
  intro a b hab hb
  rw [List.pairwise_iff_getElem] at h
  have := h a b (by omega) hb hab
  rwa [gn_get _ _ (by omega), gn_get _ _ hb]
theorem ris_want (ls : List (List Nat)) (t lim : Nat) : Ris (wantOf (em ls t) lim) :=
  ris_of_pairwise (List.Pairwise.filter _ (List.Pairwise.filter _ (List.pairwise_lt_range (n := t))))
theorem lonTo_ho {t n : Nat} {ls : List (List Nat)} (hd : Ho t n ls) : ∀ j, j ≤ t → lonTo ls j = if (em ls j).length = j then 0 else n := by
  intro j
  induction j with
  | zero => intro _; rfl
  | succ j ih =>
    intro hj
    have hle := em_le ls j
    rw [lonTo, ih (by omega), em_succ]
    have hp := hd.pos
    rcases hd.ln j (by omega) with h | h
    · rw [if_pos h, h, List.length_append]
      simp only [List.length_singleton, Nat.max_zero, Nat.add_right_cancel_iff]
    · rw [if_neg (show ¬ (gl ls j).length = 0 by omega), if_neg (show ¬ (em ls j).length = j + 1 by omega), h]
      split <;> omega
theorem rec_gv {k m n r t lim : Nat} {ls : List (List Nat)} (ht : t = k + m) (hd : Ho t n ls) (hbt : Byt ls) (hp : prm k (m : Int)) (hm : (em ls t).length ≤ m) : Gv k m n r (lgOf k m r (em ls t)) (em ls t) (wantOf (em ls t) lim) ls := by
  have hts := hd.tsmall
  have hle := em_le ls t
  have hw := wantOf_le (em ls t) lim
  have hk := hp.1
  exact {
    ris := ris_em ls t
    mlt := fun s hs => by rw [← ht]; exact (mem_em.1 hs).1
    mlen := by omega
    wl := by omega
    wlt := fun i hi => by rw [← ht]; exact (mem_em.1 (mem_wantOf.1 hi).1).1
    wm := fun i hi => (mem_wantOf.1 hi).1
    wr := ris_want ls t lim
    lpc := by rw [hd.lt, ht]
    ln := fun s hs hn => by
      rcases hd.ln s (by omega) with h | h
      · exact absurd (mem_em.2 ⟨by omega, h⟩) hn
      · exact h
    lb := hbt
    lon := by rw [← ht, lonTo_ho hd t (Nat.le_refl _), if_neg (by omega)]
    even := hd.even
    small := hd.small
    pos := hd.pos
    ll := lgOf_length k m r _
    lgb := lgOf_lt k m r _ }
theorem rec_row {k m n r t i : Nat} {ls ds : List (List Nat)} (ht : t = k + m) (hd : Ho t n ls) (hbt : Byt ls) (hp : prm k (m : Int)) (hr : r = mu (p2 m + k)) (hm : (em ls t).length ≤ m) (hds : Ds k n ds)
    (hcw : ∀ s, s < t → (gl ls s).length ≠ 0 → gl ls s = gl (ds ++ par k m n ds) s) (hi : i ∈ em ls t) : gvB k m n (lgOf k m r (em ls t)) (em ls t) ls i = gl (ds ++ par k m n ds) i := by
  have hpp := hp
  obtain ⟨h1, h2, h3, h4, h5⟩ := hp
  rw [Int.toNat_natCast] at h5
  have hR16 : r ≤ 16 := by rw [hr]; exact mu_le16 h5
  have hN : p2 m + k ≤ 2 ^ r := by rw [hr]; exact le_p2 _
  have hmlt : ∀ s ∈ em ls t, s < k + m := fun s hs => by rw [← ht]; exact (mem_em.1 hs).1
  have hlen : (gl (ds ++ par k m n ds) i).length = n ∧ ∀ b, gn (gl (ds ++ par k m n ds) i) b < 256 := by
    have hi2 := hmlt i hi
    by_cases c : i < k
    · rw [gl_app_lo (by rw [hds.lk]; exact c)]; exact ⟨hds.ln i c, hds.lb i⟩
    · obtain ⟨j, rfl⟩ : ∃ j, i = ds.length + j := ⟨i - k, by rw [hds.lk]; omega⟩
      rw [gl_app_hi]
      refine ⟨?_, byt_par j⟩
      have hj : j < (par k m n ds).length := by
        have := hds.lk
        simp [par]; omega
      exact par_mem _ (by rw [gl_get _ _ hj]; exact List.getElem_mem hj)
  obtain ⟨h, hh⟩ : ∃ h, n = 2 * h := ⟨n / 2, by have := hd.even; omega⟩
  rw [← gvB_of (f := fun t' => we (gl (ds ++ par k m n ds) i) t') hh hbt (fun t' ht' => ?_)]
  · exact byTo_of (by rw [hlen.1, hh]) hlen.2 fun _ _ => rfl
  · refine (gvW_true (R := r) (ls := lostP k m (em ls t)) hpp hds (by omega) hr (lostP_lo (ris_em ls t) hmlt) hmlt hm hi (fun q hq => lgOf_lw hR16 (ris_em ls t) hmlt hN q hq) (fun s hs hn => ?_)).symm
    exact hcw s (by omega) fun h0 => hn (mem_em.2 ⟨by omega, h0⟩)
end Go.Proofs.YtpnmmedjamkmeaaGreat
