/- The code tells its errors: shards turned in 1 to m places are told, word by word. -/
import Derived.Test.YtpnmmedjamkmeaaTextbookG8
import Derived.Test.YtpnmmedjamkmeaaTextbookG6
set_option linter.unusedVariables false
set_option linter.unusedSimpArgs false
namespace Go.Proofs.Ytpnmmedjamkmeaa

instance : DecidableEq GF := fun a b => if h : a.v = b.v then isTrue (GF.ext h) else isFalse (fun e => h (congrArg GF.v e))

/-- The minimum distance: a codeword with at most m places that are not 0 is 0. -/
theorem mds {k m : Nat} (h : prm k (m : Int)) (e : Nat → GF) (he : ∀ j, j < m → e (k + j) = sm k (fun i => fe' m j i * e i)) (hc : cnt (k + m) (fun i => decide (e i ≠ 0)) ≤ m) :
    ∀ i, i < k + m → e i = 0 := by
  obtain ⟨h1, h2, h3, h4, h5⟩ := h
  rw [Int.toNat_natCast] at h5
  have hM := p2_pos m
  have hMm := le_p2 m
  have hin : ∀ i, i < k → p2 m + i < 65536 := fun i hi => by omega
  have hmm : ∀ j, j < m → j < p2 m := fun j hj => by omega
  rw [cnt_add] at hc
  have hn := cnt_not m (fun j => decide (e (k + j) ≠ 0))
  have hle : cnt k (fun i => decide (e i ≠ 0)) ≤ cnt m (fun j => !decide (e (k + j) ≠ 0)) := by omega
  have hdata : ∀ i, i < k → e i = 0 := by
    intro i hi
    apply Classical.byContradiction
    intro hne
    obtain ⟨q, hq, hqi⟩ := pk_all (p := fun i => decide (e i ≠ 0)) hi (by simpa using hne)
    have key := cauchy (cnt k (fun i => decide (e i ≠ 0))) (fun q => e (pk k (fun i => decide (e i ≠ 0)) q) * gw ((p2 m + pk k (fun i => decide (e i ≠ 0)) q) / p2 m))
      (fun q => gw (p2 m + pk k (fun i => decide (e i ≠ 0)) q)) (fun q => gw (pk m (fun j => !decide (e (k + j) ≠ 0)) q))
      (fun a b ha hb hab hg => by
        have := gw_inj (hin _ (pk_lt ha)) (hin _ (pk_lt hb)) hg
        exact hab (pk_inj ha hb (by omega)))
      (fun a b ha hb hab hg => by
        have h1 := pk_lt (p := fun j => !decide (e (k + j) ≠ 0)) (n := m) (q := a) (by omega)
        have h2 := pk_lt (p := fun j => !decide (e (k + j) ≠ 0)) (n := m) (q := b) (by omega)
        have := gw_inj (by omega) (by omega) hg
        exact hab (pk_inj (by omega) (by omega) this))
      (fun a b ha hb hg => by
        have h1 := pk_lt (p := fun j => !decide (e (k + j) ≠ 0)) (n := m) (q := b) (by omega)
        have h2 := pk_lt ha
        have h3 := hmm _ h1
        have := gw_inj (by omega) (hin _ h2) hg
        omega)
      (fun b hb => by
        have hbm : b < cnt m (fun j => !decide (e (k + j) ≠ 0)) := by omega
        have h1 := pk_lt hbm
        have h2 := pk_is hbm
        have h3 : e (k + pk m (fun j => !decide (e (k + j) ≠ 0)) b) = 0 := by simpa using h2
        have h4 := he _ h1
        rw [h3] at h4
        rw [sm_pick k (fun i => decide (e i ≠ 0)) _ (fun i _ hz => by
          have : e i = 0 := by simpa using hz
          rw [this, GF.mul_zero])] at h4
        refine Eq.trans (sm_congr fun a _ => ?_) h4.symm
        unfold fe'
        ac_rfl) q hq
    rw [hqi] at key
    rcases GF.mul_eq_zero key with h | h
    · exact hne h
    · have hd : 1 ≤ (p2 m + i) / p2 m := by rw [Nat.le_div_iff_mul_le (by omega)]; omega
      have hl : (p2 m + i) / p2 m < 65536 := Nat.lt_of_le_of_lt (Nat.div_le_self _ _) (hin i hi)
      have := gw_inj hl (show 0 < 65536 by omega) (by rw [h, gw_zero])
      omega
  intro i hi
  by_cases hik : i < k
  · exact hdata i hik
  · obtain ⟨j, rfl⟩ : ∃ j, i = k + j := ⟨i - k, by omega⟩
    rw [he j (by omega)]
    exact sm_zero' fun i hi => by rw [hdata i hi, GF.mul_zero]

/-- A word within a span. -/
theorem wdAt_cut {a b : Nat} {l : List Nat} {t : Nat} (ha : a % 2 = 0) (ht : a + 2 * t + 1 < b) (hb : b ≤ l.length) : wdAt ((l.drop a).take (b - a)) t = wdAt l (a / 2 + t) := by
  unfold wdAt
  rw [gn_cut (by omega) hb, gn_cut (by omega) hb, show 2 * (a / 2 + t) = a + 2 * t from by omega, Nat.add_assoc]
theorem we_cut {a b : Nat} {l : List Nat} {t : Nat} (ha : a % 2 = 0) (ht : a + 2 * t + 1 < b) (hb : b ≤ l.length) : we ((l.drop a).take (b - a)) t = we l (a / 2 + t) := by
  unfold we; rw [wdAt_cut ha ht hb]
/-- Do the rows stand as the code asks, at word t? -/
def okWord (k m : Nat) (ls : List (List Nat)) (t : Nat) : Prop := ∀ j, j < m → we (gl ls (k + j)) t = sm k (fun i => fe' m j i * we (gl ls i) t)
theorem ok_iff {k m n a b : Nat} {ls : List (List Nat)} (hd : Ev (k + m) n ls) (hb : Byt ls) (hk1 : 1 ≤ k) (hab : a < b) (hsp : Sp a b n) :
    okSpan k m a b ls ↔ ∀ t, a ≤ 2 * t → 2 * t + 1 < b → okWord k m ls t := by
  have hD : Ds k (b - a) (cutL a b (ls.take k)) := Ds.cut hd hb (by omega) hab hsp.bn hsp.ea hsp.eb
  have ha := hsp.ea
  have heb := hsp.eb
  have hbn := hsp.bn
  have hrow : ∀ j, j < m → gl (cutL a b (ls.drop k)) j = ((gl ls (k + j)).drop a).take (b - a) := fun j hj => by
    rw [gl_cut _ _ _ _ (by rw [List.length_drop, hd.lt]; omega), gl_drop]
  have hwd : ∀ t, a + 2 * t + 1 < b → ∀ j, we (parTo m (b - a) (cutL a b (ls.take k)) j k) t = sm k (fun i => fe' m j i * we (gl ls i) (a / 2 + t)) := by
    intro t ht j
    rw [we_parTo hD.even hD.lb j t (by omega)]
    refine sm_congr fun i hi => ?_
    rw [gl_cut _ _ _ _ (by rw [List.length_take, hd.lt]; omega), gl_take _ _ _ hi, we_cut ha ht (by rw [hd.ln i (by omega)]; exact hbn)]
  unfold okSpan
  constructor
  · intro h t h1 h2 j hj
    have hr := congrArg (fun l => we (gl l j) (t - a / 2)) h
    simp only [gl_par _ _ _ _ _ hj, hrow j hj] at hr
    rw [hwd _ (by omega), we_cut ha (by omega) (by rw [hd.ln (k + j) (by omega)]; exact hbn), show a / 2 + (t - a / 2) = t from by omega] at hr
    exact hr.symm
  · intro h
    refine ext_gl (by rw [par_length, cutL, List.length_map, List.length_drop, hd.lt]; omega) fun j hj => ?_
    rw [par_length] at hj
    rw [gl_par _ _ _ _ _ hj, hrow j hj]
    refine bytes_ext (n := (b - a) / 2) (by rw [parTo_length]; omega) (by rw [List.length_take, List.length_drop, hd.ln (k + j) (by omega)]; omega) (parTo_lt _ _ _ _ _) (gn_take_lt (hb _) _ _) fun t ht => ?_
    rw [hwd _ (by omega), we_cut ha (by omega) (by rw [hd.ln (k + j) (by omega)]; exact hbn)]
    exact (h (a / 2 + t) (by omega) (by omega) j hj).symm
/-- Which rows differ. -/
def turned (t : Nat) (L L0 : List (List Nat)) : Nat := cnt t (fun i => decide (gl L i ≠ gl L0 i))
/-- Is no byte of word t turned? -/
def clean (r : Nat) (L L0 : List (List Nat)) (t : Nat) : Prop := ∀ i, i < r → gn (gl L i) (2 * t) = gn (gl L0 i) (2 * t) ∧ gn (gl L i) (2 * t + 1) = gn (gl L0 i) (2 * t + 1)
theorem clean_we {r : Nat} {L L0 : List (List Nat)} {t : Nat} (h : clean r L L0 t) (i : Nat) (hi : i < r) : we (gl L i) t = we (gl L0 i) t := by
  unfold we wdAt; rw [(h i hi).1, (h i hi).2]
theorem we_clean {r : Nat} {L L0 : List (List Nat)} {t : Nat} (hL : Byt L) (hL0 : Byt L0) (h : ∀ i, i < r → we (gl L i) t = we (gl L0 i) t) : clean r L L0 t := by
  intro i hi
  have h1 := gf_inj (wdAt_lt (hL i) t) (wdAt_lt (hL0 i) t) (h i hi)
  exact wd_inj (hL i _) (hL0 i _) h1
theorem ok_clean {k m : Nat} {L L0 : List (List Nat)} {t : Nat} (h0 : okWord k m L0 t) (hc : clean (k + m) L L0 t) : okWord k m L t := by
  intro j hj
  rw [clean_we hc (k + j) (by omega), h0 j hj]
  exact sm_congr fun i hi => by rw [clean_we hc i (by omega)]
/-- Few turned rows: a word that still fits has no turned byte. -/
theorem ok_few {k m : Nat} {L L0 : List (List Nat)} {t : Nat} (h : prm k (m : Int)) (hL : Byt L) (hL0 : Byt L0) (h0 : okWord k m L0 t) (h1 : okWord k m L t) (hf : turned (k + m) L L0 ≤ m) : clean (k + m) L L0 t := by
  refine we_clean hL hL0 fun i hi => ?_
  have := mds h (fun i => we (gl L i) t + we (gl L0 i) t) (fun j hj => by
    show we (gl L (k + j)) t + we (gl L0 (k + j)) t = _
    rw [h1 j hj, h0 j hj, ← sm_add]
    exact sm_congr fun i _ => by rw [GF.mul_add]) (Nat.le_trans (cnt_mono fun i _ he => by
      have he : we (gl L i) t + we (gl L0 i) t ≠ 0 := of_decide_eq_true he
      refine decide_eq_true fun e => he ?_
      rw [e, GF.add_self]) hf) i hi
  exact GF.add_eq_zero this
theorem okSpan_all {k m n : Nat} {ds : List (List Nat)} (hd : Ds k n ds) : okSpan k m 0 n (ds ++ par k m n ds) := by
  unfold okSpan
  rw [← hd.lk, List.take_left, List.drop_left, hd.lk, Nat.sub_zero]
  have e1 : cutL 0 n ds = ds := by
    unfold cutL
    conv => rhs; rw [← List.map_id ds]
    apply List.map_congr_left
    intro l hl
    obtain ⟨i, hi, rfl⟩ := List.getElem_of_mem hl
    have := hd.ln i (by have := hd.lk; omega)
    rw [gl_get _ _ hi] at this
    rw [List.drop_zero, Nat.sub_zero, List.take_of_length_le (by omega)]; rfl
  have e2 : cutL 0 n (par k m n ds) = par k m n ds := by
    unfold cutL
    conv => rhs; rw [← List.map_id (par k m n ds)]
    apply List.map_congr_left
    intro l hl
    unfold par at hl
    obtain ⟨j, _, rfl⟩ := List.mem_map.1 hl
    rw [List.drop_zero, Nat.sub_zero, List.take_of_length_le (by rw [parTo_length]; omega)]; rfl
  rw [e1, e2]
/-- What the law asks of Verify. -/
theorem tells {k m n : Nat} {L L0 : List (List Nat)} (h : prm k (m : Int)) (hd : Ev (k + m) n L) (hd0 : Ev (k + m) n L0) (hL : Byt L) (hL0 : Byt L0) (h0 : okSpan k m 0 n L0) :
    (turned (k + m) L L0 = 0 → okSpan k m 0 n L) ∧ (0 < turned (k + m) L L0 → turned (k + m) L L0 ≤ m → ¬ okSpan k m 0 n L) ∧
    (∀ t, 2 * t + 1 < n → (clean (k + m) L L0 t → okSpan k m (2 * t) (2 * t + 2) L) ∧ (¬ clean (k + m) L L0 t → turned (k + m) L L0 ≤ m → ¬ okSpan k m (2 * t) (2 * t + 2) L)) := by
  have hk1 := h.1
  have hsp : Sp 0 n n := ⟨by omega, by omega, rfl, hd.even⟩
  have hw0 : ∀ t, 2 * t + 1 < n → okWord k m L0 t := fun t ht => (ok_iff hd0 hL0 hk1 hd.pos hsp).1 h0 t (by omega) ht
  have hsp2 : ∀ t, 2 * t + 1 < n → Sp (2 * t) (2 * t + 2) n := fun t ht => ⟨by omega, by omega, by omega, by omega⟩
  refine ⟨fun hz => ?_, fun hp hm hok => ?_, fun t ht => ⟨fun hc => ?_, fun hc hm hok => ?_⟩⟩
  · have : L = L0 := by
      refine ext_gl (by rw [hd.lt, hd0.lt]) fun i hi => ?_
      apply Classical.byContradiction
      intro hne
      obtain ⟨q, hq, _⟩ := pk_all (n := k + m) (p := fun i => decide (gl L i ≠ gl L0 i)) (i := i) (by rw [← hd.lt]; exact hi) (decide_eq_true hne)
      unfold turned at hz; omega
    rw [this]; exact h0
  · obtain ⟨i, hi, hne⟩ : ∃ i, i < k + m ∧ gl L i ≠ gl L0 i := ⟨_, pk_lt hp, of_decide_eq_true (pk_is hp)⟩
    refine hne (ext_gn (by rw [hd.ln i hi, hd0.ln i hi]) fun x hx => ?_)
    rw [hd.ln i hi] at hx
    have hev := hd.even
    have hcl := ok_few h hL hL0 (hw0 (x / 2) (by omega)) ((ok_iff hd hL hk1 hd.pos hsp).1 hok (x / 2) (by omega) (by omega)) hm i hi
    by_cases e : x % 2 = 0
    · have := hcl.1
      rwa [show 2 * (x / 2) = x from by omega] at this
    · have := hcl.2
      rwa [show 2 * (x / 2) + 1 = x from by omega] at this
  · refine (ok_iff hd hL hk1 (by omega) (hsp2 t ht)).2 fun t' h1 h2 => ?_
    obtain rfl : t' = t := by omega
    exact ok_clean (hw0 t' ht) hc
  · exact hc (ok_few h hL hL0 (hw0 t ht) ((ok_iff hd hL hk1 (by omega) (hsp2 t ht)).1 hok t (by omega) (by omega)) hm)
end Go.Proofs.Ytpnmmedjamkmeaa
