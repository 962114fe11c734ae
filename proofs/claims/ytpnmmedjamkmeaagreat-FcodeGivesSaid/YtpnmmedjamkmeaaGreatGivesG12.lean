/- The code tells its errors: shards turned in 1 to m places are told, word by word. -/
import Derived.Lib.SmallJoins
import Derived.Deep.Matrix
import Derived.Deep.Fields
import Derived.SizedLaws
import Derived.OpenShut
import Derived.ChangeSlices
import Derived.Test.YtpnmmedjamkmeaaGreatGivesG8
import Derived.Test.YtpnmmedjamkmeaaGreatGivesG6
import Derived.Test.YtpnmmedjamkmeaaGreatGivesG11
set_option linter.unusedVariables false
set_option linter.unusedSimpArgs false
namespace Go.Proofs.YtpnmmedjamkmeaaGreat

instance : DecidableEq GF := fun a b => if h : a.v = b.v then isTrue (GF.ext h) else isFalse (fun e => h (congrArg GF.v e))

/-- The minimum distance: a codeword with at most m places that are not 0 is 0. -/
theorem mds {k m : Nat} (h : prm k (m : Int)) (e : Nat → GF) (he : ∀ j, j < m → e (k + j) = sm k (fun i => fe' m j i * e i)) (hc : cnt (k + m) (fun i => decide (e i ≠ 0)) ≤ m) :
    ∀ i, i < k + m → e i = 0 := by
  obtain ⟨h1, h2, h3, h4, h5⟩ := h
  rw [Int.toNat_natCast] at h5
  have hM := p2_pos m
  have hMm := le_p2 m
  have hin : ∀ i, i < k → p2 m + i < 65536 := fun i hi => by omega
  have hmm : ∀ j, j < m → j < p2 m := fun j hj => by omega
  rw [cnt_add] at hc
  have hn := cnt_not m (fun j => decide (e (k + j) ≠ 0))
  have hle : cnt k (fun i => decide (e i ≠ 0)) ≤ cnt m (fun j => !decide (e (k + j) ≠ 0)) := by omega
  have hdata : ∀ i, i < k → e i = 0 := by
    intro i hi
    apply Classical.byContradiction
    intro hne
    obtain ⟨q, hq, hqi⟩ := pk_all (p := fun i => decide (e i ≠ 0)) hi (by simpa using hne)
    have key := cauchy (cnt k (fun i => decide (e i ≠ 0))) (fun q => e (pk k (fun i => decide (e i ≠ 0)) q) * gw ((p2 m + pk k (fun i => decide (e i ≠ 0)) q) / p2 m))
      (fun q => gw (p2 m + pk k (fun i => decide (e i ≠ 0)) q)) (fun q => gw (pk m (fun j => !decide (e (k + j) ≠ 0)) q))
      (fun a b ha hb hab hg => by
        have := gw_inj (hin _ (pk_lt ha)) (hin _ (pk_lt hb)) hg
        exact hab (pk_inj ha hb (by omega)))
      (fun a b ha hb hab hg => by
        have h1 := pk_lt (p := fun j => !decide (e (k + j) ≠ 0)) (n := m) (q := a) (by omega)
        have h2 := pk_lt (p := fun j => !decide (e (k + j) ≠ 0)) (n := m) (q := b) (by omega)
        have := gw_inj (by omega) (by omega) hg
        exact hab (pk_inj (by omega) (by omega) this))
      (fun a b ha hb hg => by
        have h1 := pk_lt (p := fun j => !decide (e (k + j) ≠ 0)) (n := m) (q := b) (by omega)
        have h2 := pk_lt ha
        have h3 := hmm _ h1
        have := gw_inj (by omega) (hin _ h2) hg
        omega)
      (fun b hb => by
        have hbm : b < cnt m (fun j => !decide (e (k + j) ≠ 0)) := by omega
        have h1 := pk_lt hbm
        have h2 := pk_is hbm
        have h3 : e (k + pk m (fun j => !decide (e (k + j) ≠ 0)) b) = 0 := by simpa using h2
        have h4 := he _ h1
        rw [h3] at h4
        rw [sm_pick k (fun i => decide (e i ≠ 0)) _ (fun i _ hz => by
          have : e i = 0 := by simpa using hz
          rw [this, GF.mul_zero])] at h4
        refine Eq.trans (sm_congr fun a _ => ?_) h4.symm
        unfold fe'
        ac_rfl) q hq
    rw [hqi] at key
    rcases GF.mul_eq_zero key with h | h
    · exact hne h
    · have hd : 1 ≤ (p2 m + i) / p2 m := by rw [Nat.le_div_iff_mul_le (by omega)]; omega
      have hl : (p2 m + i) / p2 m < 65536 := Nat.lt_of_le_of_lt (Nat.div_le_self _ _) (hin i hi)
      have := gw_inj hl (show 0 < 65536 by omega) (by rw [h, gw_zero])
      omega
  intro i hi
  by_cases hik : i < k
  · exact hdata i hik
  · obtain ⟨j, rfl⟩ : ∃ j, i = k + j := ⟨i - k, by omega⟩
    rw [he j (by omega)]
    exact sm_zero' fun i hi => by rw [hdata i hi, GF.mul_zero]

/-- A word within a span. -/
theorem wdAt_cut {a b : Nat} {l : List Nat} {t : Nat} (ha : a % 2 = 0) (ht : a + 2 * t + 1 < b) (hb : b ≤ l.length) : wdAt ((l.drop a).take (b - a)) t = wdAt l (a / 2 + t) := by
  unfold wdAt
  rw [gn_cut (by omega) hb, gn_cut (by omega) hb, show 2 * (a / 2 + t) = a + 2 * t from by omega, Nat.add_assoc]
theorem we_cut {a b : Nat} {l : List Nat} {t : Nat} (ha : a % 2 = 0) (ht : a + 2 * t + 1 < b) (hb : b ≤ l.length) : we ((l.drop a).take (b - a)) t = we l (a / 2 + t) := by
  unfold we; rw [wdAt_cut ha ht hb]
/-- Do the rows stand as the code asks, at word t? -/
def okWord (k m : Nat) (ls : List (List Nat)) (t : Nat) : Prop := ∀ j, j < m → we (gl ls (k + j)) t = sm k (fun i => fe' m j i * we (gl ls i) t)
theorem ok_iff {k m n a b : Nat} {ls : List (List Nat)} (hd : Ev (k + m) n ls) (hb : Byt ls) (hk1 : 1 ≤ k) (hab : a < b) (hsp : Sp a b n) :
    okSpan k m a b ls ↔ ∀ t, a ≤ 2 * t → 2 * t + 1 < b → okWord k m ls t := by
  have hD : Ds k (b - a) (cutL a b (ls.take k)) := Ds.cut hd hb (by omega) hab hsp.bn hsp.ea hsp.eb
  have ha := hsp.ea
  have heb := hsp.eb
  have hbn := hsp.bn
  have hrow : ∀ j, j < m → gl (cutL a b (ls.drop k)) j = ((gl ls (k + j)).drop a).take (b - a) := fun j hj => by
    rw [gl_cut _ _ _ _ (by rw [List.length_drop, hd.lt]; omega), gl_drop]
  have hwd : ∀ t, a + 2 * t + 1 < b → ∀ j, we (parTo m (b - a) (cutL a b (ls.take k)) j k) t = sm k (fun i => fe' m j i * we (gl ls i) (a / 2 + t)) := by
    intro t ht j
    rw [we_parTo hD.even hD.lb j t (by omega)]
    refine sm_congr fun i hi => ?_
    rw [gl_cut _ _ _ _ (by rw [List.length_take, hd.lt]; omega), gl_take _ _ _ hi, we_cut ha ht (by rw [hd.ln i (by omega)]; exact hbn)]
  unfold okSpan
  constructor
  · intro h t h1 h2 j hj
    have hr := congrArg (fun l => we (gl l j) (t - a / 2)) h
    simp only [gl_par _ _ _ _ _ hj, hrow j hj] at hr
    rw [hwd _ (by omega), we_cut ha (by omega) (by rw [hd.ln (k + j) (by omega)]; exact hbn), show a / 2 + (t - a / 2) = t from by omega] at hr
    exact hr.symm
  · intro h
    refine ext_gl (by rw [par_length, cutL, List.length_map, List.length_drop, hd.lt]; omega) fun j hj => ?_
    rw [par_length] at hj
    rw [gl_par _ _ _ _ _ hj, hrow j hj]
    refine bytes_ext (n := (b - a) / 2) (by rw [parTo_length]; omega) (by rw [List.length_take, List.length_drop, hd.ln (k + j) (by omega)]; omega) (parTo_lt _ _ _ _ _) (gn_take_lt (hb _) _ _) fun t ht => ?_
    rw [hwd _ (by omega), we_cut ha (by omega) (by rw [hd.ln (k + j) (by omega)]; exact hbn)]
    exact (h (a / 2 + t) (by omega) (by omega) j hj).symm
/-- Which rows differ. -/
def turned (t : Nat) (L L0 : List (List Nat)) : Nat := cnt t (fun i => decide (gl L i ≠ gl L0 i))
/-- Is no byte of word t turned? -/
def clean (r : Nat) (L L0 : List (List Nat)) (t : Nat) : Prop := ∀ i, i < r → gn (gl L i) (2 * t) = gn (gl L0 i) (2 * t) ∧ gn (gl L i) (2 * t + 1) = gn (gl L0 i) (2 * t + 1)
theorem clean_we {r : Nat} {L L0 : List (List Nat)} {t : Nat} (h : clean r L L0 t) (i : Nat) (hi : i < r) : we (gl L i) t = we (gl L0 i) t := by
  unfold we wdAt; rw [(h i hi).1, (h i hi).2]
theorem we_clean {r : Nat} {L L0 : List (List Nat)} {t : Nat} (hL : Byt L) (hL0 : Byt L0) (h : ∀ i, i < r → we (gl L i) t = we (gl L0 i) t) : clean r L L0 t := by
  intro i hi
  have h1 := gf_inj (wdAt_lt (hL i) t) (wdAt_lt (hL0 i) t) (h i hi)
  exact wd_inj (hL i _) (hL0 i _) h1
theorem ok_clean {k m : Nat} {L L0 : List (List Nat)} {t : Nat} (h0 : okWord k m L0 t) (hc : clean (k + m) L L0 t) : okWord k m L t := by
  intro j hj
  rw [clean_we hc (k + j) (by omega), h0 j hj]
  exact sm_congr fun i hi => by rw [clean_we hc i (by omega)]
/-- Few turned rows: a word that still fits has no turned byte. -/
theorem ok_few {k m : Nat} {L L0 : List (List Nat)} {t : Nat} (h : prm k (m : Int)) (hL : Byt L) (hL0 : Byt L0) (h0 : okWord k m L0 t) (h1 : okWord k m L t) (hf : turned (k + m) L L0 ≤ m) : clean (k + m) L L0 t := by
  refine we_clean hL hL0 fun i hi => ?_
  have := mds h (fun i => we (gl L i) t + we (gl L0 i) t) (fun j hj => by
    show we (gl L (k + j)) t + we (gl L0 (k + j)) t = _
    rw [h1 j hj, h0 j hj, ← sm_add]
    exact sm_congr fun i _ => by rw [GF.mul_add]) (Nat.le_trans (cnt_mono fun i _ he => by
      have he : we (gl L i) t + we (gl L0 i) t ≠ 0 := of_decide_eq_true he
      refine decide_eq_true fun e => he ?_
      rw [e, GF.add_self]) hf) i hi
  exact GF.add_eq_zero this
theorem okSpan_all {k m n : Nat} {ds : List (List Nat)} (hd : Ds k n ds) : okSpan k m 0 n (ds ++ par k m n ds) := by
  unfold okSpan
  rw [← hd.lk, List.take_left, List.drop_left, hd.lk, Nat.sub_zero]
  have e1 : cutL 0 n ds = ds := by
    unfold cutL
    conv => rhs; rw [← List.map_id ds]
    apply List.map_congr_left
    intro l hl
    obtain ⟨i, hi, rfl⟩ := List.getElem_of_mem hl
    have := hd.ln i (by have := hd.lk; omega)
    rw [gl_get _ _ hi] at this
    rw [List.drop_zero, Nat.sub_zero, List.take_of_length_le (by omega)]; rfl
  have e2 : cutL 0 n (par k m n ds) = par k m n ds := by
    unfold cutL
    conv => rhs; rw [← List.map_id (par k m n ds)]
    apply List.map_congr_left
    intro l hl
    unfold par at hl
    obtain ⟨j, _, rfl⟩ := List.mem_map.1 hl
    rw [List.drop_zero, Nat.sub_zero, List.take_of_length_le (by rw [parTo_length]; omega)]; rfl
  rw [e1, e2]
/-- What the law asks of Verify. -/
theorem tells {k m n : Nat} {L L0 : List (List Nat)} (h : prm k (m : Int)) (hd : Ev (k + m) n L) (hd0 : Ev (k + m) n L0) (hL : Byt L) (hL0 : Byt L0) (h0 : okSpan k m 0 n L0) :
    (turned (k + m) L L0 = 0 → okSpan k m 0 n L) ∧ (0 < turned (k + m) L L0 → turned (k + m) L L0 ≤ m → ¬ okSpan k m 0 n L) ∧
    (∀ t, 2 * t + 1 < n → (clean (k + m) L L0 t → okSpan k m (2 * t) (2 * t + 2) L) ∧ (¬ clean (k + m) L L0 t → turned (k + m) L L0 ≤ m → ¬ okSpan k m (2 * t) (2 * t + 2) L)) := by
  have hk1 := h.1
  have hsp : Sp 0 n n := ⟨by omega, by omega, rfl, hd.even⟩
  have hw0 : ∀ t, 2 * t + 1 < n → okWord k m L0 t := fun t ht => (ok_iff hd0 hL0 hk1 hd.pos hsp).1 h0 t (by omega) ht
  have hsp2 : ∀ t, 2 * t + 1 < n → Sp (2 * t) (2 * t + 2) n := fun t ht => ⟨by omega, by omega, by omega, by omega⟩
  refine ⟨fun hz => ?_, fun hp hm hok => ?_, fun t ht => ⟨fun hc => ?_, fun hc hm hok => ?_⟩⟩
  · have : L = L0 := by
      refine ext_gl (by rw [hd.lt, hd0.lt]) fun i hi => ?_
      apply Classical.byContradiction
      intro hne
      obtain ⟨q, hq, _⟩ := pk_all (n := k + m) (p := fun i => decide (gl L i ≠ gl L0 i)) (i := i) (by rw [← hd.lt]; exact hi) (decide_eq_true hne)
      unfold turned at hz; omega
    rw [this]; exact h0
  · obtain ⟨i, hi, hne⟩ : ∃ i, i < k + m ∧ gl L i ≠ gl L0 i := ⟨_, pk_lt hp, of_decide_eq_true (pk_is hp)⟩
    refine hne (ext_gn (by rw [hd.ln i hi, hd0.ln i hi]) fun x hx => ?_)
    rw [hd.ln i hi] at hx
    have hev := hd.even
    have hcl := ok_few h hL hL0 (hw0 (x / 2) (by omega)) ((ok_iff hd hL hk1 hd.pos hsp).1 hok (x / 2) (by omega) (by omega)) hm i hi
    by_cases e : x % 2 = 0
    · have := hcl.1
      rwa [show 2 * (x / 2) = x from by omega] at this
    · have := hcl.2
      rwa [show 2 * (x / 2) + 1 = x from by omega] at this
  · refine (ok_iff hd hL hk1 (by omega) (hsp2 t ht)).2 fun t' h1 h2 => ?_
    obtain rfl : t' = t := by omega
    exact ok_clean (hw0 t' ht) hc
  · exact hc (ok_few h hL hL0 (hw0 t ht) ((ok_iff hd hL hk1 (by omega) (hsp2 t ht)).1 hok t (by omega) (by omega)) hm)
end Go.Proofs.YtpnmmedjamkmeaaGreat

/- The walk of FcodeTells. -/
set_option linter.unusedSimpArgs false
set_option linter.unusedVariables false
set_option linter.unusedSimpArgs false
namespace Go.Proofs.YtpnmmedjamkmeaaGreat
open Go.RowKit

/-- What a slice of n hits reads as: each a shard's number, a place, a byte. -/
def Ht (w : World) (p : Option Addr) (n : Nat) : Prop :=
  ∀ i, i < n → ∃ (b off : Nat) (x y : Int) (z : Nat), p = some ⟨b, off, none⟩ ∧ w.cell? ⟨b, off + i * 3, none⟩ = some (.int .i64 x) ∧ w.cell? ⟨b, off + i * 3 + 1, none⟩ = some (.int .i64 y) ∧
    w.cell? ⟨b, off + i * 3 + 2, none⟩ = some (.int .u8 (z : Int)) ∧ z < 256
theorem Ht.keptNo {w w' : World} {p : Option Addr} {n : Nat} (h : Ht w p n) (hc : Chg No w w') : Ht w' p n := by
  intro i hi
  obtain ⟨b, off, x, y, z, rfl, h1, h2, h3, h4⟩ := h i hi
  exact ⟨b, off, x, y, z, rfl, hc.cell h1 id, hc.cell h2 id, hc.cell h3 id, h4⟩
/-- Rows that were made, with their slice. -/
theorem RowsV.some {w : World} {eo ei : TypeId} {k : IntKind} {base : Nat} {v : Value} {xs : List Pc} (h : RowsV w eo ei k base v xs) (h0 : 0 < xs.length) :
    ∃ G r0, v = .slice (some ⟨G, 0, none⟩) xs.length (xs.length + r0.length) ∧ Rws w eo ei k G xs r0 ∧ base ≤ G ∧ xs.length + r0.length ≤ maxLen ∧ ∀ x ∈ xs, base ≤ x.b := by
  rcases h with ⟨_, rfl⟩ | h
  · simp at h0
  · exact h
theorem Rws.other' {w : World} {eo ei : TypeId} {k : IntKind} {G : Nat} {xs ys : List Pc} {r0 : List Value} (h : Rws w eo ei k G xs r0) (hx : xs.map Pc.b = ys.map Pc.b) : ∀ q, InB xs q ↔ InB ys q := by
  intro q
  unfold InB
  have e : ∀ zs : List Pc, (∃ x ∈ zs, q = x.b) ↔ q ∈ zs.map Pc.b := fun zs => by
    rw [List.mem_map]; exact ⟨fun ⟨x, hx, e⟩ => ⟨x, hx, e.symm⟩, fun ⟨x, hx, e⟩ => ⟨x, hx, e.symm⟩⟩
  rw [e, e, hx]
/-- An index by a remainder, as the law has it. -/
theorem wrapIdx (x : Int) (K : Nat) (h : 0 < K) : ∃ i : Nat, i < K ∧ (x.tmod (K : Int) + (K : Int)).tmod (K : Int) = (i : Int) := by
  have h1 : -(K : Int) < x.tmod K := by
    have := Int.lt_tmod_of_pos x (b := (K : Int)) (by omega); omega
  have h2 : 0 ≤ x.tmod K + K := by omega
  have h3 : (x.tmod (K : Int) + (K : Int)).tmod (K : Int) = (x.tmod (K : Int) + (K : Int)) % (K : Int) := Int.tmod_eq_emod_of_nonneg h2
  have h4 := Int.emod_nonneg (x.tmod (K : Int) + (K : Int)) (show (K : Int) ≠ 0 by omega)
  have h5 := Int.emod_lt_of_pos (x.tmod (K : Int) + (K : Int)) (show (0 : Int) < K by omega)
  exact ⟨((x.tmod (K : Int) + (K : Int)) % (K : Int)).toNat, by omega, by rw [h3]; omega⟩
theorem wrapIdx3 (x : Int) (k m : Nat) (h : 0 < k + m) (hs : k + m ≤ 131072) : ∃ i : Nat, i < k + m ∧ (wrap64 (wrap64 (x.tmod ((k + m : Nat) : Int) + (k : Int)) + (m : Int))).tmod ((k + m : Nat) : Int) = (i : Int) := by
  obtain ⟨i, hi, he⟩ := wrapIdx x (k + m) h
  refine ⟨i, hi, ?_⟩
  have h1 : -((k + m : Nat) : Int) < x.tmod ((k + m : Nat) : Int) := by
    have := Int.lt_tmod_of_pos x (b := ((k + m : Nat) : Int)) (by omega); omega
  have h2 : x.tmod ((k + m : Nat) : Int) < ((k + m : Nat) : Int) := Int.tmod_lt_of_pos x (by omega)
  generalize x.tmod ((k + m : Nat) : Int) = y at *
  have e1 : wrap64 (y + (k : Int)) = y + (k : Int) := by unfold wrap64; omega
  rw [e1]
  have e2 : wrap64 (y + (k : Int) + (m : Int)) = y + ((k + m : Nat) : Int) := by unfold wrap64; omega
  rw [e2, he]
theorem gl_set (ls : List (List Nat)) (i j : Nat) (d : List Nat) (h : i < ls.length) : gl (ls.set i d) j = if j = i then d else gl ls j := by
  simp only [gl, List.getD_eq_getElem?_getD, List.getElem?_set]
  split
  · subst_vars; simp [h]
  · rw [if_neg (by omega)]
theorem Ev.set {t n : Nat} {ls : List (List Nat)} (h : Ev t n ls) {i : Nat} (hi : i < t) {d : List Nat} (hd : d.length = n) : Ev t n (ls.set i d) := by
  refine ⟨by rw [List.length_set, h.lt], fun j hj => ?_, h.even, h.small, h.pos, h.tpos, h.tsmall⟩
  rw [gl_set _ _ _ _ (by rw [h.lt]; exact hi)]
  split
  · exact hd
  · exact h.ln j hj
theorem Byt.set {ls : List (List Nat)} (h : Byt ls) {i : Nat} (hi : i < ls.length) {d : List Nat} (hd : ∀ x, gn d x < 256) : Byt (ls.set i d) := by
  intro j x
  rw [gl_set _ _ _ _ hi]
  split
  · exact hd x
  · exact h j x
theorem map_set_d (xs : List Pc) (i : Nat) (y : Pc) : (xs.set i y).map Pc.d = (xs.map Pc.d).set i y.d := by rw [List.map_set]
theorem map_set_b (xs : List Pc) (i : Nat) (h : i < xs.length) (d : List Nat) : (xs.set i { xs[i] with d := d }).map Pc.b = xs.map Pc.b := by
  apply List.ext_getElem (by simp)
  intro j h1 h2
  rw [List.getElem_map, List.getElem_map, List.getElem_set]
  split
  · subst_vars; rfl
  · rfl
/-- A row of truths. -/
def bw (f : Nat → Bool) (n : Nat) : List Value := (List.range n).map fun t => .bool (f t)
@[simp] theorem bw_length (f : Nat → Bool) (n : Nat) : (bw f n).length = n := by simp [bw]
theorem bw_get (f : Nat → Bool) (n i : Nat) (h : i < n) : (bw f n)[i]? = some (.bool (f i)) := by simp [bw, h]
theorem bw_set (f : Nat → Bool) (n i : Nat) (b : Bool) (h : i < n) : (bw f n).set i (.bool b) = bw (fun t => if t = i then b else f t) n := by
  apply List.ext_getElem (by simp)
  intro j h1 h2
  simp only [List.length_set, bw_length] at h1
  rw [List.getElem_set]
  simp only [bw, List.getElem_map, List.getElem_range]
  split
  · subst_vars; simp
  · rw [if_neg (by omega)]
theorem bw_congr {f g : Nat → Bool} {n : Nat} (h : ∀ t, t < n → f t = g t) : bw f n = bw g n := by
  apply List.map_congr_left
  intro t ht
  rw [h t (List.mem_range.1 ht)]
theorem bw_false (n : Nat) : bw (fun _ => false) n = List.replicate n (.bool false) := by
  apply List.ext_getElem (by simp)
  intro j h1 h2
  simp [bw]
def dataV (m : Int) (p q : Option Addr) (k c ll lc : Nat) : Value := .agg #[.int .i64 m, .slice p k c, .slice q ll lc]

end Go.Proofs.YtpnmmedjamkmeaaGreat

/- Arguments of the laws of layer 18, opened: rows of bytes, hits, shards with their numbers. -/
set_option linter.unusedSimpArgs false
set_option linter.unusedVariables false
set_option linter.unusedSimpArgs false
namespace Go.Proofs.YtpnmmedjamkmeaaGreat
open Go.RowKit Go.ChangeShapes Go.WideShapes Go.Deep Go.Joins

section
variable {H : Type} {enc : TypeId × Value → H} {P : Program}
theorem weightsAll_mem {e : TypeId} : ∀ {l : List (DataW H)} {d : DataW H}, d ∈ l → ∀ n ∈ d.weights P e, n ∈ DataW.weightsAll P e l
  | d' :: r, d, hd, n, hn => by
    simp only [DataW.weightsAll, List.mem_append]
    rcases List.mem_cons.1 hd with rfl | h
    · exact Or.inl hn
    · exact Or.inr (weightsAll_mem h n hn)
/-- The reach of a slice, and of a row inside a slice of slices. -/
theorem slice_weight {t e : TypeId} {elems spare : List (DataW H)} (hu : P.underlying t = some (.slice e)) : (elems.length + spare.length) * P.bytesOf e ∈ (DataW.slice elems spare).weights P t := by
  simp [DataW.weights, hu]
theorem row_weight {t e q : TypeId} {elems spare e' sp' : List (DataW H)} (hu : P.underlying t = some (.slice e)) (hu2 : P.underlying e = some (.slice q)) (hx : DataW.slice e' sp' ∈ elems) :
    (e'.length + sp'.length) * P.bytesOf q ∈ (DataW.slice elems spare).weights P t := by
  simp only [DataW.weights, hu, List.mem_cons, List.mem_append]
  exact Or.inr (Or.inl (weightsAll_mem hx _ (slice_weight hu2)))
end
theorem u8_wf {n : Int} (h : (Lit.int .u8 n).wf = true) : 0 ≤ n ∧ n < 256 := by
  have := bounds_u8 h
  omega
theorem plain_addr {w : World} {a : Addr} {v : Value} (h : w.cell? (a.add 0) = some v) : ∃ b off, a = ⟨b, off, none⟩ := by
  obtain ⟨b, off, key⟩ := a
  cases key with
  | none => exact ⟨b, off, rfl⟩
  | some k =>
    simp only [Addr.add, if_true, World.cell?, Option.isSome_some] at h
    split at h <;> simp at h
theorem add_zero' (a : Addr) : a.add 0 = a := by unfold Addr.add; rw [if_pos rfl]
theorem add_plain (b off i : Nat) : (⟨b, off, none⟩ : Addr).add i = ⟨b, off + i, none⟩ := by unfold Addr.add; split <;> simp_all
theorem reach_eq : reachBytes = 140737488351232 := rfl
theorem bytes42 : Tryz.prog.bytesOf 35 = 24 := by kernel_rfl
theorem bytes5 : Tryz.prog.bytesOf 5 = 1 := by kernel_rfl
theorem cells42 : Tryz.prog.cellsOf 35 = 1 := by kernel_rfl
theorem cells5 : Tryz.prog.cellsOf 5 = 1 := by kernel_rfl

section
variable {H : Type} {enc : TypeId × Value → H} {w : World} {base : Nat}
/-- Rows of bytes that came in: what they read as. -/
theorem open_rows {fuel : Nat} {cs : List Value} {x : DataW H × List MemPlace} (h : DataW.trod enc Tryz.prog w base (fun _ => true) true fuel 22 cs = some x)
    (hw : ∀ n ∈ x.1.weights Tryz.prog 22, n ≤ reachBytes) :
    ∃ (p : Option Addr) (len cap : Nat) (ds : List (List Nat)), cs = [.slice p len cap] ∧ Lr w .u8 p ds ∧ ds.length = len ∧ Byt ds ∧ len * 24 ≤ 140737488351232 ∧ len ≤ cap := by
  rcases open_int_rows Tryz.underlying22 Tryz.underlying35 Tryz.underlying5 cells42 cells5 h with ⟨rfl, rfl⟩ | ⟨a, len, cap, A, L, C, Z, rfl, hb, hlc, hcm, rfl, hr⟩
  · exact ⟨none, 0, 0, [], rfl, fun i hi => by simp at hi, rfl, fun i b => by simp [gl, gn], by omega, Nat.le_refl _⟩
  · have hlen : len * 24 ≤ 140737488351232 := by
      have := hw _ (slice_weight Tryz.underlying22)
      rw [bytes42] at this
      simp only [List.length_map, List.length_range, reach_eq] at this
      omega
    have hrow : ∀ r, r < len → L r ≤ 140737488351232 := by
      intro r hr'
      cases hA : A r with
      | none =>
        obtain ⟨_, h1, h2, _, _, h5, _⟩ := hr r (by omega)
        have := h5 hA
        omega
      | some a' =>
        obtain ⟨_, h1, h2, h3, _, _, _⟩ := hr r (by omega)
        have hx : DataW.slice (lits .u8 ((Z r).take (L r))) (lits .u8 ((Z r).drop (L r))) ∈ (List.range len).map fun r => (intRow .u8 (A r) (L r) (Z r) : DataW H) := by
          refine List.mem_map.2 ⟨r, List.mem_range.2 hr', ?_⟩
          rw [hA]; rfl
        have := hw _ (row_weight (sp' := lits .u8 ((Z r).drop (L r))) (spare := (List.range (cap - len)).map fun j => intRow .u8 (A (len + j)) (L (len + j)) (Z (len + j))) Tryz.underlying22 Tryz.underlying35 hx)
        rw [bytes5] at this
        simp only [lits, List.length_map, List.length_take, List.length_drop, reach_eq] at this
        omega
    refine ⟨some a, len, cap, (List.range len).map fun r => ((Z r).take (L r)).map Int.toNat, rfl, ?_, by simp, ?_, hlen, hlc⟩
    · intro i hi
      have hi' : i < len := by simpa using hi
      obtain ⟨h0, h1, h2, h3, h4, h5, h6⟩ := hr i (by omega)
      have hg : gl ((List.range len).map fun r => ((Z r).take (L r)).map Int.toNat) i = ((Z i).take (L i)).map Int.toNat := by
        rw [gl_get _ _ hi]; simp
      have hgl : (((Z i).take (L i)).map Int.toNat).length = L i := by simp; omega
      obtain ⟨b, off, rfl⟩ : ∃ b off, a = ⟨b, off, none⟩ := plain_addr (hr 0 (by omega)).1
      rw [add_plain] at h0
      refine ⟨b, off, A i, C i, rfl, by rw [hg, hgl]; exact h0, ?_, by rw [hg, hgl]; have := hrow i hi'; omega, by rw [hg, hgl]; exact h1⟩
      rw [hg]
      intro j hj
      rw [hgl] at hj
      cases hA : A i with
      | none => have := h5 hA; omega
      | some a' =>
        obtain ⟨hb', hc⟩ := h6 a' hA
        have hcj := hc j (by omega)
        obtain ⟨b', off', rfl⟩ : ∃ b off, a' = ⟨b, off, none⟩ := plain_addr (hc 0 (by omega))
        rw [add_plain] at hcj
        refine ⟨b', off', rfl, ?_⟩
        rw [hcj]
        have hz : j < (Z i).length := by omega
        have hwf := h4 ((Z i)[j]) (List.getElem_mem hz)
        have hrng := u8_wf hwf
        have : gn (((Z i).take (L i)).map Int.toNat) j = ((Z i)[j]).toNat := by
          rw [gn_get _ _ (by rw [hgl]; exact hj)]
          simp
        rw [this]
        simp only [List.getD_eq_getElem?_getD, List.getElem?_eq_getElem hz, Option.getD_some]
        congr 2
        omega
    · intro i x
      by_cases hi : i < len
      · obtain ⟨h0, h1, h2, h3, h4, h5, h6⟩ := hr i (by omega)
        rw [gl_get _ _ (by simpa using hi)]
        simp only [List.getElem_map, List.getElem_range]
        by_cases hx : x < (((Z i).take (L i)).map Int.toNat).length
        · rw [gn_get _ _ hx]
          simp only [List.getElem_map, List.getElem_take]
          have hz : x < (Z i).length := by simp at hx; omega
          have hwf := h4 ((Z i)[x]) (List.getElem_mem hz)
          have := u8_wf hwf
          omega
        · rw [gn_out _ _ (by omega)]; omega
      · rw [gl_out _ _ (by simpa using hi)]; simp [gn]
end
set_option maxRecDepth 100000 in
/-- The law's shards, with their numbers, as they come in. -/
theorem open_data {H : Type} {enc : TypeId × Value → H} {w : World} {base b0 : Nat} {r : Reach} {v : Value} {d : DataW H} {p : List MemPlace}
    (hv : Value.okWide Tryz.prog w r b0 25 v) (h : DataW.Trod enc Tryz.prog w base (fun _ => true) true 25 v d p)
    (hw : ∀ n ∈ d.weights Tryz.prog 25, n ≤ reachBytes) :
    ∃ (m : Int) (q q2 : Option Addr) (k c ll lc : Nat) (ds : List (List Nat)), v = .agg #[.int .i64 m, .slice q k c, .slice q2 ll lc] ∧ Lr w .u8 q ds ∧ ds.length = k ∧ Byt ds ∧ k * 24 ≤ 140737488351232 := by
  obtain ⟨v0, v1, v2, y0, y1, y2, n, rfl, rfl, rfl, h0, h1, h2⟩ := open_agg3 Tryz.underlying25 (by kernel_rfl) (by kernel_rfl) hv h
  obtain ⟨m, e0, _, _⟩ := DataW.trod_int Tryz.underlying3 h0
  obtain ⟨q, k, c, ds, e1, hl, hlk, hb, hk, _⟩ := open_rows h1 (fun n hn => hw n (by
    simp only [DataW.weights, Tryz.underlying25]
    exact DataW.weights_mem_each (j := 1) rfl rfl n hn))
  simp only [List.cons.injEq, and_true] at e0 e1
  subst e0 e1
  rcases open_slice Tryz.underlying23 h2 with ⟨e2, _⟩ | ⟨a, len, cap, _, _, _, _, e2, _⟩
  · simp only [List.cons.injEq, and_true] at e2
    subst e2
    exact ⟨m, q, none, k, c, 0, 0, ds, rfl, hl, hlk, hb, hk⟩
  · simp only [List.cons.injEq, and_true] at e2
    subst e2
    exact ⟨m, q, some a, k, c, len, cap, ds, rfl, hl, hlk, hb, hk⟩
end Go.Proofs.YtpnmmedjamkmeaaGreat

/- Data with its hits, opened. -/
set_option linter.unusedSimpArgs false
set_option linter.unusedVariables false
set_option linter.unusedSimpArgs false
namespace Go.Proofs.YtpnmmedjamkmeaaGreat
open Go.RowKit Go.ChangeShapes Go.WideShapes Go.Deep Go.Joins

set_option maxRecDepth 100000 in
theorem open_dataH {H : Type} {enc : TypeId × Value → H} {w : World} {base b0 : Nat} {r : Reach} {v : Value} {d : DataW H} {p : List MemPlace}
    (hv : Value.okWide Tryz.prog w r b0 25 v) (h : DataW.Trod enc Tryz.prog w base (fun _ => true) true 25 v d p)
    (hw : ∀ n ∈ d.weights Tryz.prog 25, n ≤ reachBytes) :
    ∃ (m : Int) (q q2 : Option Addr) (k c ll lc : Nat) (ds : List (List Nat)) (hs : List Int), v = .agg #[.int .i64 m, .slice q k c, .slice q2 ll lc] ∧ Lr w .u8 q ds ∧ ds.length = k ∧ Byt ds ∧ k * 24 ≤ 140737488351232 ∧ Rd w .i64 q2 hs ∧ hs.length = ll := by
  obtain ⟨v0, v1, v2, y0, y1, y2, n, rfl, rfl, rfl, h0, h1, h2⟩ := open_agg3 Tryz.underlying25 (by kernel_rfl) (by kernel_rfl) hv h
  obtain ⟨m, e0, _, _⟩ := DataW.trod_int Tryz.underlying3 h0
  obtain ⟨q, k, c, ds, e1, hl, hlk, hb, hk, _⟩ := open_rows h1 (fun n hn => hw n (by
    simp only [DataW.weights, Tryz.underlying25]
    exact DataW.weights_mem_each (j := 1) rfl rfl n hn))
  simp only [List.cons.injEq, and_true] at e0 e1
  subst e0 e1
  rcases open_ints Tryz.underlying23 Tryz.underlying3 (by kernel_rfl) h2 with ⟨e2, _⟩ | ⟨a, len, cap, zs, e2, _, hlc, hm, hz, _, hcell, _⟩
  · simp only [List.cons.injEq, and_true] at e2
    subst e2
    exact ⟨m, q, none, k, c, 0, 0, ds, [], rfl, hl, hlk, hb, hk, fun i hi => absurd hi (by simp), rfl⟩
  · simp only [List.cons.injEq, and_true] at e2
    subst e2
    simp only [if_true] at hz
    refine ⟨m, q, some a, k, c, len, cap, ds, zs.take len, rfl, hl, hlk, hb, hk, fun i hi => ?_, by rw [List.length_take]; omega⟩
    rw [List.length_take] at hi
    obtain ⟨b, off, rfl⟩ := plain_addr (hcell 0 (by omega))
    have := hcell i (by omega)
    rw [add_plain] at this
    refine ⟨b, off, rfl, ?_⟩
    rw [this]
    congr 2
    simp only [ga, List.getD_eq_getElem?_getD]
    rw [List.getElem?_take, if_pos (by omega)]
end Go.Proofs.YtpnmmedjamkmeaaGreat

/- Polynomials as lists of coefficients; sums over the first elements; the value at a parity's place of a polynomial that is known at the others. -/
set_option linter.unusedVariables false
set_option linter.unusedSimpArgs false
namespace Go.Proofs.YtpnmmedjamkmeaaGreat

/-- The value of a list of coefficients, the lowest first. -/
def evl : List GF → GF → GF
  | [], _ => 0
  | c :: l, y => c + y * evl l y
/-- The function h has d coefficients. -/
def Po (d : Nat) (h : GF → GF) : Prop := ∃ l : List GF, l.length = d ∧ ∀ y, h y = evl l y
theorem Po.congr {d : Nat} {f g : GF → GF} (h : Po d f) (e : ∀ y, g y = f y) : Po d g := by
  obtain ⟨l, hl, he⟩ := h
  exact ⟨l, hl, fun y => (e y).trans (he y)⟩
theorem Po.nil {h : GF → GF} (hp : Po 0 h) (y : GF) : h y = 0 := by
  obtain ⟨l, hl, he⟩ := hp
  obtain rfl := List.eq_nil_of_length_eq_zero hl
  exact he y
theorem Po.cons {d : Nat} {h : GF → GF} (hp : Po d h) (c : GF) : Po (d + 1) (fun y => c + y * h y) := by
  obtain ⟨l, hl, he⟩ := hp
  exact ⟨c :: l, by simp [hl], fun y => by show c + y * h y = c + y * evl l y; rw [he]⟩
theorem Po.uncons {d : Nat} {h : GF → GF} (hp : Po (d + 1) h) : ∃ c g, Po d g ∧ ∀ y, h y = c + y * g y := by
  obtain ⟨l, hl, he⟩ := hp
  match l, hl with
  | c :: l, hl => exact ⟨c, evl l, ⟨l, by simpa using hl, fun _ => rfl⟩, he⟩
theorem Po.none (d : Nat) : Po d (fun _ => 0) := by
  induction d with
  | zero => exact ⟨[], rfl, fun _ => rfl⟩
  | succ d ih => exact (ih.cons 0).congr fun y => by rw [GF.mul_zero, GF.add_zero]
theorem Po.more {d e : Nat} {h : GF → GF} (hp : Po d h) (hde : d ≤ e) : Po e h := by
  induction d generalizing e h with
  | zero => exact (Po.none e).congr fun y => hp.nil y
  | succ d ih =>
    obtain ⟨c, g, hg, he⟩ := hp.uncons
    obtain ⟨e', rfl⟩ : ∃ e', e = e' + 1 := ⟨e - 1, by omega⟩
    exact ((ih hg (by omega)).cons c).congr he
theorem Po.mulX {d : Nat} {h : GF → GF} (hp : Po d h) : Po (d + 1) (fun y => y * h y) := (hp.cons 0).congr fun y => (GF.zero_add _).symm
theorem Po.add {d : Nat} {f g : GF → GF} (hf : Po d f) (hg : Po d g) : Po d (fun y => f y + g y) := by
  induction d generalizing f g with
  | zero => exact (Po.none 0).congr fun y => by rw [hf.nil, hg.nil, GF.zero_add]
  | succ d ih =>
    obtain ⟨a, f', hf', ef⟩ := hf.uncons
    obtain ⟨b, g', hg', eg⟩ := hg.uncons
    exact ((ih hf' hg').cons (a + b)).congr fun y => by rw [ef, eg, GF.mul_add]; ac_rfl
theorem Po.smul {d : Nat} {f : GF → GF} (hf : Po d f) (c : GF) : Po d (fun y => c * f y) := by
  induction d generalizing f with
  | zero => exact (Po.none 0).congr fun y => by rw [hf.nil, GF.mul_zero]
  | succ d ih =>
    obtain ⟨a, f', hf', ef⟩ := hf.uncons
    exact ((ih hf').cons (c * a)).congr fun y => by rw [ef, GF.mul_add]; ac_rfl
theorem Po.mul {a b : Nat} {f g : GF → GF} (hf : Po a f) (hg : Po (b + 1) g) : Po (a + b) (fun y => f y * g y) := by
  induction a generalizing f with
  | zero => exact (Po.none _).congr fun y => by rw [hf.nil, GF.zero_mul]
  | succ a ih =>
    obtain ⟨c, f', hf', ef⟩ := hf.uncons
    have h1 : Po (a + 1 + b) (fun y => c * g y) := (hg.smul c).more (by omega)
    have h2 : Po (a + 1 + b) (fun y => y * (f' y * g y)) := ((ih hf').mulX).more (by omega)
    exact (h1.add h2).congr fun y => by rw [ef, GF.add_mul, GF.mul_assoc]
theorem Po.shift {d : Nat} {f : GF → GF} (hf : Po d f) (a : GF) : Po d (fun y => f (y + a)) := by
  induction d generalizing f with
  | zero => exact (Po.none 0).congr fun y => hf.nil _
  | succ d ih =>
    obtain ⟨c, f', hf', ef⟩ := hf.uncons
    have h1 := (ih hf').cons c
    have h2 := ((ih hf').smul a).more (show d ≤ d + 1 by omega)
    exact (h1.add h2).congr fun y => by rw [ef, GF.add_mul, GF.add_assoc]
theorem Po.const (c : GF) : Po 1 (fun _ => c) := ((Po.none 0).cons c).congr fun y => by rw [GF.mul_zero, GF.add_zero]
theorem Po.id : Po 2 (fun y => y) := ((Po.const 1).mulX).congr fun y => (GF.mul_one y).symm

/-- In powers of y * y + y. -/
theorem Po.split (D : Nat) : ∀ h : GF → GF, Po (2 * D + 1) h → ∃ A B, Po (D + 1) A ∧ Po D B ∧ ∀ y, h y = A (y * y + y) + y * B (y * y + y) := by
  induction D with
  | zero =>
    intro h hp
    obtain ⟨c, g, hg, he⟩ := hp.uncons
    exact ⟨fun _ => c, fun _ => 0, Po.const c, Po.none 0, fun y => by rw [he, hg.nil]⟩
  | succ D ih =>
    intro h hp
    obtain ⟨c, g, hg, he⟩ := (show Po (2 * D + 1 + 1 + 1) h from hp).uncons
    obtain ⟨c', g', hg', he'⟩ := hg.uncons
    obtain ⟨A, B, hA, hB, hAB⟩ := ih g' hg'
    refine ⟨fun s => c + s * (A s + B s), fun s => (c' + s * B s) + (A s + B s), ?_, ?_, ?_⟩
    · exact ((hA.add (hB.more (by omega))).cons c)
    · exact (hB.cons c').add (hA.add (hB.more (by omega)))
    · intro y
      show h y = c + (y * y + y) * (A (y * y + y) + B (y * y + y)) + y * (c' + (y * y + y) * B (y * y + y) + (A (y * y + y) + B (y * y + y)))
      rw [he, he', hAB]
      generalize A (y * y + y) = a
      generalize B (y * y + y) = b
      have e : c + (y * y + y) * (a + b) + y * (c' + (y * y + y) * b + (a + b)) = c + y * (c' + y * (a + y * b)) + (y * a + y * a) + (y * b + y * b) + (y * (y * b) + y * (y * b)) := by
        simp only [GF.mul_add, GF.add_mul, GF.mul_assoc]; ac_rfl
      rw [e, GF.add_self, GF.add_self, GF.add_self, GF.add_zero, GF.add_zero, GF.add_zero]
/-- The values of a polynomial of fewer than n - 1 coefficients at the first n elements cancel out. -/
theorem Po.sum (R : Nat) : R ≤ 16 → ∀ h : GF → GF, Po (2 ^ R - 1) h → sm (2 ^ R) (fun l => h (gw l)) = 0 := by
  induction R with
  | zero => intro _ h hp; exact (congrArg (0 + ·) (Po.nil hp _)).trans (GF.add_zero _)
  | succ R ih =>
    intro hR h hp
    have hp2 := Nat.two_pow_pos R
    have hle : 2 ^ R ≤ 2 ^ 15 := Nat.pow_le_pow_right (by omega) (by omega)
    obtain ⟨A, B, _, hB, hAB⟩ := Po.split (2 ^ R - 1) h (by rw [show 2 * (2 ^ R - 1) + 1 = 2 ^ (R + 1) - 1 from by rw [Nat.pow_succ]; omega]; exact hp)
    rw [Nat.pow_succ, sm_blocks]
    refine Eq.trans (sm_congr fun q hq => ?_) (ih (by omega) B hB)
    show 0 + h (gw (q * 2 + 0)) + h (gw (q * 2 + 1)) = B (gw q)
    have h1 : gw (q * 2 + 1) = gw (q * 2) + 1 := gw_next (by omega)
    have h2 : gw q = gw (q * 2) * gw (q * 2) + gw (q * 2) := by
      have := gw_half (i := q * 2) (by omega)
      rwa [Nat.mul_div_cancel _ (by omega)] at this
    rw [Nat.add_zero, h1, hAB, hAB, GF.zero_add]
    generalize gw (q * 2) = y at *
    have h3 : (y + 1) * (y + 1) + (y + 1) = y * y + y := by
      have : (y + 1) * (y + 1) + (y + 1) = y * y + y + (y + y) + (1 + 1) := by
        simp only [GF.mul_add, GF.add_mul, GF.mul_one, GF.one_mul]; ac_rfl
      rw [this, GF.add_self, GF.add_self, GF.add_zero, GF.add_zero]
    rw [h3, ← h2]
    generalize A (gw q) = a
    generalize B (gw q) = b
    have : a + y * b + (a + (y + 1) * b) = (a + a) + (y * b + y * b) + b := by
      simp only [GF.add_mul, GF.one_mul]; ac_rfl
    rw [this, GF.add_self, GF.add_self, GF.zero_add, GF.zero_add]

/-- The polynomial that is 0 at the first 2^r elements. -/
def St : Nat → GF → GF
  | 0, y => y
  | r + 1, y => St r y * St r y + St r y
/-- The same without the factor y. -/
def Tt : Nat → GF → GF
  | 0, _ => 1
  | r + 1, y => Tt r y * (St r y + 1)
theorem St_Tt (r : Nat) (y : GF) : St r y = y * Tt r y := by
  induction r with
  | zero => exact (GF.mul_one y).symm
  | succ r ih =>
    show St r y * St r y + St r y = y * (Tt r y * (St r y + 1))
    rw [← GF.mul_assoc, ← ih, GF.mul_add, GF.mul_one]
theorem Tt_zero (r : Nat) : Tt r 0 = 1 := by
  induction r with
  | zero => rfl
  | succ r ih =>
    show Tt r 0 * (St r 0 + 1) = 1
    rw [ih, St_Tt, GF.zero_mul, GF.zero_add, GF.mul_one]
theorem St_gw (r : Nat) {i : Nat} (h : i < 65536) : St r (gw i) = gw (i / 2 ^ r) := by
  induction r with
  | zero => rw [Nat.pow_zero, Nat.div_one]; rfl
  | succ r ih =>
    show St r (gw i) * St r (gw i) + St r (gw i) = _
    rw [ih, div_half, gw_half (Nat.lt_of_le_of_lt (Nat.div_le_self _ _) h)]
theorem Po_Tt (r : Nat) : Po (2 ^ r) (Tt r) := by
  induction r with
  | zero => exact Po.const 1
  | succ r ih =>
    have hS : Po (2 ^ r + 1) (fun y => St r y + 1) := by
      have h1 : Po (2 ^ r + 1) (St r) := ih.mulX.congr fun y => St_Tt r y
      exact h1.add ((Po.const 1).more (Nat.le_add_left 1 _))
    have := ih.mul hS
    rw [show 2 ^ (r + 1) = 2 ^ r + 2 ^ r from by rw [Nat.pow_succ]; omega]
    exact this
theorem xor_high {l j r : Nat} (h : j < 2 ^ r) : (l ^^^ j) / 2 ^ r = l / 2 ^ r := by
  apply Nat.eq_of_testBit_eq
  intro i
  rw [Nat.testBit_div_two_pow, Nat.testBit_div_two_pow, Nat.testBit_xor, Nat.testBit_lt_two_pow (Nat.lt_of_lt_of_le h (Nat.pow_le_pow_right (by omega) (by omega))), Bool.xor_false]
/-- The value at a place below 2^r of a polynomial that is known at the places from there to 2^R. -/
theorem textbook {r R j : Nat} (hr : r ≤ R) (hR : R ≤ 16) (hj : j < 2 ^ r) {f : GF → GF} (hf : Po (2 ^ R - 2 ^ r) f) :
    f (gw j) = sm (2 ^ R - 2 ^ r) (fun i => f (gw (2 ^ r + i)) * (gw ((2 ^ r + i) / 2 ^ r) * (gw j + gw (2 ^ r + i)).inv)) := by
  have hrp := Nat.two_pow_pos r
  have hrR : 2 ^ r ≤ 2 ^ R := Nat.pow_le_pow_right (by omega) hr
  have hR16 : 2 ^ R ≤ 2 ^ 16 := Nat.pow_le_pow_right (by omega) hR
  have hT : Po (2 ^ r - 1 + 1) (fun y => Tt r (y + gw j)) := by
    rw [show 2 ^ r - 1 + 1 = 2 ^ r from by omega]; exact (Po_Tt r).shift _
  have hh := hf.mul hT
  rw [show 2 ^ R - 2 ^ r + (2 ^ r - 1) = 2 ^ R - 1 from by omega] at hh
  have hs := Po.sum R hR _ hh
  rw [show 2 ^ R = 2 ^ r + (2 ^ R - 2 ^ r) from by omega, sm_split] at hs
  have h1 : sm (2 ^ r) (fun l => f (gw l) * Tt r (gw l + gw j)) = f (gw j) := by
    rw [sm_one _ _ j hj (fun l hl hne => ?_)]
    · rw [GF.add_self, Tt_zero, GF.mul_one]
    · have h2 : gw l + gw j ≠ 0 := gw_ne (by omega) (by omega) hne
      have h3 : (gw l + gw j) * Tt r (gw l + gw j) = 0 := by
        rw [← St_Tt, ← gw_xor, St_gw r (xor_lt16 (by omega) (by omega)), xor_high hj, Nat.div_eq_of_lt hl, gw_zero]
      rcases GF.mul_eq_zero h3 with h4 | h4
      · exact absurd h4 h2
      · rw [h4, GF.mul_zero]
  rw [h1] at hs
  refine (GF.add_eq_zero hs).trans ?_
  refine sm_congr fun i hi => ?_
  show f (gw (2 ^ r + i)) * Tt r (gw (2 ^ r + i) + gw j) = _
  have h2 : gw (2 ^ r + i) + gw j ≠ 0 := gw_ne (by omega) (by omega) (by omega)
  have h3 : (gw (2 ^ r + i) + gw j) * Tt r (gw (2 ^ r + i) + gw j) = gw ((2 ^ r + i) / 2 ^ r) := by
    rw [← St_Tt, ← gw_xor, St_gw r (xor_lt16 (by omega) (by omega)), xor_high hj]
  rw [← h3, GF.add_comm (gw j)]
  congr 1
  rw [GF.mul_comm, ← GF.mul_assoc, GF.inv_mul h2, GF.one_mul]
end Go.Proofs.YtpnmmedjamkmeaaGreat

/- The derivative of a transformed polynomial; what the present words say of a lost one. -/
set_option linter.unusedVariables false
set_option linter.unusedSimpArgs false
namespace Go.Proofs.YtpnmmedjamkmeaaGreat

/-- Forward behind back is nothing. -/
theorem FS_IS {s t i : Nat} (hs : s % 2 ^ t = 0) (hi : i < 2 ^ (t + 1)) (G : Nat → GF) : FS s t (IS s t G) i = G i := by
  rw [Nat.pow_succ] at hi
  rcases Nat.lt_or_ge i (2 ^ t) with h | h
  · rw [FS_lo hs h, IS_lo hs h, IS_hi h]
    rw [GF.add_assoc, GF.add_self, GF.add_zero]
  · obtain ⟨q, rfl⟩ : ∃ q, i = 2 ^ t + q := ⟨i - 2 ^ t, by omega⟩
    have hq : q < 2 ^ t := by omega
    rw [FS_hi hs hq, IS_lo hs hq, IS_hi hq]
    generalize G q = a
    generalize G (2 ^ t + q) = b
    generalize gw (s / 2 ^ t) = w
    have e : b + a + (a + w * (b + a) + w * (b + a)) = b + (a + a) + (w * (b + a) + w * (b + a)) := by ac_rfl
    rw [e, GF.add_self, GF.add_self, GF.add_zero, GF.add_zero]
theorem FT_IT (t : Nat) : ∀ (s : Nat) (f : Nat → GF) (j : Nat), s % 2 ^ t = 0 → j < 2 ^ t → FT s t (IT s t f) j = f j := by
  induction t with
  | zero => intro s f j _ _; rfl
  | succ t ih =>
    intro s f j hs hj
    obtain ⟨h0, h1⟩ := mod_low hs
    have e : FT s (t + 1) (IT s (t + 1) f) j = FT s t (IT s t f) j := by
      show FT s t (FS s t (IS s t (IT s t f))) j = _
      exact FT_congr (t := t + 1) (by omega) (fun i hi => FS_IS h0 hi _) j hj
    rw [e]
    rw [Nat.pow_succ] at hj
    rcases Nat.lt_or_ge j (2 ^ t) with h | h
    · exact ih s f j h0 h
    · obtain ⟨q, rfl⟩ : ∃ q, j = 2 ^ t + q := ⟨j - 2 ^ t, by omega⟩
      have hq : q < 2 ^ t := by omega
      rw [FT_up (Nat.le_refl t)]
      have e2 : FT (s + 2 ^ t) t (fun i => IT s t f (2 ^ t + i)) q = FT (s + 2 ^ t) t (IT (s + 2 ^ t) t (fun i => f (2 ^ t + i))) q := by
        congr 1
        funext i
        exact IT_up (Nat.le_refl t) f i
      rw [e2, ih (s + 2 ^ t) _ q h1 hq]
/-- The derivative, among the coefficients. -/
def Der (t : Nat) (g : Nat → GF) (j : Nat) : GF := sm t (fun b => if j.testBit b then 0 else g (j + 2 ^ b))
theorem Der_congr {t : Nat} {f g : Nat → GF} (h : ∀ i, i < 2 ^ t → f i = g i) (j : Nat) (hj : j < 2 ^ t) : Der t f j = Der t g j := by
  refine sm_congr fun b hb => ?_
  by_cases c : j.testBit b = true
  · rw [if_pos c, if_pos c]
  · rw [if_neg c, if_neg c, h _ (add_bit_lt hb hj (by simpa using c))]
theorem Der_lin (t : Nat) (a b : GF) (f g : Nat → GF) (j : Nat) : Der t (fun i => a * f i + b * g i) j = a * Der t f j + b * Der t g j := by
  unfold Der
  rw [← sm_mul, ← sm_mul, ← sm_add]
  refine sm_congr fun q _ => ?_
  split
  · rw [GF.mul_zero, GF.mul_zero, GF.add_zero]
  · rfl
theorem Der_add (t : Nat) (f g : Nat → GF) (j : Nat) : Der t (fun i => f i + g i) j = Der t f j + Der t g j := by
  have := Der_lin t 1 1 f g j
  simpa only [GF.one_mul] using this
theorem Der_lo {t i : Nat} (hi : i < 2 ^ t) (H : Nat → GF) : Der (t + 1) H i = Der t H i + H (2 ^ t + i) := by
  show Der t H i + (if i.testBit t then 0 else H (i + 2 ^ t)) = _
  rw [bit_lo hi, if_neg (by simp), Nat.add_comm i]
theorem Der_hi {t i : Nat} (hi : i < 2 ^ t) (H : Nat → GF) : Der (t + 1) H (2 ^ t + i) = Der t (fun i => H (2 ^ t + i)) i := by
  show sm t _ + (if (2 ^ t + i).testBit t then 0 else H (2 ^ t + i + 2 ^ t)) = _
  rw [bit_hi hi, if_pos rfl, GF.add_zero]
  refine sm_congr fun b hb => ?_
  rw [bit_up hb, Nat.add_assoc]
/-- t as an element. -/
def tc : Nat → GF
  | 0 => 0
  | t + 1 => tc t + 1
/-- The derivative's values, by those of the polynomial. -/
theorem der_kernel (t : Nat) : ∀ (s : Nat) (f : Nat → GF) (j : Nat), s % 2 ^ t = 0 → s + 2 ^ t ≤ 65536 → j < 2 ^ t →
    FT s t (Der t (IT s t f)) j = sm (2 ^ t) (fun i => if i = j then 0 else f i * (gw (s + i) + gw (s + j)).inv) + tc t * f j := by
  induction t with
  | zero =>
    intro s f j _ _ hj
    obtain rfl : j = 0 := by simpa using hj
    show (0 : GF) = 0 + (if (0 : Nat) = 0 then 0 else _) + 0 * f 0
    rw [if_pos rfl, GF.zero_mul, GF.add_zero, GF.add_zero]
  | succ t ih =>
    intro s f j hs hl hj
    have hp : 2 ^ (t + 1) = 2 ^ t + 2 ^ t := by rw [Nat.pow_succ]; omega
    have hpos := Nat.two_pow_pos t
    rw [hp] at hl hj
    obtain ⟨h0, h1⟩ := mod_low hs
    have hW := gw_upper hs
    have hne : (s + 2 ^ t) / 2 ^ t ≠ s / 2 ^ t := by rw [Nat.add_div_right _ hpos]; omega
    have hG : ∀ i, IT s t f (2 ^ t + i) = IT (s + 2 ^ t) t (fun i => f (2 ^ t + i)) i := IT_up (Nat.le_refl t) f
    -- what stands behind the highest stage
    have hlo : ∀ i, i < 2 ^ t → FS s t (Der (t + 1) (IS s t (IT s t f))) i = Der t (IT s t f) i + (IT s t f i + IT s t f (2 ^ t + i)) := by
      intro i hi
      rw [FS_lo h0 hi, Der_lo hi, Der_hi hi, IS_hi hi]
      have a1 : Der t (IS s t (IT s t f)) i = Der t (fun q => 1 * IT s t f q + gw (s / 2 ^ t) * (IT s t f (2 ^ t + q) + IT s t f q)) i :=
        Der_congr (fun q hq => by rw [IS_lo h0 hq, GF.one_mul]) i hi
      have a2 : Der t (fun q => IS s t (IT s t f) (2 ^ t + q)) i = Der t (fun q => IT s t f (2 ^ t + q) + IT s t f q) i :=
        Der_congr (fun q hq => IS_hi hq _) i hi
      rw [a1, a2, Der_lin, GF.one_mul]
      generalize Der t (IT s t f) i = A
      generalize Der t (fun q => IT s t f (2 ^ t + q) + IT s t f q) i = B
      generalize IT s t f i = x
      generalize IT s t f (2 ^ t + i) = y
      generalize gw (s / 2 ^ t) = w
      have e : A + w * B + (y + x) + w * B = A + (x + y) + (w * B + w * B) := by ac_rfl
      rw [e, GF.add_self, GF.add_zero]
    have hhi : ∀ i, i < 2 ^ t → FS s t (Der (t + 1) (IS s t (IT s t f))) (2 ^ t + i) = Der t (fun q => IT s t f (2 ^ t + q)) i + (IT s t f i + IT s t f (2 ^ t + i)) := by
      intro i hi
      have h := hlo i hi
      rw [FS_lo h0 hi] at h
      rw [FS_hi h0 hi, h, Der_hi hi]
      have a2 : Der t (fun q => IS s t (IT s t f) (2 ^ t + q)) i = Der t (fun q => IT s t f (2 ^ t + q) + IT s t f q) i :=
        Der_congr (fun q hq => IS_hi hq _) i hi
      rw [a2, Der_add]
      generalize Der t (IT s t f) i = A
      generalize Der t (fun q => IT s t f (2 ^ t + q)) i = B
      have e : B + A + (A + (IT s t f i + IT s t f (2 ^ t + i))) = B + (IT s t f i + IT s t f (2 ^ t + i)) + (A + A) := by ac_rfl
      rw [e, GF.add_self, GF.add_zero]
    show FT s t (FS s t (Der (t + 1) (IS s t (IT s t f)))) j = _
    rw [hp, sm_split]
    rcases Nat.lt_or_ge j (2 ^ t) with hj1 | hj1
    · have e1 : FT s t (FS s t (Der (t + 1) (IS s t (IT s t f)))) j = FT s t (fun i => Der t (IT s t f) i + (IT s t f i + IT (s + 2 ^ t) t (fun i => f (2 ^ t + i)) i)) j :=
        FT_congr (Nat.le_refl t) (fun i hi => by rw [hlo i hi, hG]) j hj1
      have e2 : sm (2 ^ t) (fun i => if 2 ^ t + i = j then 0 else f (2 ^ t + i) * (gw (s + (2 ^ t + i)) + gw (s + j)).inv) = FT s t (IT (s + 2 ^ t) t (fun i => f (2 ^ t + i))) j := by
        rw [ext_kernel t (s + 2 ^ t) s _ j h1 h0 (by omega) (by omega) hne hj1]
        refine sm_congr fun i hi => ?_
        rw [if_neg (by omega)]
        unfold kr
        rw [hW, show gw (s / 2 ^ t) + 1 + gw (s / 2 ^ t) = 1 + (gw (s / 2 ^ t) + gw (s / 2 ^ t)) from by ac_rfl, GF.add_self, GF.add_zero, GF.one_mul, Nat.add_assoc]
      rw [e1, FT_add, FT_add, ih s f j h0 (by omega) hj1, FT_IT t s f j h0 hj1, e2]
      show _ = _ + (tc t + 1) * f j
      rw [GF.add_mul, GF.one_mul]
      ac_rfl
    · obtain ⟨q, rfl⟩ : ∃ q, j = 2 ^ t + q := ⟨j - 2 ^ t, by omega⟩
      have hq : q < 2 ^ t := by omega
      rw [FT_up (Nat.le_refl t)]
      have e1 : FT (s + 2 ^ t) t (fun i => FS s t (Der (t + 1) (IS s t (IT s t f))) (2 ^ t + i)) q = FT (s + 2 ^ t) t (fun i => Der t (IT (s + 2 ^ t) t (fun i => f (2 ^ t + i))) i + (IT s t f i + IT (s + 2 ^ t) t (fun i => f (2 ^ t + i)) i)) q :=
        FT_congr (Nat.le_refl t) (fun i hi => by
          rw [hhi i hi, hG]
          congr 1
          exact Der_congr (fun q _ => hG q) i hi) q hq
      have e2 : sm (2 ^ t) (fun i => if i = 2 ^ t + q then 0 else f i * (gw (s + i) + gw (s + (2 ^ t + q))).inv) = FT (s + 2 ^ t) t (IT s t f) q := by
        rw [ext_kernel t s (s + 2 ^ t) _ q h0 h1 (by omega) (by omega) hne.symm hq]
        refine sm_congr fun i hi => ?_
        rw [if_neg (by omega)]
        unfold kr
        rw [hW, show gw (s / 2 ^ t) + (gw (s / 2 ^ t) + 1) = 1 + (gw (s / 2 ^ t) + gw (s / 2 ^ t)) from by ac_rfl, GF.add_self, GF.add_zero, GF.one_mul, Nat.add_assoc]
      have e3 : sm (2 ^ t) (fun i => if 2 ^ t + i = 2 ^ t + q then 0 else f (2 ^ t + i) * (gw (s + (2 ^ t + i)) + gw (s + (2 ^ t + q))).inv) = sm (2 ^ t) (fun i => if i = q then 0 else f (2 ^ t + i) * (gw (s + 2 ^ t + i) + gw (s + 2 ^ t + q)).inv) := by
        refine sm_congr fun i _ => ?_
        by_cases c : i = q
        · rw [if_pos c, if_pos (by omega)]
        · rw [if_neg c, if_neg (by omega), Nat.add_assoc, Nat.add_assoc]
      rw [e1, FT_add, FT_add, ih (s + 2 ^ t) (fun i => f (2 ^ t + i)) q h1 (by omega) hq, FT_IT t (s + 2 ^ t) _ q h1 hq, e2, e3]
      show _ = _ + (tc t + 1) * f (2 ^ t + q)
      rw [GF.add_mul, GF.one_mul]
      ac_rfl

/-- The locator at place i: the product of the differences from all of the list but i. -/
def lw : List Nat → Nat → GF
  | [], _ => 1
  | l :: ls, i => (if l = i then 1 else gw i + gw l) * lw ls i
/-- The same with a letter for the place, without the factor of p. -/
def lq : List Nat → Nat → GF → GF
  | [], _, _ => 1
  | l :: ls, p, y => (if l = p then 1 else y + gw l) * lq ls p y
theorem lq_self (ls : List Nat) (p : Nat) : lq ls p (gw p) = lw ls p := by
  induction ls with
  | nil => rfl
  | cons l ls ih => rw [lq, lw, ih]
theorem Po_lq_all (ls : List Nat) (p : Nat) : Po (ls.length + 1) (lq ls p) := by
  induction ls with
  | nil => exact Po.const 1
  | cons l ls ih =>
    have h2 : Po 2 (fun y => if l = p then (1 : GF) else y + gw l) := by
      by_cases c : l = p
      · exact ((Po.const 1).more (by omega)).congr fun y => by rw [if_pos c]
      · exact (Po.id.add ((Po.const (gw l)).more (by omega))).congr fun y => by rw [if_neg c]
    have := h2.mul ih
    rw [show 2 + ls.length = (l :: ls).length + 1 from by simp; omega] at this
    exact this
theorem Po_lq {ls : List Nat} {p : Nat} (h : p ∈ ls) : Po ls.length (lq ls p) := by
  induction ls with
  | nil => cases h
  | cons l ls ih =>
    by_cases c : l = p
    · exact ((Po_lq_all ls p).congr fun y => by rw [lq, if_pos c, GF.one_mul])
    · have hm : p ∈ ls := by
        rcases List.mem_cons.1 h with h | h
        · exact absurd h.symm c
        · exact h
      have h2 : Po 2 (fun y => y + gw l) := Po.id.add ((Po.const (gw l)).more (by omega))
      have hlen : 0 < ls.length := List.length_pos_of_mem hm
      have hi := ih hm
      rw [show ls.length = ls.length - 1 + 1 from by omega] at hi
      have := h2.mul hi
      rw [show 2 + (ls.length - 1) = (l :: ls).length from by simp; omega] at this
      exact this.congr fun y => by rw [lq, if_neg c]
theorem lq_root {ls : List Nat} {p q : Nat} (h : q ∈ ls) (hne : q ≠ p) : lq ls p (gw q) = 0 := by
  induction ls with
  | nil => cases h
  | cons l ls ih =>
    rw [lq]
    rcases List.mem_cons.1 h with h | h
    · subst h
      rw [if_neg hne, GF.add_self, GF.zero_mul]
    · rw [ih h, GF.mul_zero]
theorem lq_out {ls : List Nat} {p q : Nat} (hq : q ∉ ls) (hp : p ∈ ls) (hd : ls.Nodup) : lq ls p (gw q) * (gw q + gw p) = lw ls q := by
  have key : ∀ ls : List Nat, q ∉ ls → p ∉ ls → lq ls p (gw q) = lw ls q := by
    intro ls
    induction ls with
    | nil => intro _ _; rfl
    | cons l ls ih =>
      intro h1 h2
      rw [List.mem_cons, not_or] at h1 h2
      rw [lq, lw, if_neg (fun e => h2.1 e.symm), if_neg (fun e => h1.1 e.symm), ih h1.2 h2.2]
  induction ls with
  | nil => cases hp
  | cons l ls ih =>
    rw [List.mem_cons, not_or] at hq
    rw [List.nodup_cons] at hd
    have e1 : (if l = q then (1 : GF) else gw q + gw l) = gw q + gw l := if_neg (fun e => hq.1 e.symm)
    rw [lq, lw, e1]
    by_cases c : l = p
    · subst c
      rw [if_pos rfl, GF.one_mul, key ls hq.2 hd.1, GF.mul_comm]
    · have hm : p ∈ ls := by
        rcases List.mem_cons.1 hp with h | h
        · exact absurd h.symm c
        · exact h
      rw [if_neg c, GF.mul_assoc, ih hq.2 hm hd.2]
/-- A lost value, by the present ones. -/
theorem given_sum {R P p : Nat} {ls : List Nat} {F : GF → GF} (hR : R ≤ 16) (hF : Po (2 ^ R - P) F) (hP : P ≤ 2 ^ R) (hl : ls.length ≤ P) (hd : ls.Nodup) (hp : p ∈ ls) (hlt : ∀ l ∈ ls, l < 2 ^ R) :
    F (gw p) * lw ls p = sm (2 ^ R) (fun q => if q ∈ ls then 0 else F (gw q) * (lw ls q * (gw q + gw p).inv)) := by
  have hR16 : 2 ^ R ≤ 2 ^ 16 := Nat.pow_le_pow_right (by omega) hR
  have hlen : 0 < ls.length := List.length_pos_of_mem hp
  have hL := Po_lq hp
  rw [show ls.length = ls.length - 1 + 1 from by omega] at hL
  have hh := (hF.mul hL).more (e := 2 ^ R - 1) (by omega)
  have hs := Po.sum R hR _ hh
  have hpl := hlt p hp
  have e : sm (2 ^ R) (fun q => F (gw q) * lq ls p (gw q)) = sm (2 ^ R) (fun q => (if q = p then F (gw p) * lw ls p else 0) + (if q ∈ ls then 0 else F (gw q) * (lw ls q * (gw q + gw p).inv))) := by
    refine sm_congr fun q hq => ?_
    show F (gw q) * lq ls p (gw q) = _
    by_cases c : q = p
    · subst c
      rw [if_pos rfl, if_pos hp, GF.add_zero, lq_self]
    · rw [if_neg c, GF.zero_add]
      by_cases c2 : q ∈ ls
      · rw [if_pos c2, lq_root c2 c, GF.mul_zero]
      · have hne : gw q + gw p ≠ 0 := gw_ne (by omega) (by omega) c
        rw [if_neg c2, ← lq_out c2 hp hd, GF.mul_assoc, GF.mul_inv hne, GF.mul_one]
  have e2 : sm (2 ^ R) (fun q => if q = p then F (gw p) * lw ls p else 0) = F (gw p) * lw ls p := by
    rw [sm_one _ _ p hpl (fun q _ hne => if_neg hne), if_pos rfl]
  rw [e, sm_add, e2] at hs
  exact GF.add_eq_zero hs
end Go.Proofs.YtpnmmedjamkmeaaGreat

/- Newton's divided differences; the nested products multiplied out. -/
set_option linter.unusedVariables false
set_option linter.unusedSimpArgs false
namespace Go.Proofs.YtpnmmedjamkmeaaGreat

/-- The divided difference over the k + 1 places from a on. -/
def dd (x v : Nat → GF) : Nat → Nat → GF
  | 0, a => v a
  | k + 1, a => (dd x v k (a + 1) + dd x v k a) * (x (a + k + 1) + x a).inv
/-- The product of y less the k places from a on. -/
def pr (x : Nat → GF) (a : Nat) : Nat → GF → GF
  | 0, _ => 1
  | k + 1, y => pr x a k y * (y + x (a + k))
theorem pr_first (x : Nat → GF) (a k : Nat) (y : GF) : pr x a (k + 1) y = (y + x a) * pr x (a + 1) k y := by
  induction k with
  | zero => show 1 * (y + x (a + 0)) = (y + x a) * 1; rw [GF.one_mul, GF.mul_one]; rfl
  | succ k ih =>
    rw [pr, ih, pr, GF.mul_assoc, show a + (k + 1) = a + 1 + k from by omega]
theorem sm_first (n : Nat) (f : Nat → GF) : sm (n + 1) f = f 0 + sm n (fun i => f (i + 1)) := by
  rw [show n + 1 = 1 + n from by omega, sm_split]
  congr 1
  · exact GF.zero_add _
  · exact sm_congr fun i _ => by rw [Nat.add_comm]
theorem sm_tele (n : Nat) (u : Nat → GF) : sm n (fun k => u (k + 1) + u k) = u n + u 0 := by
  induction n with
  | zero => exact (GF.add_self _).symm
  | succ n ih =>
    rw [sm, ih]
    have : u n + u 0 + (u (n + 1) + u n) = u (n + 1) + u 0 + (u n + u n) := by ac_rfl
    rw [this, GF.add_self, GF.add_zero]
/-- Newton's form has the given values. -/
theorem newton_at (x v : Nat → GF) (b : Nat) : ∀ a, (∀ i j, i ≤ a + b → j ≤ a + b → i ≠ j → x i ≠ x j) → sm (b + 1) (fun k => dd x v k a * pr x a k (x (a + b))) = v (a + b) := by
  induction b with
  | zero => intro a _; show 0 + v a * 1 = v a; rw [GF.mul_one, GF.zero_add]
  | succ b ih =>
    intro a hx
    have h := ih (a + 1) (fun i j hi hj hne => hx i j (by omega) (by omega) hne)
    rw [show a + 1 + b = a + (b + 1) from by omega] at h
    rw [← h, sm_first]
    have h1 : sm (b + 1) (fun k => dd x v k (a + 1) * pr x (a + 1) k (x (a + (b + 1)))) =
        sm (b + 1) (fun k => dd x v (k + 1) a * pr x a (k + 1) (x (a + (b + 1)))) + sm (b + 1) (fun k => dd x v (k + 1) a * pr x (a + 1) (k + 1) (x (a + (b + 1))) + dd x v k a * pr x (a + 1) k (x (a + (b + 1)))) := by
      rw [← sm_add]
      refine sm_congr fun k hk => ?_
      have hne : x (a + k + 1) + x a ≠ 0 := GF.add_ne_zero (hx _ _ (by omega) (by omega) (by omega))
      have hd : dd x v k (a + 1) = dd x v (k + 1) a * (x (a + k + 1) + x a) + dd x v k a := by
        rw [dd, GF.mul_assoc, GF.inv_mul hne, GF.mul_one, GF.add_assoc, GF.add_self, GF.add_zero]
      rw [hd, pr_first, pr, show a + 1 + k = a + k + 1 from by omega]
      generalize dd x v (k + 1) a = p
      generalize dd x v k a = q
      generalize pr x (a + 1) k (x (a + (b + 1))) = c
      generalize x (a + (b + 1)) = X
      generalize x (a + k + 1) = Y
      generalize x a = Z
      have e : p * ((X + Z) * c) + (p * (c * (X + Y)) + q * c) = (p * (Y + Z) + q) * c + (p * (X * c) + p * (X * c)) := by
        simp only [GF.mul_add, GF.add_mul, GF.mul_assoc]
        rw [GF.mul_comm c X, GF.mul_comm c Y]; ac_rfl
      rw [e, GF.add_self, GF.add_zero]
    rw [h1, sm_tele (b + 1) (fun k => dd x v k a * pr x (a + 1) k (x (a + (b + 1))))]
    have h2 : pr x (a + 1) (b + 1) (x (a + (b + 1))) = 0 := by
      rw [pr, show a + 1 + b = a + (b + 1) from by omega, GF.add_self, GF.mul_zero]
    show dd x v 0 a * 1 + _ = _ + (dd x v (b + 1) a * pr x (a + 1) (b + 1) (x (a + (b + 1))) + dd x v 0 a * 1)
    rw [h2, GF.mul_zero, GF.zero_add]
    exact GF.add_comm _ _
theorem pr_root (x : Nat → GF) (b : Nat) : ∀ k, b < k → pr x 0 k (x b) = 0 := by
  intro k
  induction k with
  | zero => intro h; omega
  | succ k ih =>
    intro h
    rw [pr]
    by_cases e : b = k
    · subst e; rw [Nat.zero_add, GF.add_self, GF.mul_zero]
    · rw [ih (by omega), GF.zero_mul]
theorem newton_all (x v : Nat → GF) (n : Nat) (hx : ∀ i j, i < n → j < n → i ≠ j → x i ≠ x j) (b : Nat) (hb : b < n) : sm n (fun k => dd x v k 0 * pr x 0 k (x b)) = v b := by
  have h := newton_at x v b 0 (fun i j hi hj hne => hx i j (by omega) (by omega) hne)
  rw [Nat.zero_add] at h
  rw [← h]
  exact sm_more (by omega) fun k hk _ => by rw [pr_root x b k (by omega), GF.mul_zero]

/-- A list of coefficients times X + x, and c. -/
def mx (x : GF) : GF → List GF → List GF
  | c, [] => [c]
  | c, a :: l => (a * x + c) :: mx x a l
theorem evl_mx (x y : GF) : ∀ (l : List GF) (c : GF), evl (mx x c l) y = c + (y + x) * evl l y := by
  intro l
  induction l with
  | nil => intro c; show c + y * 0 = c + (y + x) * 0; rw [GF.mul_zero, GF.mul_zero]
  | cons a l ih =>
    intro c
    show a * x + c + y * evl (mx x a l) y = c + (y + x) * (a + y * evl l y)
    rw [ih]
    simp only [GF.mul_add, GF.add_mul, GF.mul_assoc]
    rw [GF.mul_comm a x, GF.mul_left_comm y x]; ac_rfl
theorem mx_length (x : GF) : ∀ (l : List GF) (c : GF), (mx x c l).length = l.length + 1 := by
  intro l
  induction l with
  | nil => intro c; rfl
  | cons a l ih => intro c; show (mx x a l).length + 1 = l.length + 1 + 1; rw [ih]
/-- The nested products, multiplied out from the last on: s steps done. -/
def hn (x d : Nat → GF) (n : Nat) : Nat → List GF
  | 0 => []
  | s + 1 => mx (x (n - 1 - s)) (d (n - 1 - s)) (hn x d n s)
theorem hn_length (x d : Nat → GF) (n s : Nat) : (hn x d n s).length = s := by
  induction s with
  | zero => rfl
  | succ s ih => rw [hn, mx_length, ih]
theorem hn_part (x d : Nat → GF) (n : Nat) (y : GF) (s : Nat) : s ≤ n → sm (n - s) (fun k => d k * pr x 0 k y) + pr x 0 (n - s) y * evl (hn x d n s) y = sm n (fun k => d k * pr x 0 k y) := by
  induction s with
  | zero => intro _; show _ + _ * 0 = _; rw [GF.mul_zero, GF.add_zero]; rfl
  | succ s ih =>
    intro hs
    have h := ih (by omega)
    rw [← h, hn, evl_mx, show n - s = (n - (s + 1)) + 1 from by omega, sm, pr, Nat.zero_add, show n - 1 - s = n - (s + 1) from by omega]
    simp only [GF.mul_add, GF.add_mul, GF.mul_assoc]
    rw [GF.mul_comm (d (n - (s + 1)))]; ac_rfl
/-- Newton's polynomial has the given values. -/
theorem hn_at (x v : Nat → GF) (n : Nat) (hx : ∀ i j, i < n → j < n → i ≠ j → x i ≠ x j) (b : Nat) (hb : b < n) : evl (hn x (fun k => dd x v k 0) n n) (x b) = v b := by
  have h := hn_part x (fun k => dd x v k 0) n (x b) n (Nat.le_refl _)
  rw [newton_all x v n hx b hb, Nat.sub_self] at h
  have h2 : (0 : GF) + 1 * evl (hn x (fun k => dd x v k 0) n n) (x b) = v b := h
  rwa [GF.zero_add, GF.one_mul] at h2
theorem Po_hn (x d : Nat → GF) (n : Nat) : Po n (evl (hn x d n n)) := ⟨_, hn_length x d n n, fun _ => rfl⟩
/-- Zeros at the end count for nothing. -/
theorem evl_zeros (l z : List GF) (hz : ∀ c ∈ z, c = 0) (y : GF) : evl (l ++ z) y = evl l y := by
  induction l with
  | nil =>
    show evl z y = 0
    induction z with
    | nil => rfl
    | cons c z ih =>
      show c + y * evl z y = 0
      rw [hz c (by simp), ih (fun c hc => hz c (by simp [hc])), GF.mul_zero, GF.add_zero]
  | cons a l ih => show a + y * evl (l ++ z) y = a + y * evl l y; rw [ih]
end Go.Proofs.YtpnmmedjamkmeaaGreat

/- What is given back: the formula of a lost word, and that it is the lost word of a codeword. -/
set_option linter.unusedVariables false
set_option linter.unusedSimpArgs false
namespace Go.Proofs.YtpnmmedjamkmeaaGreat

/-- At which place shard s stands. -/
def plc (k m s : Nat) : Nat := if s < k then p2 m + s else s - k
theorem plc_lo {k m s : Nat} (h : s < k) : plc k m s = p2 m + s := if_pos h
theorem plc_hi {k m s : Nat} (h : k ≤ s) : plc k m s = s - k := if_neg (by omega)
theorem plc_lt {k m s N : Nat} (hs : s < k + m) (hN : p2 m + k ≤ N) : plc k m s < N := by
  have := le_p2 m
  unfold plc
  split <;> omega
theorem plc_inj {k m a b : Nat} (ha : a < k + m) (hb : b < k + m) (h : plc k m a = plc k m b) : a = b := by
  have := le_p2 m
  unfold plc at h
  split at h <;> split at h <;> omega
/-- The element whose logarithm stands at place q. -/
def lge (lg : List Nat) (q : Nat) : GF := gf (ex (gn lg q))
/-- The share of shard s in the lost word i. -/
def gvF (k m : Nat) (lg : List Nat) (i s : Nat) : GF := lge lg (plc k m s) * (lge lg (plc k m i)).inv * (gw (plc k m i) + gw (plc k m s)).inv
/-- The word t of the lost shard i, by the first n shards that are there. -/
def gvTo (k m : Nat) (lg mis : List Nat) (pc : List (List Nat)) (i t n : Nat) : GF := sm n (fun s => if s ∈ mis then 0 else gvF k m lg i s * we (gl pc s) t)
def gvW (k m : Nat) (lg mis : List Nat) (pc : List (List Nat)) (i t : Nat) : GF := gvTo k m lg mis pc i t (k + m)

/-- A codeword's words are a polynomial's values. -/
theorem word_poly {k m n t R : Nat} {ds : List (List Nat)} (hp : prm k (m : Int)) (hd : Ds k n ds) (ht : 2 * t < n) (hR : R = mu (p2 m + k)) :
    ∃ F : GF → GF, Po (2 ^ R - p2 m) F ∧ (∀ i, i < k → F (gw (p2 m + i)) = we (gl ds i) t) ∧ (∀ i, k ≤ i → i < 2 ^ R - p2 m → F (gw (p2 m + i)) = 0) ∧ ∀ j, j < m → F (gw j) = we (parTo m n ds j k) t := by
  obtain ⟨h1, h2, h3, h4, h5⟩ := hp
  rw [Int.toNat_natCast] at h5
  have hle := le_p2 (p2 m + k)
  have hmp := le_p2 m
  have hR16 : R ≤ 16 := by rw [hR]; exact mu_le16 h5
  have hle2 : p2 m + k ≤ 2 ^ R := by rw [hR]; exact hle
  have hr : mu m ≤ R := mu_le (by omega)
  have hR2 : 2 ^ R ≤ 2 ^ 16 := Nat.pow_le_pow_right (by omega) hR16
  obtain ⟨N, hN⟩ : ∃ N, N = 2 ^ R - p2 m := ⟨_, rfl⟩
  obtain ⟨x, hx⟩ : ∃ x : Nat → GF, x = fun i => gw (p2 m + i) := ⟨_, rfl⟩
  obtain ⟨v, hv⟩ : ∃ v : Nat → GF, v = fun i => if i < k then we (gl ds i) t else 0 := ⟨_, rfl⟩
  have hxd : ∀ i j, i < N → j < N → i ≠ j → x i ≠ x j := fun i j hi hj hne e => by
    rw [hx] at e
    have := gw_inj (by omega) (by omega) e
    omega
  have hat : ∀ i, i < N → evl (hn x (fun k => dd x v k 0) N N) (gw (p2 m + i)) = v i := fun i hi => by
    have := hn_at x v N hxd i hi
    rwa [hx] at this ⊢
  have hf : Po (2 ^ R - 2 ^ mu m) (evl (hn x (fun k => dd x v k 0) N N)) := by
    have := Po_hn x (fun k => dd x v k 0) N
    rw [hN] at this ⊢
    exact this
  refine ⟨evl (hn x (fun k => dd x v k 0) N N), hf, fun i hi => ?_, fun i hi hi2 => ?_, fun j hj => ?_⟩
  · rw [hat i (by omega), hv]; exact if_pos hi
  · rw [hat i (by omega), hv]; exact if_neg (by omega)
  · rw [textbook (r := mu m) (R := R) (j := j) hr hR16 (by show j < p2 m; omega) hf, we_parTo hd.even hd.lb j t ht k]
    rw [show 2 ^ R - 2 ^ mu m = N from hN.symm]
    rw [sm_more (show k ≤ N by omega) (fun i hi hi2 => by
      show evl _ (gw (p2 m + i)) * _ = 0
      rw [hat i hi2, hv]
      show (if i < k then _ else (0 : GF)) * _ = 0
      rw [if_neg (by omega), GF.zero_mul])]
    refine sm_congr fun i hi => ?_
    show evl _ (gw (p2 m + i)) * _ = _
    rw [hat i (by omega), hv]
    show (if i < k then we (gl ds i) t else 0) * _ = _
    rw [if_pos hi, GF.mul_comm]
    rfl
theorem gf_one_ne : (1 : GF) ≠ 0 := fun e => absurd (congrArg GF.v e) (by decide)
theorem lw_ne {ls : List Nat} {p : Nat} (hp : p < 65536) (h : ∀ l ∈ ls, l < 65536) : lw ls p ≠ 0 := by
  induction ls with
  | nil => exact gf_one_ne
  | cons l ls ih =>
    rw [lw]
    refine GF.mul_ne_zero ?_ (ih fun q hq => h q (by simp [hq]))
    split
    · exact gf_one_ne
    · exact gw_ne hp (h l (by simp)) (by omega)
/-- What the lost places are. -/
structure Lo (k m : Nat) (mis ls : List Nat) : Prop where
  mem : ∀ q, q ∈ ls ↔ (∃ i ∈ mis, plc k m i = q) ∨ (m ≤ q ∧ q < p2 m)
  dis : ls.Nodup
  len : ls.length = mis.length + (p2 m - m)
/-- Of a codeword the lost words are given. -/
theorem gvW_true {k m n t R i : Nat} {ds : List (List Nat)} {lg mis ls : List Nat} {pc : List (List Nat)} (hp : prm k (m : Int)) (hd : Ds k n ds) (ht : 2 * t < n) (hR : R = mu (p2 m + k))
    (hlo : Lo k m mis ls) (hmis : ∀ s ∈ mis, s < k + m) (hml : mis.length ≤ m) (hi : i ∈ mis) (hlg : ∀ q, q < 2 ^ R → lge lg q = lw ls q)
    (hpc : ∀ s, s < k + m → s ∉ mis → gl pc s = gl (ds ++ par k m n ds) s) : gvW k m lg mis pc i t = we (gl (ds ++ par k m n ds) i) t := by
  obtain ⟨F, hF, hF1, hF2, hF3⟩ := word_poly hp hd ht hR
  obtain ⟨h1, h2, h3, h4, h5⟩ := hp
  rw [Int.toNat_natCast] at h5
  have hle := le_p2 (p2 m + k)
  have hmp := le_p2 m
  have hR16 : R ≤ 16 := by rw [hR]; exact mu_le16 h5
  have hle2 : p2 m + k ≤ 2 ^ R := by rw [hR]; exact hle
  have hR2 : 2 ^ R ≤ 2 ^ 16 := Nat.pow_le_pow_right (by omega) hR16
  have hFs : ∀ s, s < k + m → F (gw (plc k m s)) = we (gl (ds ++ par k m n ds) s) t := by
    intro s hs
    by_cases c : s < k
    · rw [plc_lo c, hF1 s c]
      congr 1
      simp only [gl, List.getD_eq_getElem?_getD]; rw [List.getElem?_append_left (by rw [hd.lk]; exact c)]
    · obtain ⟨j, rfl⟩ : ∃ j, s = k + j := ⟨s - k, by omega⟩
      rw [plc_hi (by omega), Nat.add_sub_cancel_left, hF3 j (by omega)]
      congr 1
      have hj : j < m := by omega
      simp only [gl, List.getD_eq_getElem?_getD]
      rw [List.getElem?_append_right (by rw [hd.lk]; omega), hd.lk, Nat.add_sub_cancel_left]
      simp [par, hj]
  have hpl : plc k m i ∈ ls := (hlo.mem _).2 (.inl ⟨i, hi, rfl⟩)
  have hls : ∀ l ∈ ls, l < 2 ^ R := by
    intro l hl
    rcases (hlo.mem l).1 hl with ⟨s, hs, rfl⟩ | ⟨_, h⟩
    · exact plc_lt (hmis s hs) hle2
    · omega
  have hpi := hls _ hpl
  have hgs := given_sum (P := p2 m) (F := F) hR16 hF (by omega) (by rw [hlo.len]; omega) hlo.dis hpl hls
  have hne : lw ls (plc k m i) ≠ 0 := lw_ne (by omega) (fun l hl => by have := hls l hl; omega)
  have hin : ∀ s, s < k + m → (plc k m s ∈ ls ↔ s ∈ mis) := by
    intro s hs
    rw [hlo.mem]
    constructor
    · rintro (⟨a, ha, e⟩ | ⟨a, b⟩)
      · rwa [plc_inj (hmis a ha) hs e] at ha
      · unfold plc at a b
        split at a <;> rename_i c
        · rw [if_pos c] at b; omega
        · omega
    · intro h; exact .inl ⟨s, h, rfl⟩
  -- the sum over the places is the sum over the shards
  have hsum : sm (2 ^ R) (fun q => if q ∈ ls then 0 else F (gw q) * (lw ls q * (gw q + gw (plc k m i)).inv)) = sm (k + m) (fun s => if s ∈ mis then 0 else we (gl (ds ++ par k m n ds) s) t * (lw ls (plc k m s) * (gw (plc k m s) + gw (plc k m i)).inv)) := by
    have key : ∀ s, s < k + m → (if plc k m s ∈ ls then 0 else F (gw (plc k m s)) * (lw ls (plc k m s) * (gw (plc k m s) + gw (plc k m i)).inv)) = (if s ∈ mis then 0 else we (gl (ds ++ par k m n ds) s) t * (lw ls (plc k m s) * (gw (plc k m s) + gw (plc k m i)).inv)) := by
      intro s hs
      by_cases c : s ∈ mis
      · rw [if_pos c, if_pos ((hin s hs).2 c)]
      · rw [if_neg c, if_neg (fun h => c ((hin s hs).1 h)), hFs s hs]
    rw [show 2 ^ R = m + ((p2 m - m) + (k + (2 ^ R - p2 m - k))) from by omega, sm_split, sm_split, sm_split, sm_split k m]
    have z1 : sm (p2 m - m) (fun q => if m + q ∈ ls then 0 else F (gw (m + q)) * (lw ls (m + q) * (gw (m + q) + gw (plc k m i)).inv)) = 0 :=
      sm_zero' fun q hq => if_pos ((hlo.mem _).2 (.inr ⟨by omega, by omega⟩))
    have z2 : sm (2 ^ R - p2 m - k) (fun q => if m + (p2 m - m + (k + q)) ∈ ls then 0 else F (gw (m + (p2 m - m + (k + q)))) * (lw ls (m + (p2 m - m + (k + q))) * (gw (m + (p2 m - m + (k + q))) + gw (plc k m i)).inv)) = 0 := by
      refine sm_zero' fun q hq => ?_
      rw [show m + (p2 m - m + (k + q)) = p2 m + (k + q) from by omega, hF2 (k + q) (by omega) (by omega), GF.zero_mul]
      split <;> rfl
    rw [z1, z2, GF.add_zero, GF.zero_add, GF.add_comm]
    congr 1
    · refine sm_congr fun s hs => ?_
      have h := key s (by omega)
      have e1 : plc k m s = m + (p2 m - m + s) := by rw [plc_lo hs]; omega
      rw [e1] at h ⊢
      exact h
    · refine sm_congr fun j hj => ?_
      have h := key (k + j) (by omega)
      have e1 : plc k m (k + j) = j := by rw [plc_hi (by omega), Nat.add_sub_cancel_left]
      rw [e1] at h ⊢
      exact h
  rw [hsum] at hgs
  have hi2 := hmis i hi
  rw [← hFs i hi2]
  have hmul : F (gw (plc k m i)) = sm (k + m) (fun s => if s ∈ mis then 0 else we (gl (ds ++ par k m n ds) s) t * (lw ls (plc k m s) * (gw (plc k m s) + gw (plc k m i)).inv)) * (lw ls (plc k m i)).inv := by
    rw [← hgs, GF.mul_assoc, GF.mul_inv hne, GF.mul_one]
  rw [hmul, ← sm_mul']
  refine sm_congr fun s hs => ?_
  by_cases c : s ∈ mis
  · rw [if_pos c, if_pos c, GF.zero_mul]
  · rw [if_neg c, if_neg c, hpc s hs c]
    unfold gvF
    rw [hlg _ (plc_lt hs hle2), hlg _ hpi, GF.add_comm (gw (plc k m i))]
    ac_rfl
end Go.Proofs.YtpnmmedjamkmeaaGreat
