/- The walk of FcodeTells. -/
import Derived.Test.YtpnmmedjamkmeaaTextbookG11
import Derived.Test.YtpnmmedjamkmeaaTextbookG12
set_option linter.unusedSimpArgs false
set_option linter.unusedVariables false
set_option linter.unusedSimpArgs false
namespace Go.Proofs.Ytpnmmedjamkmeaa
open Go.RowKit

/-- What a slice of n hits reads as: each a shard's number, a place, a byte. -/
def Ht (w : World) (p : Option Addr) (n : Nat) : Prop :=
  ∀ i, i < n → ∃ (b off : Nat) (x y : Int) (z : Nat), p = some ⟨b, off, none⟩ ∧ w.cell? ⟨b, off + i * 3, none⟩ = some (.int .i64 x) ∧ w.cell? ⟨b, off + i * 3 + 1, none⟩ = some (.int .i64 y) ∧
    w.cell? ⟨b, off + i * 3 + 2, none⟩ = some (.int .u8 (z : Int)) ∧ z < 256
theorem Ht.keptNo {w w' : World} {p : Option Addr} {n : Nat} (h : Ht w p n) (hc : Chg No w w') : Ht w' p n := by
  intro i hi
  obtain ⟨b, off, x, y, z, rfl, h1, h2, h3, h4⟩ := h i hi
  exact ⟨b, off, x, y, z, rfl, hc.cell h1 id, hc.cell h2 id, hc.cell h3 id, h4⟩
/-- Rows that were made, with their slice. -/
theorem RowsV.some {w : World} {eo ei : TypeId} {k : IntKind} {base : Nat} {v : Value} {xs : List Pc} (h : RowsV w eo ei k base v xs) (h0 : 0 < xs.length) :
    ∃ G r0, v = .slice (some ⟨G, 0, none⟩) xs.length (xs.length + r0.length) ∧ Rws w eo ei k G xs r0 ∧ base ≤ G ∧ xs.length + r0.length ≤ maxLen ∧ ∀ x ∈ xs, base ≤ x.b := by
  rcases h with ⟨_, rfl⟩ | h
  · simp at h0
  · exact h
theorem Rws.other' {w : World} {eo ei : TypeId} {k : IntKind} {G : Nat} {xs ys : List Pc} {r0 : List Value} (h : Rws w eo ei k G xs r0) (hx : xs.map Pc.b = ys.map Pc.b) : ∀ q, InB xs q ↔ InB ys q := by
  intro q
  unfold InB
  have e : ∀ zs : List Pc, (∃ x ∈ zs, q = x.b) ↔ q ∈ zs.map Pc.b := fun zs => by
    rw [List.mem_map]; exact ⟨fun ⟨x, hx, e⟩ => ⟨x, hx, e.symm⟩, fun ⟨x, hx, e⟩ => ⟨x, hx, e.symm⟩⟩
  rw [e, e, hx]
/-- An index by a remainder, as the law has it. -/
theorem wrapIdx (x : Int) (K : Nat) (h : 0 < K) : ∃ i : Nat, i < K ∧ (x.tmod (K : Int) + (K : Int)).tmod (K : Int) = (i : Int) := by
  have h1 : -(K : Int) < x.tmod K := by
    have := Int.lt_tmod_of_pos x (b := (K : Int)) (by omega); omega
  have h2 : 0 ≤ x.tmod K + K := by omega
  have h3 : (x.tmod (K : Int) + (K : Int)).tmod (K : Int) = (x.tmod (K : Int) + (K : Int)) % (K : Int) := Int.tmod_eq_emod_of_nonneg h2
  have h4 := Int.emod_nonneg (x.tmod (K : Int) + (K : Int)) (show (K : Int) ≠ 0 by omega)
  have h5 := Int.emod_lt_of_pos (x.tmod (K : Int) + (K : Int)) (show (0 : Int) < K by omega)
  exact ⟨((x.tmod (K : Int) + (K : Int)) % (K : Int)).toNat, by omega, by rw [h3]; omega⟩
theorem wrapIdx3 (x : Int) (k m : Nat) (h : 0 < k + m) (hs : k + m ≤ 131072) : ∃ i : Nat, i < k + m ∧ (wrap64 (wrap64 (x.tmod ((k + m : Nat) : Int) + (k : Int)) + (m : Int))).tmod ((k + m : Nat) : Int) = (i : Int) := by
  obtain ⟨i, hi, he⟩ := wrapIdx x (k + m) h
  refine ⟨i, hi, ?_⟩
  have h1 : -((k + m : Nat) : Int) < x.tmod ((k + m : Nat) : Int) := by
    have := Int.lt_tmod_of_pos x (b := ((k + m : Nat) : Int)) (by omega); omega
  have h2 : x.tmod ((k + m : Nat) : Int) < ((k + m : Nat) : Int) := Int.tmod_lt_of_pos x (by omega)
  generalize x.tmod ((k + m : Nat) : Int) = y at *
  have e1 : wrap64 (y + (k : Int)) = y + (k : Int) := by unfold wrap64; omega
  rw [e1]
  have e2 : wrap64 (y + (k : Int) + (m : Int)) = y + ((k + m : Nat) : Int) := by unfold wrap64; omega
  rw [e2, he]
theorem gl_set (ls : List (List Nat)) (i j : Nat) (d : List Nat) (h : i < ls.length) : gl (ls.set i d) j = if j = i then d else gl ls j := by
  simp only [gl, List.getD_eq_getElem?_getD, List.getElem?_set]
  split
  · subst_vars; simp [h]
  · rw [if_neg (by omega)]
theorem Ev.set {t n : Nat} {ls : List (List Nat)} (h : Ev t n ls) {i : Nat} (hi : i < t) {d : List Nat} (hd : d.length = n) : Ev t n (ls.set i d) := by
  refine ⟨by rw [List.length_set, h.lt], fun j hj => ?_, h.even, h.small, h.pos, h.tpos, h.tsmall⟩
  rw [gl_set _ _ _ _ (by rw [h.lt]; exact hi)]
  split
  · exact hd
  · exact h.ln j hj
theorem Byt.set {ls : List (List Nat)} (h : Byt ls) {i : Nat} (hi : i < ls.length) {d : List Nat} (hd : ∀ x, gn d x < 256) : Byt (ls.set i d) := by
  intro j x
  rw [gl_set _ _ _ _ hi]
  split
  · exact hd x
  · exact h j x
theorem map_set_d (xs : List Pc) (i : Nat) (y : Pc) : (xs.set i y).map Pc.d = (xs.map Pc.d).set i y.d := by rw [List.map_set]
theorem map_set_b (xs : List Pc) (i : Nat) (h : i < xs.length) (d : List Nat) : (xs.set i { xs[i] with d := d }).map Pc.b = xs.map Pc.b := by
  apply List.ext_getElem (by simp)
  intro j h1 h2
  rw [List.getElem_map, List.getElem_map, List.getElem_set]
  split
  · subst_vars; rfl
  · rfl
/-- A row of truths. -/
def bw (f : Nat → Bool) (n : Nat) : List Value := (List.range n).map fun t => .bool (f t)
@[simp] theorem bw_length (f : Nat → Bool) (n : Nat) : (bw f n).length = n := by simp [bw]
theorem bw_get (f : Nat → Bool) (n i : Nat) (h : i < n) : (bw f n)[i]? = some (.bool (f i)) := by simp [bw, h]
theorem bw_set (f : Nat → Bool) (n i : Nat) (b : Bool) (h : i < n) : (bw f n).set i (.bool b) = bw (fun t => if t = i then b else f t) n := by
  apply List.ext_getElem (by simp)
  intro j h1 h2
  simp only [List.length_set, bw_length] at h1
  rw [List.getElem_set]
  simp only [bw, List.getElem_map, List.getElem_range]
  split
  · subst_vars; simp
  · rw [if_neg (by omega)]
theorem bw_congr {f g : Nat → Bool} {n : Nat} (h : ∀ t, t < n → f t = g t) : bw f n = bw g n := by
  apply List.map_congr_left
  intro t ht
  rw [h t (List.mem_range.1 ht)]
theorem bw_false (n : Nat) : bw (fun _ => false) n = List.replicate n (.bool false) := by
  apply List.ext_getElem (by simp)
  intro j h1 h2
  simp [bw]
def dataV (m : Int) (p q : Option Addr) (k c ll lc : Nat) : Value := .agg #[.int .i64 m, .slice p k c, .slice q ll lc]

set_option maxRecDepth 100000 in
set_option maxHeartbeats 12800000 in
theorem tells_walk (m : Int) (p q ph : Option Addr) (k c ll lc hn hc : Nat) (ds : List (List Nat)) (w : World) (hl : Lr w .u8 p ds) (hlk : ds.length = k) (hb : Byt ds) (hh : Ht w ph hn) (hhm : hn * 24 ≤ 140737488355328) :
    Calls Try.prog 4 #[dataV m p q k c ll lc, .slice ph hn hc] w fun e w' => e = .returned (.bool true) ∧ Chg No w w' := by
  unfold dataV
  have HL := hid hl
  have HH := hid hh
  have HFX := hid fixed_calls
  have HGD := hid (fun w h => good_calls m p q k c ll lc ds w h hlk hb)
  have HLK := hid hlk
  unfold GoodPost at HGD
  clear hl hlk hb hh
  go_enter Try.func4, Try.ntmps4
  go_wp2_with fail
  refine (HFX.out _).mono ?_
  rintro e w1 ⟨rfl, hC1⟩
  have hS : Own (w.alloc (.cells #[.int .i64 m, .slice p k c, .slice q ll lc] 40)) 40 w.heap.size [.int .i64 m, .slice p k c, .slice q ll lc] [] := heap_alloc_new w _
  have hS1 := hS.keptNo hC1
  have hC : Chg No w w1 := ((Chg.refl No w).alloc _).trans hC1
  have s0 : w1.cell? ⟨w.heap.size, 0, none⟩ = some (.int .i64 m) := hS1.cell (i := 0) (by simp)
  have s1 : w1.cell? ⟨w.heap.size, 1, none⟩ = some (.slice p k c) := hS1.cell (i := 1) (by simp)
  have s2 : w1.cell? ⟨w.heap.size, 2, none⟩ = some (.slice q ll lc) := hS1.cell (i := 2) (by simp)
  have HS := hid hS1
  have HC := hid hC
  generalize w.heap.size = D at *
  clear hS hS1 hC1 hC
  go_wp2_with fail
  refine (HGD.out _ (HL.out.keptNo HC.out)).mono ?_
  rintro e w2 ⟨t, rfl, hgd, hC2⟩
  have HC2 := hid (HC.out.trans hC2)
  have HS2 := hid (HS.out.keptNo hC2)
  clear hC2 s0 s1 s2 HS HC
  cases t with
  | false =>
    clear hgd
    go_wp2_with fail
    go_ret
    exact ⟨rfl, HC2.out⟩
  | true =>
    obtain ⟨x, n, rfl, hprm, hds, hn2, hlt⟩ := hgd rfl
    have HPRM := hid hprm
    have HDS := hid hds
    obtain ⟨b0, o0, q0, cc0, rfl, hd0, _, _⟩ := HL.out 0 (by rw [HLK.out]; exact hprm.1)
    rw [hds.ln 0 hprm.1, Nat.add_zero] at hd0
    have hk1 := hprm.1
    have hk2 := hprm.2.2.1
    have hm1 := hprm.2.1
    have hm2 := hprm.2.2.2.1
    have hn4 := hds.small
    have hkm : k + x ≤ 131072 := by omega
    have s0 : w2.cell? ⟨D, 0, none⟩ = some (.int .i64 (x : Int)) := HS2.out.cell (i := 0) (by simp)
    have s1 : w2.cell? ⟨D, 1, none⟩ = some (.slice (some ⟨b0, o0, none⟩) k c) := HS2.out.cell (i := 1) (by simp)
    have c0 := HC2.out.cell hd0 id
    have HD0 := hid hd0
    have HCO := hid (fun w => codecs_calls k x hprm w)
    unfold CodecsPost at HCO
    clear hgd hprm hds hd0 HGD HFX hlt
    go_wp2_with fail
    go_quiet (fail)
    obtain ⟨w3, hw3⟩ : ∃ w3, w3 = w2.drewN nq := ⟨_, rfl⟩
    rw [← hw3]
    have HC3 : Hid (Chg No w w3) := hid (by rw [hw3]; exact HC2.out.drewN _)
    have HS3 : Hid (Own w3 40 D [.int .i64 (x : Int), .slice (some ⟨b0, o0, none⟩) k c, .slice q ll lc] []) := hid (by rw [hw3]; exact HS2.out.drewN _)
    clear hw3 s0 s1 c0 HC2 HS2
    go_wp2_with fail
    refine (HCO.out _).mono ?_
    rintro e w4 ⟨G, C, W, T, K, rfl, hCs, hG, hC4⟩
    have HCS := hid hCs
    have HC4 := hid (HC3.out.trans hC4)
    have HS4 := hid (HS3.out.keptNo hC4)
    clear hCs hG hC4 HC3 HS3
    go_wp2_with fail
    go_loopw [43] (fun i wr => ∃ i' : Nat, i' ≤ 2 ∧ i = .int .i64 (i' : Int) ∧ Chg No w4 wr) (fun i _ => 2 - (intOf i).toNat)
    case atStart => exact ⟨0, by omega, rfl, Chg.refl _ _⟩
    case round =>
      obtain ⟨i, hi, rfl, hC5⟩ := hrel
      obtain ⟨w5, rfl⟩ : ∃ w5 : World, w5 = wr := ⟨_, rfl⟩
      have HC5 := hid hC5
      clear hC5
      by_cases hil : i < 2
      · obtain ⟨f, hf⟩ : ∃ f : Bool, w5.cell? ⟨G, i, none⟩ = some (.pointer (some ⟨C f, 0, none⟩)) := by
          have ho := HCS.out.own.keptNo HC5.out
          have : i = 0 ∨ i = 1 := by omega
          rcases this with rfl | rfl
          · exact ⟨false, ho.cell (i := 0) (by simp)⟩
          · exact ⟨true, ho.cell (i := 1) (by simp)⟩
        have hcd := (HCS.out.cd f).keptNo HC5.out
        have hlts := hcd.lts
        have s1 : w5.cell? ⟨D, 1, none⟩ = some (.slice (some ⟨b0, o0, none⟩) k c) := (HS4.out.keptNo HC5.out).cell (i := 1) (by simp)
        have hCw5 := HC4.out.trans HC5.out
        have HCW5 := hid hCw5
        have HEN := hid (encoded_calls f (C f) k x (mu (p2 x + k)) (W f) (T f) (K f) n c (some ⟨b0, o0, none⟩) ds w5 hcd HDS.out (HL.out.keptNo hCw5))
        unfold EncPost at HEN
        have HCD := hid hcd
        have HLTS := hid hlts
        clear hcd hlts hCw5
        generalize C f = Cf at *
        generalize W f = Wf at *
        generalize T f = Tf at *
        generalize K f = Kf at *
        generalize mu (p2 x + k) = rr at *
        go_wp2_with fail
        refine HEN.out.mono ?_
        rintro e w6 ⟨v6, xs, rfl, hR6, hx6, hC6⟩
        have hxl : xs.length = k + x := by
          have := congrArg List.length hx6
          simpa [HDS.out.lk, par_length] using this
        obtain ⟨Gs, rs, rfl, hR6, hGs, hms, hbs⟩ := hR6.some (by omega)
        rw [hxl] at hms ⊢
        have HXL := hid hxl
        have HR6 := hid hR6
        have HX6 := hid hx6
        have HC6 := hid hC6
        have HGS := hid hGs
        have HBS := hid hbs
        clear hR6 hx6 hC6 hGs hbs hxl HEN s1 hf
        obtain ⟨L0, hL0⟩ : ∃ L0, L0 = ds ++ par k x n ds := ⟨_, rfl⟩
        have hEv0 : Ev (k + x) n L0 := by rw [hL0]; exact HDS.out.ev (par_length _ _ _ _) par_mem hk1 hkm
        have hBy0 : Byt L0 := by rw [hL0]; exact Byt.app HDS.out.lb byt_par
        have hOk0 : okSpan k x 0 n L0 := by rw [hL0]; exact okSpan_all HDS.out
        have hX0 : xs.map Pc.d = L0 := by rw [hL0]; exact HX6.out
        have HEV0 := hid hEv0
        have HBY0 := hid hBy0
        have HOK0 := hid hOk0
        have HX0 := hid hX0
        clear hL0 hEv0 hBy0 hOk0 hX0 HX6
        have hL6 := HR6.out.lr
        rw [HX0.out] at hL6
        have hsz := hms
        unfold maxLen at hsz
        obtain ⟨tt, htt⟩ : ∃ tt, tt = k + x := ⟨_, rfl⟩
        obtain ⟨ct, hct⟩ : ∃ ct, ct = k + x + rs.length := ⟨_, rfl⟩
        rw [← hct] at hsz ⊢
        rw [← htt] at ⊢
        have hCP := Copies_calls (some ⟨Gs, 0, none⟩) ct tt L0 w6 hL6 (by rw [HEV0.out.lt, htt]) (by omega)
        unfold CopyPost at hCP
        have HCP := hid hCP
        have htt1 : (k : Int) + (x : Int) = (tt : Int) := by omega
        have htt2 : tt ≤ 131072 := by omega
        have htt3 : 1 ≤ tt := by omega
        have hct2 : tt ≤ ct := by omega
        have HTT := hid htt
        have HCT := hid hct
        clear hCP hL6 htt hct hms
        go_wp2_with fail
        refine HCP.out.mono ?_
        rintro e w7 ⟨v7, xs7, rfl, hR7, hx7, hC7⟩
        have hxl7 : xs7.length = tt := by
          have := congrArg List.length hx7
          rwa [List.length_map, HEV0.out.lt, ← HTT.out] at this
        obtain ⟨G7, r7, rfl, hR7, _, hm7, _⟩ := hR7.some (by omega)
        rw [hxl7] at hm7 ⊢
        have hL7 := hR7.lr
        rw [hx7] at hL7
        have HC7 := hid (HC6.out.trans hC7)
        have HR67 := hid (HR6.out.keptNo hC7)
        have hVF := Verify_calls f (parC f) Cf k x rr Wf Tf Kf n (tt + r7.length) tt (some ⟨G7, 0, none⟩) L0 w7 (HCD.out.keptNo HC7.out) hL7 HTT.out (by have := HEV0.out; rwa [← HTT.out] at this) HBY0.out (by omega)
        rw [decide_eq_true HOK0.out] at hVF
        have HVF := hid hVF
        clear hR7 hx7 hC7 hL7 hVF hxl7 HCP
        go_wp2_with fail
        refine HVF.out.mono ?_
        rintro e w8 ⟨rfl, hC8⟩
        have HC8 := hid (HC7.out.trans hC8)
        have HR8 := hid (HR67.out.keptNo hC8)
        clear hC8 HVF HC7 HR67 hm7
        have hL8 := HR8.out.lr
        rw [HX0.out] at hL8
        have hCP := Copies_calls (some ⟨Gs, 0, none⟩) ct tt L0 w8 hL8 (by rw [HEV0.out.lt, HTT.out]) (by omega)
        unfold CopyPost at hCP
        have HCP := hid hCP
        clear hCP hL8
        go_wp2_with fail
        refine HCP.out.mono ?_
        rintro e w9 ⟨v9, ys, rfl, hR9, hx9, hC9⟩
        have hyl : ys.length = tt := by
          have := congrArg List.length hx9
          rwa [List.length_map, HEV0.out.lt, ← HTT.out] at this
        obtain ⟨G9, r9, rfl, hR9, hG9, hm9, hb9⟩ := hR9.some (by omega)
        rw [hyl] at hm9 ⊢
        have HC9 := hid (HC8.out.trans hC9)
        have HR9 := hid (HR8.out.keptNo hC9)
        have HY := hid hR9
        have HYX := hid hx9
        have HYL := hid hyl
        have hsy : ∀ q, InB xs q → q < w8.heap.size := fun q ⟨y, hy, e⟩ => by rw [e]; exact HR8.out.blk hy
        have HSY : Hid (¬ InB xs G9 ∧ ∀ y ∈ ys, ¬ InB xs y.b) := hid ⟨fun s => by have := hsy _ s; omega, fun y hy s => by have := hsy _ s; have := hb9 y hy; omega⟩
        have HSO : Hid (∀ q, InB xs q → w5.heap.size ≤ q) := hid (fun q ⟨y, hy, e⟩ => by rw [e]; exact HBS.out y hy)
        obtain ⟨c9, hc9⟩ : ∃ c9, c9 = tt + r9.length := ⟨_, rfl⟩
        rw [← hc9]
        clear hR9 hx9 hC9 hyl hsy HCP HC8 HR8 hG9 hb9 hm9 hc9
        go_wp2_with fail
        go_loopw [75] (fun z wr => ∃ (z' : Nat) (xs' : List Pc), z' ≤ hn ∧ z = .int .i64 (z' : Int) ∧ Rws wr 42 5 .u8 Gs xs' rs ∧ Ev (k + x) n (xs'.map Pc.d) ∧ Byt (xs'.map Pc.d) ∧ xs'.map Pc.b = xs.map Pc.b ∧ Chg (InB xs) w9 wr) (fun z _ => hn - (intOf z).toNat)
        case atStart => exact ⟨0, xs, by omega, rfl, HR9.out, by rw [HX0.out]; exact HEV0.out, by rw [HX0.out]; exact HBY0.out, rfl, Chg.refl _ _⟩
        case round =>
          clear HR9
          obtain ⟨z, xs', hz, rfl, hR10, hEv, hBy, hxb, hC10⟩ := hrel
          obtain ⟨w10, rfl⟩ : ∃ w10 : World, w10 = wr := ⟨_, rfl⟩
          have HR10 := hid hR10
          have HEV := hid hEv
          have HBY := hid hBy
          have HXB := hid hxb
          have HC10 := hid hC10
          clear hR10 hEv hBy hxb hC10
          by_cases hzl : z < hn
          · as_aux_lemma =>
            have hCall : Chg No w5 w10 := HC9.out.trans' HC10.out fun q _ s => by have := HSO.out q s; omega
            obtain ⟨bh, oh, hx, hy, hz3, rfl, h1, h2, h3, h4⟩ := (HH.out.keptNo ((HC4.out.trans HC5.out).trans hCall)) z hzl
            --BEGIN1
            obtain ⟨ii, hii, hix⟩ := wrapIdx3 hx k x (by omega) hkm
            obtain ⟨jj, hjj, hjx⟩ := wrapIdx hy n (by omega)
            rw [← HTT.out] at hix hii
            have hw1 : IntKind.i64.wrap (hy.tmod (n : Int) + (n : Int)) = hy.tmod (n : Int) + (n : Int) := IntWalk.i64_in _ (by
              have h1 : -(n : Int) < hy.tmod n := by
                have := Int.lt_tmod_of_pos hy (b := (n : Int)) (by omega); omega
              have h2 : hy.tmod n < (n : Int) := Int.tmod_lt_of_pos hy (by omega)
              omega)
            have hxl : xs'.length = tt := by have := HEV.out.lt; rw [List.length_map] at this; rw [this, HTT.out]
            have hiy : ii < xs'.length := by omega
            obtain ⟨y, hye⟩ : ∃ y, y = xs'[ii]'hiy := ⟨_, rfl⟩
            have hcy := HR10.out.cell hiy
            have hiy2 := HR10.out.inn _ (List.getElem_mem hiy)
            rw [← hye] at hcy hiy2
            have hyn : y.d.length = n := by
              have := HEV.out.ln ii (by rw [← HTT.out]; exact hii)
              rw [gl_get _ _ (by simpa using hiy)] at this
              rw [hye]; simpa using this
            have hvy : y.v = .slice (some ⟨y.b, 0, none⟩) n (n + y.r.length) := by rw [Pc.v, hyn]
            rw [hvy] at hcy
            have hyb : ∀ a, gn y.d a < 256 := fun a => by
              have := HBY.out ii a
              rw [gl_get _ _ (by simpa using hiy)] at this
              rw [hye]; simpa using this
            have HIX := hid hix
            have HYE := hid hye
            have HYN := hid hyn
            have HYB := hid hyb
            have HIY := hid hiy2
            have HII := hid hii
            have HIL := hid hiy
            have HXL2 := hid hxl
            clear hix hye hyn hvy hyb hiy2 hxl
            go_wp2_with fail
            rw [HIX.out]
            have hA : Chg No w10 (w10.alloc (.cells #[.int .i64 hx, .int .i64 hy, .int .u8 (hz3 : Int)] 51)) := (Chg.refl _ _).alloc _
            have hSA : Own (w10.alloc (.cells #[.int .i64 hx, .int .i64 hy, .int .u8 (hz3 : Int)] 51)) 51 w10.heap.size [.int .i64 hx, .int .i64 hy, .int .u8 (hz3 : Int)] [] := heap_alloc_new w10 _
            generalize w10.alloc (.cells #[.int .i64 hx, .int .i64 hy, .int .u8 (hz3 : Int)] 51) = w11 at *
            generalize w10.heap.size = gH at *
            have t1 : w11.cell? ⟨gH, 1, none⟩ = some (.int .i64 hy) := hSA.cell (i := 1) (by simp)
            have t2 : w11.cell? ⟨gH, 2, none⟩ = some (.int .u8 (hz3 : Int)) := hSA.cell (i := 2) (by simp)
            have hcy2 := hA.cell hcy id
            have HIY2 := hid (HIY.out.keptNo hA)
            have u1 := HIY2.out.nat (i := jj) (by rw [HYN.out]; exact hjj)
            have u2 := HIY2.out.frozen jj
            have HA := hid hA
            have i0 : (0 : Int) ≤ (ii : Int) := by omega
            have i1 : (ii : Int) < (tt : Int) := by omega
            have j0 : (0 : Int) ≤ (jj : Int) := by omega
            have j1 : (jj : Int) < (n : Int) := by omega
            have n2 : (2 : Int) ≤ (n : Int) := by omega
            have n3 : ((n : Int) == 0) = false := by rw [beq_eq_false_iff_ne]; omega
            have n4 : ¬ (n = 0) := by omega
            have n5 : (n == 0) = false := by rw [beq_eq_false_iff_ne]; omega
            have hgy := HYB.out jj
            have HJJ := hid hjj
            have HNX := hid (show gn y.d jj = gn y.d jj from rfl)
            clear hA hSA hcy h1 h2 h3 hjj hii
            generalize hgq : gn y.d jj = gy at *
            have HGQ := hid hgq
            clear hgq HNX
            have hxor := Go.u8_xor_nat gy hz3 hgy h4
            go_still_tail 18, (by kernel_rfl)
            go_wp2_with fail
            have hO12 := HIY2.out.setNat (i := jj) (by rw [HYN.out]; exact HJJ.out) (gy ^^^ hz3)
            have hC12 : Chg (Only y.b) w10 (w11.setCell ⟨y.b, jj, none⟩ (.int .u8 ((gy ^^^ hz3 : Nat) : Int))).drew := (((show Chg (Only y.b) w10 w11 from HA.out.no)).setOnly jj _).drew
            have hyxb : y.b = (xs'[ii]'HIL.out).b := by rw [HYE.out]
            have hRU := HR10.out.upd HIL.out (d' := y.d.set jj (gy ^^^ hz3)) (by rw [List.length_set, HYE.out]) (by rw [← hyxb]; exact hC12) (by rw [← HYE.out]; exact hO12.drew)
            have hEV2 : Ev (k + x) n ((xs'.set ii { xs'[ii]'HIL.out with d := y.d.set jj (gy ^^^ hz3) }).map Pc.d) := by
              rw [map_set_d]; exact HEV.out.set (by rw [← HTT.out]; exact HII.out) (by simp [HYN.out])
            have hBY2 : Byt ((xs'.set ii { xs'[ii]'HIL.out with d := y.d.set jj (gy ^^^ hz3) }).map Pc.d) := by
              rw [map_set_d]; exact HBY.out.set (by rw [List.length_map]; exact HIL.out) (fun a => by
                rw [gn_set _ _ _ _ (by rw [HYN.out]; exact HJJ.out)]
                split
                · exact Nat.xor_lt_two_pow (n := 8) hgy h4
                · exact HYB.out a)
            have hXB2 := (map_set_b xs' ii HIL.out (y.d.set jj (gy ^^^ hz3))).trans HXB.out
            have hC13 : Chg (InB xs) w9 (w11.setCell ⟨y.b, jj, none⟩ (.int .u8 ((gy ^^^ hz3 : Nat) : Int))).drew := HC10.out.trans' hC12 fun q _ e => by
              refine (Rws.other' HR10.out HXB.out q).1 ⟨xs'[ii]'HIL.out, List.getElem_mem _, ?_⟩
              rw [← HYE.out]; exact e
            have HRU := hid hRU
            have HEV2 := hid hEV2
            have HBY2 := hid hBY2
            have HXB2 := hid hXB2
            have HC13 := hid hC13
            clear hO12 hC12 hyxb hRU hEV2 hBY2 hXB2 hC13
            go_roundw
            case rel => exact ⟨z + 1, _, by omega, by go_num, HRU.out, HEV2.out, HBY2.out, HXB2.out, HC13.out⟩
            case measure => simp [intOf]; omega
            --END1
          · have hze : ¬ z < hn := hzl
            obtain ⟨nh, hnh⟩ : ∃ nh, n = 2 * nh := ⟨n / 2, by have := HDS.out.even; omega⟩
            have e2 : (n : Int) / 2 = (nh : Int) := by omega
            have HNH := hid hnh
            have hnh1 : nh ≤ 2097152 := by omega
            clear hnh
            go_wp2_with (at_make; go_must ((with_reducible refine wpList_mk1 4 (.bool false) 1 nh nh ?_ ?_ ?_ ?_ ?_ ?_ ?_ ?_); exact ⟨rfl, rfl⟩; exact Try.underlying52; kernel_rfl; rfl; omega; omega; (unfold maxLen; omega); intro W12 hO12 hC12 hs12))
            have hO13 : Own W12 4 w10.heap.size (bw (fun t => decide (t < 0)) nh) [] := by
              rw [bw_congr (g := fun _ => false) (fun t _ => by simp), bw_false]; simpa using hO12
            have HR13 := hid (HR10.out.keptNo hC12)
            have HC13 := hid (HC10.out.transNo hC12)
            have HBL : Hid (∀ q, InB xs q → q < w10.heap.size) := hid (fun q s => by
              obtain ⟨y, hy, e⟩ := (Rws.other' HR10.out HXB.out q).2 s
              rw [e]; exact HR10.out.blk hy)
            have HGL : Hid (Gs < w10.heap.size ∧ G9 < w10.heap.size ∧ (∀ y ∈ ys, y.b < w10.heap.size) ∧ w9.heap.size ≤ w10.heap.size) := hid ⟨HR10.out.out.lt, Nat.lt_of_lt_of_le HY.out.out.lt HC10.out.size, fun y hy => Nat.lt_of_lt_of_le (HY.out.blk hy) HC10.out.size, HC10.out.size⟩
            generalize w10.heap.size = gC at *
            clear hO12 hC12 hs12 e2 HR10 HC10
            go_loopw [117] (fun i wr => ∃ i' : Nat, i' ≤ nh ∧ i = .int .i64 (i' : Int) ∧ Own wr 4 gC (bw (fun t => decide (t < i')) nh) [] ∧ Chg (Only gC) W12 wr) (fun i _ => nh - (intOf i).toNat)
            case atStart => exact ⟨0, by omega, rfl, hO13, Chg.refl _ _⟩
            case round =>
              clear hO13
              obtain ⟨t, ht, rfl, hO, hC14⟩ := hrel
              obtain ⟨w14, rfl⟩ : ∃ w14 : World, w14 = wr := ⟨_, rfl⟩
              have HO := hid hO
              have HC14 := hid hC14
              clear hO hC14
              by_cases htl : t < nh
              · have c1 := HO.out.cell' (bw_get _ nh t htl)
                have f1 := HO.out.frozen t
                generalize decide (t < t) = bb at c1
                have HST : Hid ((bw (fun s => decide (s < t)) nh).set t (.bool true) = bw (fun s => decide (s < t + 1)) nh) := hid (by
                  rw [bw_set _ _ _ _ htl]
                  refine bw_congr fun s _ => ?_
                  by_cases e : s = t
                  · rw [if_pos e]; simp [e]
                  · rw [if_neg e]; exact decide_eq_decide.2 (by omega))
                have HTL := hid htl
                go_wp2_with fail
                go_roundw
                case rel => exact ⟨t + 1, by omega, by go_num, by rw [← HST.out]; exact HO.out.set (by simpa using HTL.out) _, HC14.out.setOnly _ _⟩
                case measure => simp [intOf]; omega
              · have hte : ¬ t < nh := htl
                have hO15 : Own w14 4 gC (bw (fun _ => true) nh) [] := by
                  have := HO.out
                  rwa [bw_congr (g := fun _ => true) (fun s hs => by simp; omega)] at this
                have HO15 := hid hO15
                have HR15 := hid (HR13.out.kept HC14.out (fun e => by have := HGL.out.1; simp only [Only] at e; omega) (fun y hy e => by have := HBL.out y.b ((Rws.other' HR13.out HXB.out _).1 ⟨y, hy, rfl⟩); simp only [Only] at e; omega))
                obtain ⟨L, hL⟩ : ∃ L, L = xs'.map Pc.d := ⟨_, rfl⟩
                have HLD := hid hL
                have hEvL : Ev (k + x) n L := by rw [hL]; exact HEV.out
                have hByL : Byt L := by rw [hL]; exact HBY.out
                have HEVL := hid hEvL
                have HBYL := hid hByL
                have HCY : Hid (Chg (fun q => InB xs q ∨ q = gC) w9 w14) := hid ((HC13.out.mono fun q _ s => .inl s).trans' HC14.out fun q _ e => .inr e)
                have HYN : Hid (¬ (InB xs G9 ∨ G9 = gC) ∧ ∀ y ∈ ys, ¬ (InB xs y.b ∨ y.b = gC)) := hid ⟨fun s => by
                  rcases s with s | s
                  · exact HSY.out.1 s
                  · have := HGL.out.2.1; omega, fun y hy s => by
                  rcases s with s | s
                  · exact HSY.out.2 y hy s
                  · have := HGL.out.2.2.1 y hy; omega⟩
                have HYS := hid (HY.out.kept HCY.out HYN.out.1 HYN.out.2)
                clear hO15 hL hEvL hByL HO HC14 HR13 HC13 HCW5 HL
                have HLX : Hid (∀ I, (h : I < xs'.length) → (xs'[I]'h).d = gl L I) := hid (fun I h => by rw [HLD.out, gl_get _ _ (by simpa using h)]; simp)
                have HLY : Hid (∀ I, (h : I < ys.length) → (ys[I]'h).d = gl L0 I) := hid (fun I h => by rw [← HYX.out, gl_get _ _ (by simpa using h)]; simp)
                have HXL3 : Hid (xs'.length = tt) := hid (by have := HEV.out.lt; rw [List.length_map] at this; rw [this, HTT.out])
                have HGC : Hid (Gs ≠ gC ∧ G9 ≠ gC ∧ (∀ y ∈ xs', y.b ≠ gC) ∧ ∀ y ∈ ys, y.b ≠ gC) := hid ⟨by have := HGL.out.1; omega, by have := HGL.out.2.1; omega, fun y hy => by
                  have := HBL.out y.b ((Rws.other' HR15.out HXB.out _).1 ⟨y, hy, rfl⟩); omega, fun y hy => by have := HGL.out.2.2.1 y hy; omega⟩
                go_wp2_with fail
                go_loopw [17, 126] (fun tn i wr => ∃ (I : Nat) (cl : Nat → Bool), I ≤ tt ∧ tn = .int .i64 ((cnt I (fun i => decide (gl L i ≠ gl L0 i)) : Nat) : Int) ∧ i = .int .i64 (I : Int) ∧ Own wr 4 gC (bw cl nh) [] ∧ (∀ t, t < nh → (cl t = true ↔ clean I L L0 t)) ∧ Chg (Only gC) w14 wr) (fun _ i _ => tt - (intOf i).toNat)
                case atStart => exact ⟨0, fun _ => true, by omega, rfl, rfl, HO15.out, fun t _ => by simp [clean], Chg.refl _ _⟩
                case round =>
                  clear HO15
                  obtain ⟨I, cl, hI, rfl, rfl, hO, hcl, hC16⟩ := hrel
                  obtain ⟨w16, rfl⟩ : ∃ w16 : World, w16 = wr := ⟨_, rfl⟩
                  have HO := hid hO
                  have HCL := hid hcl
                  have HC16 := hid hC16
                  clear hO hcl hC16
                  have hR16 := HR15.out.kept HC16.out (fun e => HGC.out.1 e) (fun y hy e => HGC.out.2.2.1 y hy e)
                  have hY16 := HYS.out.kept HC16.out (fun e => HGC.out.2.1 e) (fun y hy e => HGC.out.2.2.2 y hy e)
                  have HR16 := hid hR16
                  have HY16 := hid hY16
                  clear hR16 hY16
                  have hTn : cnt I (fun i => decide (gl L i ≠ gl L0 i)) ≤ I := by
                    have := cnt_not I (fun i => decide (gl L i ≠ gl L0 i)); omega
                  by_cases hIl : I < tt
                  · as_aux_lemma =>
                    have hix : I < xs'.length := by rw [HXL3.out]; exact hIl
                    have hiy : I < ys.length := by rw [HYL.out]; exact hIl
                    have hcx := HR16.out.cell hix
                    have hcy := HY16.out.cell hiy
                    have hnx := HR16.out.inn _ (List.getElem_mem hix)
                    have hny := HY16.out.inn _ (List.getElem_mem hiy)
                    have hdx := HLX.out I hix
                    have hdy := HLY.out I hiy
                    have hlx : (gl L I).length = n := HEVL.out.ln I (by rw [← HTT.out]; exact hIl)
                    have hly : (gl L0 I).length = n := HEV0.out.ln I (by rw [← HTT.out]; exact hIl)
                    have hbx : (xs'[I]'hix).b ≠ gC := HGC.out.2.2.1 _ (List.getElem_mem hix)
                    have hby : (ys[I]'hiy).b ≠ gC := HGC.out.2.2.2 _ (List.getElem_mem hiy)
                    have hvx : (xs'[I]'hix).v = .slice (some ⟨(xs'[I]'hix).b, 0, none⟩) n (n + (xs'[I]'hix).r.length) := by rw [Pc.v, hdx, hlx]
                    have hvy : (ys[I]'hiy).v = .slice (some ⟨(ys[I]'hiy).b, 0, none⟩) n (n + (ys[I]'hiy).r.length) := by rw [Pc.v, hdy, hly]
                    rw [hvx] at hcx
                    rw [hvy] at hcy
                    rw [hdx] at hnx
                    rw [hdy] at hny
                    generalize (xs'[I]'hix).b = bx at *
                    generalize (ys[I]'hiy).b = by' at *
                    generalize (xs'[I]'hix).r = rx at *
                    generalize (ys[I]'hiy).r = ry at *
                    have HNX := hid hnx
                    have HNY := hid hny
                    have HLX2 := hid hlx
                    have HLY2 := hid hly
                    have HCX := hid hcx
                    have HCY2 := hid hcy
                    have HBX := hid hbx
                    have HBY2 := hid hby
                    have HEQ := hid (fun w h1 h2 => equal_calls (some ⟨bx, 0, none⟩) (some ⟨by', 0, none⟩) n n (n + rx.length) (n + ry.length) (gl L I) (gl L0 I) w h1 h2 hlx hly (by unfold maxLen; omega))
                    have HCN := hid (cnt_succ I (fun i => decide (gl L i ≠ gl L0 i)))
                    have HT0 : Hid (∃ z, cnt (I + 1) (fun i => decide (gl L i ≠ gl L0 i)) = z) := hid ⟨_, rfl⟩
                    obtain ⟨T1, hT1⟩ := HT0.out
                    obtain ⟨T0, hT0⟩ : ∃ z, cnt I (fun i => decide (gl L i ≠ gl L0 i)) = z := ⟨_, rfl⟩
                    rw [hT0] at HCN hTn ⊢
                    rw [hT1] at HCN
                    have HT1 := hid hT1
                    have i0 : (0 : Int) ≤ (I : Int) := by omega
                    have i1 : (I : Int) < (tt : Int) := by omega
                    have HIX := hid hix
                    clear hnx hny hdx hdy hlx hly hvx hvy hbx hby HT0 hT0 hT1 hix hiy
                    have HDY : Hid (∀ q : Nat, q < n → ∃ qh : Nat, q / 2 = qh ∧ qh < nh) := hid (fun q hq => ⟨_, rfl, by have := HNH.out; omega⟩)
                    have hpart : (gl L I = gl L0 I ∧ T1 = T0) ∨ (gl L I ≠ gl L0 I ∧ T1 = T0 + 1) := by
                      have h2 := HCN.out
                      by_cases h : gl L I = gl L0 I
                      · refine .inl ⟨h, ?_⟩
                        rw [if_neg (by simpa using h), Nat.add_zero] at h2; exact h2
                      · refine .inr ⟨h, ?_⟩
                        rw [if_pos (by simpa using h)] at h2; exact h2
                    rcases hpart with ⟨he, hTT⟩ | ⟨he, hTT⟩
                    · obtain rfl : T1 = T0 := hTT
                      have hdd : decide (gl L I = gl L0 I) = true := decide_eq_true he
                      rw [hdd] at HEQ
                      clear he hdd
                      go_wp2_with fail
                      go_quiet ((go_at_call 21; exact Calls.quiet_of (HEQ.out _ HNX.out.rn HNY.out.rn)))
                      go_wp2_with fail
                      have HO17 := hid (HO.out.drewN nq)
                      have HR17 := hid (HR16.out.keptNo ((Chg.refl No w16).drewN nq))
                      have HC17 := hid (HC16.out.drewN nq)
                      have HCX17 := hid (((Chg.refl No w16).drewN nq).cell HCX.out id)
                      have HCY17 := hid (((Chg.refl No w16).drewN nq).cell HCY2.out id)
                      have HNX17 := hid (HNX.out.drewN nq)
                      have HNY17 := hid (HNY.out.drewN nq)
                      clear hcx hcy HEQ
                      generalize w16.drewN nq = w17 at *
                      clear HO HC16 HR16 HY16 HNX HNY HCX HCY2
                      go_loopw [146] (fun z wr => ∃ (Q : Nat) (cl : Nat → Bool), Q ≤ n ∧ z = .int .i64 (Q : Int) ∧ Own wr 4 gC (bw cl nh) [] ∧ (∀ t, t < nh → (cl t = true ↔ (clean I L L0 t ∧ ∀ y, y < Q → y / 2 = t → gn (gl L I) y = gn (gl L0 I) y))) ∧ Chg (Only gC) w17 wr) (fun z _ => n - (intOf z).toNat)
                      case atStart => exact ⟨0, cl, by omega, rfl, HO17.out, fun t ht => ⟨fun h => ⟨(HCL.out t ht).1 h, fun y hy => by omega⟩, fun h => (HCL.out t ht).2 h.1⟩, Chg.refl _ _⟩
                      case round =>
                        clear HO17 HCL
                        obtain ⟨Q, cl, hQ, rfl, hO, hcl, hC18⟩ := hrel
                        obtain ⟨w18, rfl⟩ : ∃ w18 : World, w18 = wr := ⟨_, rfl⟩
                        have HO := hid hO
                        have HCL := hid hcl
                        have HC18 := hid hC18
                        clear hO hcl hC18
                        by_cases hQl : Q < n
                        · as_aux_lemma =>
                          have e1 := HC18.out.cell HCX17.out (fun e => HGC.out.1 e)
                          have e2 := HC18.out.cell HCY17.out (fun e => HGC.out.2.1 e)
                          have e3 := (HNX17.out.kept HC18.out (fun e => HBX.out e)).nat (i := Q) (by rw [HLX2.out]; exact hQl)
                          have e4 := (HNY17.out.kept HC18.out (fun e => HBY2.out e)).nat (i := Q) (by rw [HLY2.out]; exact hQl)
                          have q0 : (0 : Int) ≤ (Q : Int) := by omega
                          have q1 : (Q : Int) < (n : Int) := by omega
                          obtain ⟨a1, ha1⟩ : ∃ a1, gn (gl L I) Q = a1 := ⟨_, rfl⟩
                          obtain ⟨a2, ha2⟩ : ∃ a2, gn (gl L0 I) Q = a2 := ⟨_, rfl⟩
                          rw [ha1] at e3
                          rw [ha2] at e4
                          have HA1 := hid ha1
                          have HA2 := hid ha2
                          clear ha1 ha2
                          by_cases hab : a1 = a2
                          · have d1 : ((a1 : Int) != (a2 : Int)) = false := by rw [bne_eq_false_iff_eq, hab]
                            have HAB := hid hab
                            clear hab
                            go_wp2_with fail
                            go_quiet (fail)
                            go_wp2_with fail
                            have hcl2 : ∀ t, t < nh → (cl t = true ↔ (clean I L L0 t ∧ ∀ y, y < Q + 1 → y / 2 = t → gn (gl L I) y = gn (gl L0 I) y)) := fun t ht => by
                              rw [HCL.out t ht]
                              refine ⟨fun h => ⟨h.1, fun y hy hyt => ?_⟩, fun h => ⟨h.1, fun y hy hyt => h.2 y (by omega) hyt⟩⟩
                              by_cases e : y = Q
                              · rw [e, HA1.out, HA2.out, HAB.out]
                              · exact h.2 y (by omega) hyt
                            have HCL2 := hid hcl2
                            clear hcl2
                            go_roundw
                            case rel => exact ⟨Q + 1, cl, by omega, by go_num, HO.out.drewN _, HCL2.out, HC18.out.drewN _⟩
                            case measure => simp [intOf]; omega
                          · have d1 : ((a1 : Int) != (a2 : Int)) = true := by simp; omega
                            obtain ⟨qh, hqh, hqn⟩ := HDY.out Q hQl
                            have eq1 : (Q : Int) / 2 = (qh : Int) := by omega
                            have HAB := hid hab
                            have HQH := hid hqh
                            have HO19 := hid (fun nq => HO.out.drewN nq)
                            clear hab hqh
                            go_wp2_with fail
                            go_quiet (fail)
                            have ho := HO19.out nq
                            have c1 := ho.cell' (bw_get cl nh qh hqn)
                            have f1 := ho.frozen qh
                            have HO20 := hid ho
                            have HC20 := hid (HC18.out.drewN nq)
                            generalize cl qh = cb at c1
                            generalize w18.drewN nq = w20 at *
                            have hcl2 : ∀ t, t < nh → ((if t = qh then false else cl t) = true ↔ (clean I L L0 t ∧ ∀ y, y < Q + 1 → y / 2 = t → gn (gl L I) y = gn (gl L0 I) y)) := fun t ht => by
                              by_cases et : t = qh
                              · subst et
                                rw [if_pos rfl]
                                refine ⟨fun h => Bool.noConfusion h, fun h => ?_⟩
                                have := h.2 Q (by omega) HQH.out
                                rw [HA1.out, HA2.out] at this
                                exact absurd this HAB.out
                              · rw [if_neg et, HCL.out t ht]
                                refine ⟨fun h => ⟨h.1, fun y hy hyt => ?_⟩, fun h => ⟨h.1, fun y hy hyt => h.2 y (by omega) hyt⟩⟩
                                by_cases e : y = Q
                                · exfalso; have := HQH.out; omega
                                · exact h.2 y (by omega) hyt
                            have HCL2 := hid hcl2
                            have HST := hid (bw_set cl nh qh false hqn)
                            have HQN := hid hqn
                            clear hcl2 ho
                            go_wp2_with fail
                            go_roundw
                            case rel => exact ⟨Q + 1, _, by omega, by go_num, by rw [← HST.out]; exact HO20.out.set (by simpa using HQN.out) _, HCL2.out, HC20.out.setOnly _ _⟩
                            case measure => simp [intOf]; omega
                        · as_aux_lemma =>
                          have hQe : ¬ Q < n := hQl
                          have hcl2 : ∀ t, t < nh → (cl t = true ↔ clean (I + 1) L L0 t) := fun t ht => by
                            have hn := HNH.out
                            rw [HCL.out t ht]
                            refine ⟨fun h z hz => ?_, fun h => ⟨fun z hz => h z (by omega), fun y hy hyt => ?_⟩⟩
                            · by_cases e : z = I
                              · rw [e]; exact ⟨h.2 (2 * t) (by omega) (by omega), h.2 (2 * t + 1) (by omega) (by omega)⟩
                              · exact h.1 z (by omega)
                            · have h2 := h I (by omega)
                              have : y = 2 * t ∨ y = 2 * t + 1 := by omega
                              rcases this with rfl | rfl
                              · exact h2.1
                              · exact h2.2
                          have HCL2 := hid hcl2
                          have HC21 := hid (HC17.out.trans HC18.out)
                          clear hcl2
                          go_wp2_with fail
                          go_roundw
                          case rel => exact ⟨I + 1, cl, by omega, by rw [HT1.out], by go_num, HO.out, HCL2.out, HC21.out⟩
                          case measure => simp [intOf]; omega
                    · have hdd : decide (gl L I = gl L0 I) = false := decide_eq_false he
                      rw [hdd] at HEQ
                      have htt : (T0 : Int) + 1 = (T1 : Int) := by omega
                      clear he hdd hTT
                      go_wp2_with fail
                      go_quiet ((go_at_call 21; exact Calls.quiet_of (HEQ.out _ HNX.out.rn HNY.out.rn)))
                      go_wp2_with fail
                      have HO17 := hid (HO.out.drewN nq)
                      have HR17 := hid (HR16.out.keptNo ((Chg.refl No w16).drewN nq))
                      have HC17 := hid (HC16.out.drewN nq)
                      have HCX17 := hid (((Chg.refl No w16).drewN nq).cell HCX.out id)
                      have HCY17 := hid (((Chg.refl No w16).drewN nq).cell HCY2.out id)
                      have HNX17 := hid (HNX.out.drewN nq)
                      have HNY17 := hid (HNY.out.drewN nq)
                      clear hcx hcy HEQ
                      generalize w16.drewN nq = w17 at *
                      clear HO HC16 HR16 HY16 HNX HNY HCX HCY2
                      go_loopw [146] (fun z wr => ∃ (Q : Nat) (cl : Nat → Bool), Q ≤ n ∧ z = .int .i64 (Q : Int) ∧ Own wr 4 gC (bw cl nh) [] ∧ (∀ t, t < nh → (cl t = true ↔ (clean I L L0 t ∧ ∀ y, y < Q → y / 2 = t → gn (gl L I) y = gn (gl L0 I) y))) ∧ Chg (Only gC) w17 wr) (fun z _ => n - (intOf z).toNat)
                      case atStart => exact ⟨0, cl, by omega, rfl, HO17.out, fun t ht => ⟨fun h => ⟨(HCL.out t ht).1 h, fun y hy => by omega⟩, fun h => (HCL.out t ht).2 h.1⟩, Chg.refl _ _⟩
                      case round =>
                        clear HO17 HCL
                        obtain ⟨Q, cl, hQ, rfl, hO, hcl, hC18⟩ := hrel
                        obtain ⟨w18, rfl⟩ : ∃ w18 : World, w18 = wr := ⟨_, rfl⟩
                        have HO := hid hO
                        have HCL := hid hcl
                        have HC18 := hid hC18
                        clear hO hcl hC18
                        by_cases hQl : Q < n
                        · as_aux_lemma =>
                          have e1 := HC18.out.cell HCX17.out (fun e => HGC.out.1 e)
                          have e2 := HC18.out.cell HCY17.out (fun e => HGC.out.2.1 e)
                          have e3 := (HNX17.out.kept HC18.out (fun e => HBX.out e)).nat (i := Q) (by rw [HLX2.out]; exact hQl)
                          have e4 := (HNY17.out.kept HC18.out (fun e => HBY2.out e)).nat (i := Q) (by rw [HLY2.out]; exact hQl)
                          have q0 : (0 : Int) ≤ (Q : Int) := by omega
                          have q1 : (Q : Int) < (n : Int) := by omega
                          obtain ⟨a1, ha1⟩ : ∃ a1, gn (gl L I) Q = a1 := ⟨_, rfl⟩
                          obtain ⟨a2, ha2⟩ : ∃ a2, gn (gl L0 I) Q = a2 := ⟨_, rfl⟩
                          rw [ha1] at e3
                          rw [ha2] at e4
                          have HA1 := hid ha1
                          have HA2 := hid ha2
                          clear ha1 ha2
                          by_cases hab : a1 = a2
                          · have d1 : ((a1 : Int) != (a2 : Int)) = false := by rw [bne_eq_false_iff_eq, hab]
                            have HAB := hid hab
                            clear hab
                            go_wp2_with fail
                            go_quiet (fail)
                            go_wp2_with fail
                            have hcl2 : ∀ t, t < nh → (cl t = true ↔ (clean I L L0 t ∧ ∀ y, y < Q + 1 → y / 2 = t → gn (gl L I) y = gn (gl L0 I) y)) := fun t ht => by
                              rw [HCL.out t ht]
                              refine ⟨fun h => ⟨h.1, fun y hy hyt => ?_⟩, fun h => ⟨h.1, fun y hy hyt => h.2 y (by omega) hyt⟩⟩
                              by_cases e : y = Q
                              · rw [e, HA1.out, HA2.out, HAB.out]
                              · exact h.2 y (by omega) hyt
                            have HCL2 := hid hcl2
                            clear hcl2
                            go_roundw
                            case rel => exact ⟨Q + 1, cl, by omega, by go_num, HO.out.drewN _, HCL2.out, HC18.out.drewN _⟩
                            case measure => simp [intOf]; omega
                          · have d1 : ((a1 : Int) != (a2 : Int)) = true := by simp; omega
                            obtain ⟨qh, hqh, hqn⟩ := HDY.out Q hQl
                            have eq1 : (Q : Int) / 2 = (qh : Int) := by omega
                            have HAB := hid hab
                            have HQH := hid hqh
                            have HO19 := hid (fun nq => HO.out.drewN nq)
                            clear hab hqh
                            go_wp2_with fail
                            go_quiet (fail)
                            have ho := HO19.out nq
                            have c1 := ho.cell' (bw_get cl nh qh hqn)
                            have f1 := ho.frozen qh
                            have HO20 := hid ho
                            have HC20 := hid (HC18.out.drewN nq)
                            generalize cl qh = cb at c1
                            generalize w18.drewN nq = w20 at *
                            have hcl2 : ∀ t, t < nh → ((if t = qh then false else cl t) = true ↔ (clean I L L0 t ∧ ∀ y, y < Q + 1 → y / 2 = t → gn (gl L I) y = gn (gl L0 I) y)) := fun t ht => by
                              by_cases et : t = qh
                              · subst et
                                rw [if_pos rfl]
                                refine ⟨fun h => Bool.noConfusion h, fun h => ?_⟩
                                have := h.2 Q (by omega) HQH.out
                                rw [HA1.out, HA2.out] at this
                                exact absurd this HAB.out
                              · rw [if_neg et, HCL.out t ht]
                                refine ⟨fun h => ⟨h.1, fun y hy hyt => ?_⟩, fun h => ⟨h.1, fun y hy hyt => h.2 y (by omega) hyt⟩⟩
                                by_cases e : y = Q
                                · exfalso; have := HQH.out; omega
                                · exact h.2 y (by omega) hyt
                            have HCL2 := hid hcl2
                            have HST := hid (bw_set cl nh qh false hqn)
                            have HQN := hid hqn
                            clear hcl2 ho
                            go_wp2_with fail
                            go_roundw
                            case rel => exact ⟨Q + 1, _, by omega, by go_num, by rw [← HST.out]; exact HO20.out.set (by simpa using HQN.out) _, HCL2.out, HC20.out.setOnly _ _⟩
                            case measure => simp [intOf]; omega
                        · as_aux_lemma =>
                          have hQe : ¬ Q < n := hQl
                          have hcl2 : ∀ t, t < nh → (cl t = true ↔ clean (I + 1) L L0 t) := fun t ht => by
                            have hn := HNH.out
                            rw [HCL.out t ht]
                            refine ⟨fun h z hz => ?_, fun h => ⟨fun z hz => h z (by omega), fun y hy hyt => ?_⟩⟩
                            · by_cases e : z = I
                              · rw [e]; exact ⟨h.2 (2 * t) (by omega) (by omega), h.2 (2 * t + 1) (by omega) (by omega)⟩
                              · exact h.1 z (by omega)
                            · have h2 := h I (by omega)
                              have : y = 2 * t ∨ y = 2 * t + 1 := by omega
                              rcases this with rfl | rfl
                              · exact h2.1
                              · exact h2.2
                          have HCL2 := hid hcl2
                          have HC21 := hid (HC17.out.trans HC18.out)
                          clear hcl2
                          go_wp2_with fail
                          go_roundw
                          case rel => exact ⟨I + 1, cl, by omega, by rw [HT1.out], by go_num, HO.out, HCL2.out, HC21.out⟩
                          case measure => simp [intOf]; omega
                  · as_aux_lemma =>
                    have hIe : I = tt := by omega
                    have hIk : I = k + x := by rw [hIe, HTT.out]
                    have hC5w : Chg No w5 w16 := HC9.out.trans' (HCY.out.trans' HC16.out fun q _ e => .inr e) fun q _ e => by
                      rcases e with e | e
                      · have := HSO.out q e; omega
                      · have h1 := HGL.out.2.2.2
                        have h2 := HC9.out.size
                        omega
                    have HTL := hid (tells (L := L) (L0 := L0) HPRM.out HEVL.out HEV0.out HBYL.out HBY0.out HOK0.out)
                    have HCD16 := hid (HCD.out.keptNo hC5w)
                    have HC5W := hid hC5w
                    have hTe : cnt I (fun i => decide (gl L i ≠ gl L0 i)) = turned (k + x) L L0 := by rw [hIk]; rfl
                    have hcl2 : ∀ t, t < nh → (cl t = true ↔ clean (k + x) L L0 t) := fun t ht => by rw [← hIk]; exact HCL.out t ht
                    have HCL2 := hid hcl2
                    rw [hTe] at hTn ⊢
                    have hL16 : Lr w16 .u8 (some ⟨Gs, 0, none⟩) L := by rw [HLD.out]; exact HR16.out.lr
                    have HL16 := hid hL16
                    have hevt : Ev tt n L := by rw [HTT.out]; exact HEVL.out
                    have HEVT := hid hevt
                    have hCP := Copies_calls (some ⟨Gs, 0, none⟩) ct tt L w16 hL16 hevt.lt (by omega)
                    unfold CopyPost at hCP
                    have HCP := hid hCP
                    clear hCP hL16 hevt hIk hTe hcl2 hC5w HCL
                    generalize turned (k + x) L L0 = Tn at *
                    have HIE := hid hIe
                    clear hIe
                    go_wp2_with fail
                    refine HCP.out.mono ?_
                    rintro e w17 ⟨v17, zs, rfl, hR17, hx17, hC17⟩
                    have hzl17 : zs.length = tt := by
                      have := congrArg List.length hx17
                      rwa [List.length_map, HEVT.out.lt] at this
                    obtain ⟨G17, r17, rfl, hR17, _, hm17, _⟩ := hR17.some (by omega)
                    rw [hzl17] at hm17 ⊢
                    have hL17 := hR17.lr
                    rw [hx17] at hL17
                    have HL17 := hid hL17
                    have HC17 := hid hC17
                    obtain ⟨c17, hc17⟩ : ∃ c17, c17 = tt + r17.length := ⟨_, rfl⟩
                    rw [← hc17]
                    have hct17 : tt ≤ c17 := by omega
                    have hVF := Verify_calls f (parC f) Cf k x rr Wf Tf Kf n c17 tt (some ⟨G17, 0, none⟩) L w17 (HCD16.out.keptNo hC17) hL17 HTT.out HEVT.out HBYL.out hct17
                    obtain ⟨okv, hok⟩ : ∃ okv, decide (okSpan k x 0 n L) = okv := ⟨_, rfl⟩
                    rw [hok] at hVF
                    have HVF := hid hVF
                    have HOK := hid hok
                    have hcase : (((Tn : Int) == 0) = true ∧ decide (0 < Tn) = false ∧ decide (Tn ≤ x) = true ∧ okv = true) ∨ (((Tn : Int) == 0) = false ∧ decide (0 < Tn) = true ∧ decide (Tn ≤ x) = true ∧ okv = false) ∨
                        (((Tn : Int) == 0) = false ∧ decide (0 < Tn) = true ∧ decide (Tn ≤ x) = false ∧ okv = true) ∨ (((Tn : Int) == 0) = false ∧ decide (0 < Tn) = true ∧ decide (Tn ≤ x) = false ∧ okv = false) := by
                      by_cases h0 : Tn = 0
                      · refine .inl ⟨by rw [beq_iff_eq]; omega, by simp; omega, by simp; omega, ?_⟩
                        rw [← hok]; exact decide_eq_true (HTL.out.1 h0)
                      · by_cases h1 : Tn ≤ x
                        · refine .inr (.inl ⟨by rw [beq_eq_false_iff_ne]; omega, by simp; omega, by simp; omega, ?_⟩)
                          rw [← hok]; exact decide_eq_false (HTL.out.2.1 (by omega) h1)
                        · cases okv with
                          | true => exact .inr (.inr (.inl ⟨by rw [beq_eq_false_iff_ne]; omega, by simp; omega, by simp; omega, rfl⟩))
                          | false => exact .inr (.inr (.inr ⟨by rw [beq_eq_false_iff_ne]; omega, by simp; omega, by simp; omega, rfl⟩))
                    have HCASE := hid hcase
                    clear hcase hR17 hx17 hC17 hL17 hVF hok hzl17 HCP hm17 hc17
                    go_wp2_with fail
                    refine HVF.out.mono ?_
                    rintro e w18 ⟨rfl, hC18⟩
                    have HL18 := hid (HL17.out.keptNo hC18)
                    have HLS := hid ((HL16.out.keptNo HC17.out).keptNo hC18)
                    have HO18 := hid ((HO.out.keptNo HC17.out).keptNo hC18)
                    have HCV18 := hid (HC17.out.trans hC18)
                    have HC18 := hid ((HC5W.out.trans HC17.out).trans hC18)
                    have HALL := hid (fun w h1 h2 => all_calls (some ⟨G17, 0, none⟩) (some ⟨Gs, 0, none⟩) tt tt c17 ct L L w h1 h2 HEVT.out.lt HEVT.out.lt (by unfold maxLen; omega))
                    have hdl : decide (L = L) = true := by simp
                    rw [hdl] at HALL
                    clear hdl hC18 HVF HL17 HL16 HC17
                    obtain ⟨hcs1, hcs2, hcs3, hcs4⟩ | ⟨hcs1, hcs2, hcs3, hcs4⟩ | ⟨hcs1, hcs2, hcs3, hcs4⟩ | ⟨hcs1, hcs2, hcs3, hcs4⟩ := HCASE.out
                    all_goals as_aux_lemma =>
                      subst hcs4
                      clear HCASE HOK
                      go_wp2_with fail
                      refine (HALL.out _ HL18.out HLS.out).mono ?_
                      rintro e w19 ⟨rfl, hC19⟩
                      have HL19 := hid (HL18.out.keptNo hC19)
                      have HO19 := hid (HO18.out.keptNo hC19)
                      have HC19 := hid (HC18.out.trans hC19)
                      have HCVW := hid (HCV18.out.trans hC19)
                      clear hC19
                      go_wp2_with fail
                      have hTLT := fun t (ht : t < nh) => HTL.out.2.2 t (by have := HNH.out; omega)
                      have HTLT := hid hTLT
                      have hcsN : ∀ b : Bool, decide (Tn ≤ x) = b → decide (Tn ≤ x) = b := fun _ h => h
                      have HTX := hid hcs3
                      clear hTLT hcsN HTL
                      go_loopw [208] (fun z wr => ∃ t : Nat, t ≤ nh ∧ z = .int .i64 (t : Int) ∧ Chg No w19 wr) (fun z _ => nh - (intOf z).toNat)
                      case atStart => exact ⟨0, by omega, rfl, Chg.refl _ _⟩
                      case round =>
                        obtain ⟨t, ht, rfl, hC20⟩ := hrel
                        obtain ⟨w20, rfl⟩ : ∃ w20 : World, w20 = wr := ⟨_, rfl⟩
                        have HC20 := hid hC20
                        clear hC20
                        by_cases htl : t < nh
                        · as_aux_lemma =>
                          obtain ⟨a, ha⟩ : ∃ a, a = 2 * t := ⟨_, rfl⟩
                          obtain ⟨b, hb⟩ : ∃ b, b = a + 2 := ⟨_, rfl⟩
                          have hn := HNH.out
                          have hVS := VerifySpan_calls f (parC f) Cf k x rr Wf Tf Kf n c17 tt a b (some ⟨G17, 0, none⟩) L w20 (HCD16.out.keptNo (HCVW.out.trans HC20.out)) (HL19.out.keptNo HC20.out) HTT.out HEVT.out HBYL.out (by omega) ⟨by omega, by omega, by omega, by omega⟩ hct17
                          have hts := HTLT.out t htl
                          rw [← ha, ← hb] at hts
                          obtain ⟨ok2, hok2⟩ : ∃ ok2, decide (okSpan k x a b L) = ok2 := ⟨_, rfl⟩
                          rw [hok2] at hVS
                          have ea : 2 * (t : Int) = (a : Int) := by omega
                          have eb : (a : Int) + 2 = (b : Int) := by omega
                          have hin : (cl t = true ∧ ok2 = true) ∨ (cl t = false ∧ ok2 = false) ∨ (cl t = false ∧ ok2 = true ∧ ¬ Tn ≤ x) := by
                            cases hc : cl t with
                            | true => exact .inl ⟨rfl, by rw [← hok2]; exact decide_eq_true (hts.1 ((HCL2.out t htl).1 hc))⟩
                            | false =>
                              have hnc : ¬ clean (k + x) L L0 t := fun h => by
                                have := (HCL2.out t htl).2 h
                                rw [hc] at this; cases this
                              cases ok2 with
                              | false => exact .inr (.inl ⟨rfl, rfl⟩)
                              | true => exact .inr (.inr ⟨rfl, rfl, fun h => (hts.2 hnc h) (of_decide_eq_true hok2)⟩)
                          have HVS := hid hVS
                          have c1 := (HO19.out.keptNo HC20.out).cell' (bw_get cl nh t htl)
                          have HC1 := hid c1
                          unfold spanV at HVS
                          have HFC := hid (fun w (h : Chg No w20 w) => (HO19.out.keptNo (HC20.out.trans h)).cell' (bw_get cl nh t htl))
                          have t0 : (0 : Int) ≤ (t : Int) := by omega
                          have t1 : (t : Int) < (nh : Int) := by omega
                          have HIN := hid hin
                          clear hVS hok2 hts ha hb hn hin c1
                          go_wp2_with fail
                          refine HVS.out.mono ?_
                          rintro e w21 ⟨rfl, hC21⟩
                          have c1 := HFC.out w21 hC21
                          have HC21 := hid (HC20.out.trans hC21)
                          clear hC21 ea eb HC1 HFC HVS
                          rcases HIN.out with ⟨h1, h2⟩ | ⟨h1, h2⟩ | ⟨h1, h2, h3⟩
                          · subst h2
                            rw [h1] at c1
                            clear h1 HIN
                            go_wp2_with fail
                            go_roundw
                            case rel => exact ⟨t + 1, by omega, by go_num, HC21.out⟩
                            case measure => simp [intOf]; omega
                          · subst h2
                            rw [h1] at c1
                            clear h1 HIN
                            go_wp2_with fail
                            go_roundw
                            case rel => exact ⟨t + 1, by omega, by go_num, HC21.out⟩
                            case measure => simp [intOf]; omega
                          · first
                              | (exfalso; exact h3 (of_decide_eq_true HTX.out))
                              | (subst h2
                                 rw [h1] at c1
                                 clear h1 HIN h3
                                 go_wp2_with fail
                                 go_roundw
                                 case rel => exact ⟨t + 1, by omega, by go_num, HC21.out⟩
                                 case measure => simp [intOf]; omega)
                        · have hte : ¬ t < nh := htl
                          have HCE := hid ((HC5.out.trans HC19.out).trans HC20.out)
                          go_wp2_with fail
                          go_roundw
                          case rel => exact ⟨i + 1, by omega, by go_num, HCE.out⟩
                          case measure => simp [intOf]; omega
      · have hie : ¬ i < 2 := hil
        have HCE := hid (HC4.out.trans HC5.out)
        go_wp2_with fail
        refine (HCO.out _).mono ?_
        rintro e w6 ⟨G', C', W', T', K', rfl, _, _, hC6⟩
        have HC6 := hid (HCE.out.trans hC6)
        clear hC6
        go_wp2_with fail
        go_ret
        exact ⟨rfl, HC6.out⟩
end Go.Proofs.Ytpnmmedjamkmeaa
