/- Walks over rows of which some are empty: shape.lengths, Partial, cut. -/
import Derived.Test.YtpnmmedjamkmeaaGreatGivesG13
import Derived.Test.YtpnmmedjamkmeaaGreatGivesG6
import Derived.Test.YtpnmmedjamkmeaaGreatGivesG11
set_option linter.unusedSimpArgs false
set_option linter.unusedVariables false
set_option linter.unusedSimpArgs false
namespace Go.Proofs.YtpnmmedjamkmeaaGreat
open Go.RowKit

/-- Rows: t of them, each empty or of the length n. -/
structure Ho (t n : Nat) (ls : List (List Nat)) : Prop where
  lt : ls.length = t
  ln : ∀ i, i < t → (gl ls i).length = 0 ∨ (gl ls i).length = n
  even : n % 2 = 0
  small : n ≤ 4194304
  pos : 1 ≤ n
  tpos : 1 ≤ t
  tsmall : t ≤ 131072
/-- The empty rows among the first i. -/
def em (ls : List (List Nat)) (i : Nat) : List Nat := (List.range i).filter fun j => decide ((gl ls j).length = 0)
theorem em_succ (ls : List (List Nat)) (i : Nat) : em ls (i + 1) = if (gl ls i).length = 0 then em ls i ++ [i] else em ls i := by
  unfold em
  rw [List.range_succ, List.filter_append]
  by_cases h : (gl ls i).length = 0
  · have e : [i].filter (fun j => decide ((gl ls j).length = 0)) = [i] := by
      rw [List.filter_cons]; simp only [decide_eq_true_eq]; rw [if_pos h]; rfl
    rw [if_pos h, e]
  · have e : [i].filter (fun j => decide ((gl ls j).length = 0)) = [] := by
      rw [List.filter_cons]; simp only [decide_eq_true_eq]; rw [if_neg h]; rfl
    rw [if_neg h, e, List.append_nil]
theorem em_le (ls : List (List Nat)) (i : Nat) : (em ls i).length ≤ i := by
  have := List.length_filter_le (fun j => decide ((gl ls j).length = 0)) (List.range i)
  rwa [List.length_range] at this
theorem mem_em {ls : List (List Nat)} {i s : Nat} : s ∈ em ls i ↔ s < i ∧ (gl ls s).length = 0 := by
  unfold em
  rw [List.mem_filter, List.mem_range]
  simp
theorem ris_em (ls : List (List Nat)) (i : Nat) : Ris (em ls i) := by
  intro a b hab hb
  have h : (em ls i).Pairwise (· < ·) := List.Pairwise.filter _ (List.pairwise_lt_range (n := i))
  rw [List.pairwise_iff_getElem] at h
  have := h a b (by omega) hb hab
  rwa [gn_get _ _ (by omega), gn_get _ _ hb]
def LenPost (t n : Nat) (ls : List (List Nat)) (w : World) (e : Ending) (w' : World) : Prop :=
  ∃ v, e = .returned (.tuple #[.int .i64 ((if (em ls t).length = t then 0 else n : Nat) : Int), v, .bool true]) ∧ w'.ownsRow w.heap.size 3 1 v (em ls t).length (nv .i64 (em ls t)) ∧ Chg No w w'
set_option maxRecDepth 20000 in
set_option maxHeartbeats 1600000 in
theorem lengths_gen (p : Option Addr) (t n c : Nat) (ls : List (List Nat)) (w : World) (hl : Lr w .u8 p ls) (hd : Ho t n ls) :
    Calls Tryz.prog 104 #[.slice p t c] w (LenPost t n ls w) := by
  have HL := hid hl
  have HD := hid hd
  have ht := hd.tsmall
  have hn := hd.small
  have hn1 := hd.pos
  clear hl hd
  have d1 : ((n : Int) == 0) = false := by rw [beq_eq_false_iff_ne]; omega
  have d2 : ((n : Int) != (n : Int)) = false := by simp
  go_enter Tryz.func104, Tryz.ntmps104
  go_wp2_with fail
  go_loopw [2, 3, 4, 9] (fun len v ev i wr => ∃ j : Nat, j ≤ t ∧ i = .int .i64 (j : Int) ∧ len = .int .i64 ((if (em ls j).length = j then 0 else n : Nat) : Int) ∧ ev = .bool true ∧ wr.ownsRow w.heap.size 3 1 v (em ls j).length (nv .i64 (em ls j)) ∧ Chg No w wr) (fun _ _ _ i _ => t - (intOf i).toNat)
  case atStart => exact ⟨0, by omega, rfl, rfl, rfl, ⟨rfl, .inl ⟨rfl, rfl⟩⟩, Chg.refl _ _⟩
  case round =>
    obtain ⟨j, hj, rfl, rfl, rfl, hO, hC⟩ := hrel
    obtain ⟨w1, rfl⟩ : ∃ w1 : World, w1 = wr := ⟨_, rfl⟩
    have HO := hid hO
    have HC := hid hC
    clear hO hC
    have hle := em_le ls j
    by_cases hlt : j < t
    · obtain ⟨b, off, q, cc, rfl, hc1, _, _⟩ := (HL.out.keptNo HC.out) j (by rw [HD.out.lt]; exact hlt)
      have hlt2 : (j : Int) < (t : Int) := by omega
      have hes := em_succ ls j
      rcases HD.out.ln j hlt with h0 | h0
      · as_aux_lemma =>
        rw [if_pos h0] at hes
        rw [h0] at hc1
        have HES := hid hes
        have HSZ := hid HC.out.size
        obtain ⟨lv, hlv⟩ : ∃ lv : Nat, lv = (if (em ls j).length = j then 0 else n) := ⟨_, rfl⟩
        rw [← hlv]
        have HLV := hid hlv
        obtain ⟨ne, hne⟩ : ∃ ne, ne = (em ls j).length := ⟨_, rfl⟩
        have HNE := hid hne
        have HOJ : Hid (w1.ownsRow w.heap.size 3 1 u3 ne (nv .i64 (em ls j))) := hid (by rw [hne]; exact HO.out)
        have hne2 : ne ≤ j := by omega
        clear hlv hne hes h0 HO hle
        go_wp2_with (at_builtin; (with_reducible refine wpList_appG (ownsRow_kept HOJ.out ((Chg.refl No w1).alloc (.cells #[.int .i64 (j : Int)] 3)) (fun _ _ => id)) ⟨w1.heap.size, 0, none⟩ [.int .i64 (j : Int)] ?_ (.int .i64 0) 1 1 8 ?_ ?_ ?_ ?_ ?_ ?_ ?_ ?_ ?_ ?_ ?_); exact (Own.lit1 w1 3 _).addCell; exact ⟨rfl, rfl⟩; rfl; exact Nat.one_pos; exact Tryz.underlying23; kernel_rfl; rfl; (intro u hu; simp at hu; subst hu; rfl); (unfold maxLen; omega); omega; (have := HSZ.out; simp; omega); intro g1 r1 w3 hO3 hm3 hb3 hg3 hc3)
        have hC3 : Chg No w w3 := Chg.own1 (HC.out.alloc _) (ownsRow_kept HOJ.out ((Chg.refl No w1).alloc (.cells #[.int .i64 (j : Int)] 3)) (fun _ _ => id)) (Nat.le_refl _) hc3
        have hO4 : w3.ownsRow w.heap.size 3 1 (.slice (some ⟨g1, 0, none⟩) (ne + 1) (ne + 1 + r1.length)) (em ls (j + 1)).length (nv .i64 (em ls (j + 1))) := by
          rw [HES.out, show nv .i64 (em ls j ++ [j]) = nv .i64 (em ls j) ++ [.int .i64 (j : Int)] from by simp [nv], List.length_append, ← HNE.out]
          exact ownsRow_of_own hO3 hb3 (by simp [HNE.out]) rfl hm3
        have hlv2 : lv = (if (em ls (j + 1)).length = j + 1 then 0 else n) := by
          rw [HLV.out, HES.out, List.length_append]
          by_cases c : (em ls j).length = j
          · rw [if_pos c, if_pos (by simp [c])]
          · rw [if_neg c, if_neg (by simp; omega)]
        have HO4 := hid hO4
        have HC3 := hid hC3
        have HLV2 := hid hlv2
        clear hO3 hm3 hb3 hg3 hc3 hC3 hO4 hlv2
        go_wp2_with fail
        go_roundw
        case rel => exact ⟨j + 1, by omega, by go_num, by rw [← HLV2.out], rfl, HO4.out, HC3.out⟩
        case measure => simp [intOf]; omega
      · rw [if_neg (by omega)] at hes
        rw [h0] at hc1
        have HES := hid hes
        by_cases hall : (em ls j).length = j
        · as_aux_lemma =>
          have HN : Hid ((if (em ls (j + 1)).length = j + 1 then 0 else n : Nat) = n) := hid (if_neg (by rw [HES.out]; omega))
          have HO2 : Hid (w1.ownsRow w.heap.size 3 1 u3 (em ls (j + 1)).length (nv .i64 (em ls (j + 1)))) := hid (by rw [HES.out]; exact HO.out)
          rw [if_pos hall]
          rw [show ((0 : Nat) : Int) = 0 from rfl]
          clear hes h0 hall hle
          go_wp2_with fail
          go_roundw
          case rel => exact ⟨j + 1, by omega, by go_num, by rw [HN.out], rfl, HO2.out, HC.out⟩
          case measure => simp [intOf]; omega
        · as_aux_lemma =>
          have HN : Hid ((if (em ls (j + 1)).length = j + 1 then 0 else n : Nat) = n) := hid (if_neg (by rw [HES.out]; omega))
          have HO2 : Hid (w1.ownsRow w.heap.size 3 1 u3 (em ls (j + 1)).length (nv .i64 (em ls (j + 1)))) := hid (by rw [HES.out]; exact HO.out)
          rw [if_neg hall]
          clear hes h0 hall hle
          go_wp2_with fail
          go_roundw
          case rel => exact ⟨j + 1, by omega, by go_num, by rw [HN.out], rfl, HO2.out, HC.out⟩
          case measure => simp [intOf]; omega
    · as_aux_lemma =>
      obtain rfl : j = t := by omega
      have hlt2 : ¬ ((j : Int) < (j : Int)) := by omega
      obtain ⟨lv, hlv⟩ : ∃ lv : Nat, lv = (if (em ls j).length = j then 0 else n) := ⟨_, rfl⟩
      rw [← hlv]
      have HLV := hid hlv
      clear hle hlv
      go_wp2_with fail
      go_ret3
      exact ⟨_, by rw [← HLV.out]; rfl, HO.out, HC.out⟩
theorem Partial_ok (p : Option Addr) (k m n c t : Nat) (ls : List (List Nat)) (w : World) (hl : Lr w .u8 p ls) (ht : t = k + m) (hd : Ho t n ls) (hp : prm k (m : Int)) (hm : (em ls t).length ≤ m) :
    Calls Tryz.prog 67 #[.int .i64 2, .int .i64 (k : Int), .int .i64 (m : Int), .slice p t c] w fun e w' => ∃ v, e = .returned (.tuple #[.int .i64 (n : Int), v, .int .i64 0]) ∧ w'.ownsRow w.heap.size 3 1 v (em ls t).length (nv .i64 (em ls t)) ∧ Chg No w w' := by
  have H1 := hid (counted_yes k m t p c hp ht w)
  have hle : (em ls t).length ≠ t := by have := hp.1; omega
  have H2 := lengths_gen p t n c ls w hl hd
  unfold LenPost at H2
  rw [if_neg hle] at H2
  have H2 := hid H2
  have H3 := hid (fun w => odd_no n hd.even w)
  have hn1 := hd.pos
  obtain ⟨ne, hne⟩ : ∃ ne, ne = (em ls t).length := ⟨_, rfl⟩
  rw [← hne] at hm
  have HNE := hid hne
  have d1 : ((n : Int) == 0) = false := by rw [beq_eq_false_iff_ne]; omega
  clear hl hd hp ht hle hne
  go_enter Tryz.func67, Tryz.ntmps67
  go_wp2_with fail
  refine H1.out.mono ?_
  rintro e w1 ⟨rfl, rfl⟩
  go_wp2_with fail
  refine H2.out.mono ?_
  rintro e w2 ⟨v, rfl, hO, hC⟩
  have HO := hid hO
  have HC := hid hC
  clear hO hC
  go_wp2_with fail
  refine (H3.out _).mono ?_
  rintro e w3 ⟨rfl, rfl⟩
  have hO := HO.out
  rw [← HNE.out] at hO
  rcases own_of_ownsRow hO with ⟨rfl, rfl, _⟩ | ⟨g, cap, rest, rfl, _⟩
  · have d2 : decide ((m : Int) < 0) = false := by simp
    clear hO
    go_wp2_with fail
    go_ret3
    exact ⟨_, rfl, HO.out, HC.out⟩
  · have d2 : decide (m < ne) = false := by simp; omega
    have d3 : decide ((m : Int) < (ne : Int)) = false := by simp; omega
    clear hO
    go_wp2_with fail
    go_ret3
    exact ⟨_, rfl, HO.out, HC.out⟩
theorem Partial_few (p : Option Addr) (k m n c t : Nat) (ls : List (List Nat)) (w : World) (hl : Lr w .u8 p ls) (ht : t = k + m) (hd : Ho t n ls) (hp : prm k (m : Int)) (hm : m < (em ls t).length) (hlt : (em ls t).length < t) :
    Calls Tryz.prog 67 #[.int .i64 2, .int .i64 (k : Int), .int .i64 (m : Int), .slice p t c] w fun e w' => e = .returned (.tuple #[.int .i64 0, .slice none 0 0, .int .i64 9]) ∧ Chg No w w' := by
  have H1 := hid (counted_yes k m t p c hp ht w)
  have H2 := lengths_gen p t n c ls w hl hd
  unfold LenPost at H2
  rw [if_neg (by omega)] at H2
  have H2 := hid H2
  have H3 := hid (fun w => odd_no n hd.even w)
  have hn1 := hd.pos
  obtain ⟨ne, hne⟩ : ∃ ne, ne = (em ls t).length := ⟨_, rfl⟩
  rw [← hne] at hm
  have HNE := hid hne
  have d1 : ((n : Int) == 0) = false := by rw [beq_eq_false_iff_ne]; omega
  clear hl hd hp ht hlt hne
  go_enter Tryz.func67, Tryz.ntmps67
  go_wp2_with fail
  refine H1.out.mono ?_
  rintro e w1 ⟨rfl, rfl⟩
  go_wp2_with fail
  refine H2.out.mono ?_
  rintro e w2 ⟨v, rfl, hO, hC⟩
  have HC := hid hC
  have HO := hid hO
  clear hC hO
  go_wp2_with fail
  refine (H3.out _).mono ?_
  rintro e w3 ⟨rfl, rfl⟩
  have hO := HO.out
  rw [← HNE.out] at hO
  rcases own_of_ownsRow hO with ⟨_, h0, _⟩ | ⟨g, cap, rest, rfl, _⟩
  · omega
  · have d2 : decide (m < ne) = true := by simp; omega
    have d3 : decide ((m : Int) < (ne : Int)) = true := by simp; omega
    clear hO HO
    go_wp2_with fail
    go_ret3
    exact ⟨rfl, HC.out⟩
theorem Partial_none (p : Option Addr) (k m n c t : Nat) (ls : List (List Nat)) (w : World) (hl : Lr w .u8 p ls) (ht : t = k + m) (hd : Ho t n ls) (hp : prm k (m : Int)) (hm : (em ls t).length = t) :
    Calls Tryz.prog 67 #[.int .i64 2, .int .i64 (k : Int), .int .i64 (m : Int), .slice p t c] w fun e w' => e = .returned (.tuple #[.int .i64 0, .slice none 0 0, .int .i64 161]) ∧ Chg No w w' := by
  have H1 := hid (counted_yes k m t p c hp ht w)
  have H2 := lengths_gen p t n c ls w hl hd
  unfold LenPost at H2
  rw [if_pos hm] at H2
  have H2 := hid H2
  clear hl hd hp ht hm
  go_enter Tryz.func67, Tryz.ntmps67
  go_wp2_with fail
  refine H1.out.mono ?_
  rintro e w1 ⟨rfl, rfl⟩
  go_wp2_with fail
  refine H2.out.mono ?_
  rintro e w2 ⟨v, rfl, hO, hC⟩
  have HC := hid hC
  clear hO hC
  go_wp2_with fail
  go_ret3
  exact ⟨rfl, HC.out⟩
end Go.Proofs.YtpnmmedjamkmeaaGreat

/- Rows with holes: their pieces, the outer block's cells. -/
set_option linter.unusedSimpArgs false
set_option linter.unusedVariables false
set_option linter.unusedSimpArgs false
namespace Go.Proofs.YtpnmmedjamkmeaaGreat
open Go.RowKit

/-- A slice of slices in its own block, its pieces outside the blocks B. -/
structure Hr (w : World) (B : Nat → Prop) (G : Nat) (ls : List (List Nat)) (vs r0 : List Value) : Prop where
  out : Own w 35 G vs r0
  len : vs.length = ls.length
  bg : B G
  el : ∀ i, (h : i < vs.length) → ∃ q c, vs[i] = .slice q (gl ls i).length c ∧ Rn w .u8 q (gl ls i) ∧ (∀ x, q = some x → ¬ B x.block) ∧ (gl ls i).length ≤ 140737488355328 ∧ (gl ls i).length ≤ c
theorem Hr.lr {w : World} {B : Nat → Prop} {G : Nat} {ls : List (List Nat)} {vs r0 : List Value} (h : Hr w B G ls vs r0) : Lr w .u8 (some ⟨G, 0, none⟩) ls := by
  intro i hi
  obtain ⟨q, c, h1, h2, _, h3, h4⟩ := h.el i (by rw [h.len]; exact hi)
  exact ⟨G, 0, q, c, rfl, by rw [Nat.zero_add, h.out.cell (by rw [h.len]; exact hi), h1], h2, h3, h4⟩
/-- What lies in other blocks of B may change. -/
theorem Hr.kept {w w' : World} {B : Nat → Prop} {G : Nat} {ls : List (List Nat)} {vs r0 : List Value} {S : Nat → Prop} (h : Hr w B G ls vs r0) (hc : Chg S w w') (hG : ¬ S G) (hS : ∀ b, S b → B b) : Hr w' B G ls vs r0 :=
  ⟨h.out.kept hc hG, h.len, h.bg, fun i hi => by
    obtain ⟨q, c, h1, h2, h5, h3, h4⟩ := h.el i hi
    exact ⟨q, c, h1, h2.kept hc (fun a ha hs => h5 a ha (hS _ hs)), h5, h3, h4⟩⟩
theorem Hr.keptNo {w w' : World} {B : Nat → Prop} {G : Nat} {ls : List (List Nat)} {vs r0 : List Value} (h : Hr w B G ls vs r0) (hc : Chg No w w') : Hr w' B G ls vs r0 := h.kept hc id fun _ h => h.elim
theorem gl_setH (ls : List (List Nat)) (i j : Nat) (l : List Nat) (h : i < ls.length) : gl (ls.set i l) j = if j = i then l else gl ls j := by
  simp only [gl, List.getD_eq_getElem?_getD, List.getElem?_set]
  by_cases e : j = i
  · subst e; simp [h]
  · rw [if_neg (fun h => e h.symm), if_neg e]
theorem Rn.setOther {w : World} {k : IntKind} {q : Option Addr} {l : List Nat} {a : Addr} (h : Rn w k q l) (hne : ∀ x, q = some x → x.block ≠ a.block) (v : Value) : Rn (w.setCell a v) k q l :=
  h.kept (S := Only a.block) ((Chg.refl (Only a.block) w).setCell (p := a) (.inl rfl) v) (fun x hx e => hne x hx e)
theorem Hr.set {w : World} {B : Nat → Prop} {G : Nat} {ls : List (List Nat)} {vs r0 : List Value} (h : Hr w B G ls vs r0) {i : Nat} (hi : i < vs.length) {q : Option Addr} {l : List Nat} {c : Nat} (hr : Rn w .u8 q l) (hq : ∀ x, q = some x → ¬ B x.block)
    (hl : l.length ≤ 140737488355328) (hc : l.length ≤ c) : Hr (w.setCell ⟨G, i, none⟩ (.slice q l.length c)) B G (ls.set i l) (vs.set i (.slice q l.length c)) r0 := by
  refine ⟨h.out.set hi _, by simp [h.len], h.bg, fun j hj => ?_⟩
  have hj2 : j < vs.length := by simpa using hj
  by_cases e : j = i
  · subst e
    refine ⟨q, c, by rw [List.getElem_set_self, gl_setH _ _ _ _ (by rw [← h.len]; exact hi), if_pos rfl], ?_, hq, ?_, ?_⟩ <;> rw [gl_setH _ _ _ _ (by rw [← h.len]; exact hi), if_pos rfl]
    · exact hr.setOther (fun x hx e => hq x hx (by rw [e]; exact h.bg)) _
    · exact hl
    · exact hc
  · obtain ⟨q', c', h1, h2, h3, h4, h5⟩ := h.el j hj2
    refine ⟨q', c', by rw [List.getElem_set_ne (fun e2 => e e2.symm), gl_setH _ _ _ _ (by rw [← h.len]; exact hi), if_neg e, h1], ?_, h3, ?_, ?_⟩ <;> rw [gl_setH _ _ _ _ (by rw [← h.len]; exact hi), if_neg e]
    · exact h2.setOther (fun x hx e => h3 x hx (by rw [e]; exact h.bg)) _
    · exact h4
    · exact h5
/-- One piece of a whole row. -/
def CutH (w : World) (l : List Nat) (v : Value) : Prop := ∃ q cc, v = .slice q l.length cc ∧ l.length ≤ cc ∧ Rn w .u8 q l ∧ l.length ≤ 140737488355328
set_option maxRecDepth 20000 in
set_option maxHeartbeats 1600000 in
theorem cut_holes (p : Option Addr) (t n c : Nat) (ls : List (List Nat)) (w : World) (hl : Lr w .u8 p ls) (hd : Ho t n ls) :
    Calls Tryz.prog 69 #[.slice p t c, .agg #[.int .i64 0, .int .i64 (n : Int)]] w fun e w' => ∃ G, e = .returned (.slice (some ⟨G, 0, none⟩) t t) ∧ Lr w' .u8 (some ⟨G, 0, none⟩) ls ∧ w.heap.size ≤ G ∧ Chg No w w' := by
  have HL := hid hl
  have HD := hid hd
  have ht := hd.tsmall
  have hn := hd.small
  have hn1 := hd.pos
  clear hl hd
  have d1 : decide (n ≤ n) = true := by simp
  have d2 : decide ((n : Int) ≤ (n : Int)) = true := by simp
  have d3 : decide (n ≤ 0) = false := by simp; omega
  have d4 : decide ((n : Int) ≤ 0) = false := by simp; omega
  go_enter Tryz.func69, Tryz.ntmps69
  go_wp2_with (at_make; go_must ((with_reducible refine wpList_mk1 35 (.slice none 0 0) 24 t t ?_ ?_ ?_ ?_ ?_ ?_ ?_ ?_); exact ⟨rfl, rfl⟩; exact Tryz.underlying22; kernel_rfl; rfl; omega; omega; (unfold maxLen; omega); intro W1 hO1 hC1 hs1))
  have hO2 : Own W1 35 (w.heap.size + 1) [] (List.replicate t (.slice none 0 0)) := by
    have e : (w.alloc (.cells #[.int .i64 0, .int .i64 (n : Int)] 51)).heap.size = w.heap.size + 1 := by simp
    rw [e] at hO1
    simpa [Own] using hO1
  have hS : Own W1 51 w.heap.size [.int .i64 0, .int .i64 (n : Int)] [] :=
    (show Own (w.alloc (.cells #[.int .i64 0, .int .i64 (n : Int)] 51)) 51 w.heap.size [.int .i64 0, .int .i64 (n : Int)] [] from heap_alloc_new w _).keptNo hC1
  have hC2 : Chg No w W1 := ((Chg.refl No w).alloc _).trans hC1
  have HS := hid hS
  have HC2 := hid hC2
  clear hO1 hC1 hs1 hS hC2
  go_loopw [13] (fun i wr => ∃ (j : Nat) (vs : List Value), j ≤ t ∧ i = .int .i64 (j : Int) ∧ vs.length = j ∧ Own wr 35 (w.heap.size + 1) vs (List.replicate (t - j) (.slice none 0 0)) ∧ (∀ x, (hx : x < vs.length) → CutH w (gl ls x) vs[x]) ∧ Chg (Only (w.heap.size + 1)) W1 wr) (fun i _ => t - (intOf i).toNat)
  case atStart => exact ⟨0, [], by omega, rfl, rfl, hO2, fun x hx => absurd hx (by simp), Chg.refl _ _⟩
  case round =>
    obtain ⟨j, vs, hj, rfl, hvl, hO, hE, hC⟩ := hrel
    clear hO2
    obtain ⟨w2, rfl⟩ : ∃ w2 : World, w2 = wr := ⟨_, rfl⟩
    have HO := hid hO
    have HE := hid hE
    have HC := hid hC
    have HVL := hid hvl
    clear hO hE hC hvl
    by_cases hlt : j < t
    · obtain ⟨b1, o1, q1, cc, rfl, hc1, hr1, hmx, hcc⟩ := HL.out j (by rw [HD.out.lt]; exact hlt)
      have hc2 := HC.out.cell (HC2.out.cell hc1 id) (by
        have := World.block_lt_of_cell? w _ hc1
        simp only [Only] at *; omega)
      have hS2 := HS.out.kept HC.out (by simp [Only])
      have s0 : w2.cell? ⟨w.heap.size, 0, none⟩ = some (.int .i64 0) := hS2.cell (i := 0) (by simp)
      have s1 : w2.cell? ⟨w.heap.size, 1, none⟩ = some (.int .i64 (n : Int)) := hS2.cell (i := 1) (by simp)
      have hOj : Own w2 35 (w.heap.size + 1) vs (.slice none 0 0 :: List.replicate (t - (j + 1)) (.slice none 0 0)) := by
        have := HO.out
        rwa [show t - j = t - (j + 1) + 1 from by omega, List.replicate_succ] at this
      have hgc := hOj.restCell
      rw [HVL.out] at hgc
      have hgf := hOj.frozen j
      have HOJ := hid hOj
      clear hOj hS2
      rcases HD.out.ln j hlt with h0 | h0
      · -- an empty row: its piece stays nil
        have hEn : ∀ x, (hx : x < (vs ++ [Value.slice none 0 0]).length) → CutH w (gl ls x) (vs ++ [Value.slice none 0 0])[x] := by
          intro x hx
          by_cases hxj : x < vs.length
          · rw [List.getElem_append_left hxj]; exact HE.out x hxj
          · have hxe : x = j := by
              have := HVL.out
              simp at hx; omega
            subst hxe
            rw [List.getElem_append_right (by omega)]
            simp only [List.getElem_singleton]
            refine ⟨none, 0, by rw [h0], by omega, fun y hy => ?_, by omega⟩
            omega
        have hset : Own w2 35 (w.heap.size + 1) (vs ++ [.slice none 0 0]) (List.replicate (t - (j + 1)) (.slice none 0 0)) := by
          have := HOJ.out
          unfold Own at this ⊢
          rw [this]; simp
        have HSET := hid hset
        have HEN := hid hEn
        rw [h0] at hc2
        clear hset hEn hgc hgf hc1 hr1 h0 hmx hcc
        go_wp2_with fail
        go_roundw
        case rel => exact ⟨j + 1, _, by omega, by go_num, by rw [List.length_append, HVL.out]; rfl, HSET.out, HEN.out, HC.out⟩
        case measure => simp [intOf]; omega
      · have H0 := hid h0
        rw [h0] at hc2 hcc
        obtain ⟨qb, qo, rfl, hqc⟩ := hr1.at0 (by rw [h0]; omega)
        have HR1 := hid hr1
        have HMX := hid hmx
        have HCC := hid hcc
        have i3 : (n : Int) ≤ (cc : Int) := by omega
        have i2 : (0 : Int) ≤ (n : Int) := by omega
        clear hc1 hr1 hqc h0 hmx
        go_wp2_with fail
        have hset := HOJ.out.setRest (.slice (some ⟨qb, qo, none⟩) n cc)
        rw [HVL.out] at hset
        have hEn : ∀ x, (hx : x < (vs ++ [Value.slice (some ⟨qb, qo, none⟩) n cc]).length) → CutH w (gl ls x) (vs ++ [Value.slice (some ⟨qb, qo, none⟩) n cc])[x] := by
          intro x hx
          by_cases hxj : x < vs.length
          · rw [List.getElem_append_left hxj]; exact HE.out x hxj
          · have hxe : x = j := by
              have := HVL.out
              simp at hx; omega
            subst hxe
            rw [List.getElem_append_right (by omega)]
            simp only [List.getElem_singleton]
            exact ⟨_, _, by rw [H0.out], by rw [H0.out]; exact HCC.out, HR1.out, HMX.out⟩
        have HSET := hid hset
        have HEN := hid hEn
        clear hset hEn hgc hgf s0 s1 hc2
        go_roundw
        case rel => exact ⟨j + 1, _, by omega, by go_num, by rw [List.length_append, HVL.out]; rfl, HSET.out, HEN.out, HC.out.setCell (p := ⟨w.heap.size + 1, j, none⟩) (.inl rfl) _⟩
        case measure => simp [intOf]; omega
    · obtain rfl : j = t := by omega
      have hLr : Lr w2 .u8 (some ⟨w.heap.size + 1, 0, none⟩) ls := by
        intro i hi
        have hi2 : i < j := by rw [HD.out.lt] at hi; exact hi
        obtain ⟨q, cc, hv, hcc, hrn, hmx⟩ := HE.out i (by rw [HVL.out]; exact hi2)
        refine ⟨w.heap.size + 1, 0, q, cc, rfl, ?_, ?_, hmx, hcc⟩
        · rw [Nat.zero_add, ← hv]
          exact HO.out.cell (by rw [HVL.out]; exact hi2)
        · by_cases h0 : (gl ls i).length = 0
          · intro y hy; omega
          · refine (hrn.keptNo HC2.out).kept HC.out ?_
            intro ad had hS
            obtain ⟨b3, o3, e3, hc3⟩ := hrn 0 (by omega)
            rw [had] at e3
            obtain rfl : ad = ⟨b3, o3, none⟩ := by simpa using e3
            have := World.block_lt_of_cell? w _ hc3
            simp only [Only] at *; omega
      have HLR := hid hLr
      have HCC : Hid (Chg No w w2) := hid (HC2.out.trans' HC.out fun i hi e => by simp only [Only] at e; omega)
      clear hLr
      go_wp2_with fail
      go_ret
      exact ⟨_, rfl, HLR.out, by omega, HCC.out⟩
end Go.Proofs.YtpnmmedjamkmeaaGreat
