/- Walks of afft: forward, inverse, refuses; rows of words as a function. -/
import Derived.Test.YtpnmmedjamkmeaaGreatGivesG9
set_option linter.unusedSimpArgs false
set_option linter.unusedVariables false
set_option linter.unusedSimpArgs false
namespace Go.Proofs.YtpnmmedjamkmeaaGreat
open Go.RowKit

def Two (a b : Nat) : Nat → Prop := fun k => k = a ∨ k = b
/-- What a step on two rows leaves. -/
def TwoPost (g1 g2 n : Nat) (f1 f2 : Nat → GF) (r1 r2 : List Value) (w : World) (e : Ending) (w' : World) : Prop :=
  e = .returned (.tuple #[]) ∧ Own w' 88 g1 (nv .u16 (rowL n f1)) r1 ∧ Own w' 88 g2 (nv .u16 (rowL n f2)) r2 ∧ Chg (Two g1 g2) w w'
theorem addTo_one (fd fs : Nat → GF) (n : Nat) : rowL n (addTo 1 fd fs n) = rowL n (fun t => fd t + fs t) := by
  rw [addTo_full]; exact rowL_congr fun t _ => by rw [GF.one_mul]
theorem addTo_set1 (fd fs : Nat → GF) (n k : Nat) (h : k < n) : (rowL n (addTo 1 fd fs k)).set k ((fd k).v ^^^ (fs k).v) = rowL n (addTo 1 fd fs (k + 1)) := by
  have := addTo_set 1 fd fs n k h
  rw [GF.one_mul, GF.v_add] at this
  exact this

set_option maxRecDepth 20000 in
set_option maxHeartbeats 1600000 in
theorem forward_calls (c g1 g2 n cap1 cap2 : Nat) (f1 f2 : Nat → GF) (r1 r2 : List Value) (w : World) (hc : c < 65536) (hn : n ≤ 140737488355328) (hg : g1 ≠ g2)
    (h1 : Own w 88 g1 (nv .u16 (rowL n f1)) r1) (h2 : Own w 88 g2 (nv .u16 (rowL n f2)) r2) :
    Calls Tryz.prog 130 #[.int .u16 (c : Int), .slice (some ⟨g1, 0, none⟩) n cap1, .slice (some ⟨g2, 0, none⟩) n cap2] w
      (TwoPost g1 g2 n (fun t => f1 t + gf c * f2 t) (fun t => f2 t + (f1 t + gf c * f2 t)) r1 r2 w) := by
  have HA := hid (addTimes_calls c g1 n cap1 cap2 (some ⟨g2, 0, none⟩) f1 f2 r1 w hc ⟨hn, h1, h2.rn, fun a ha e => by
    obtain rfl : a = ⟨g2, 0, none⟩ := by simpa using ha.symm
    exact hg e.symm⟩)
  have H2 := hid h2
  clear h1 h2
  unfold AddPost at HA
  unfold TwoPost
  obtain ⟨f, hf⟩ : ∃ f : Nat → GF, f = fun t => f1 t + gf c * f2 t := ⟨_, rfl⟩
  have HF2 : Hid ((fun t => f2 t + (f1 t + gf c * f2 t)) = fun t => f2 t + f t) := hid (by rw [hf])
  rw [HF2.out]
  rw [← hf] at HA ⊢
  clear hf HF2
  go_enter Tryz.func130, Tryz.ntmps130
  go_wp2_with fail
  refine HA.out.mono ?_
  rintro e w1 ⟨rfl, hO1, hC1⟩
  have HO1 := hid hO1
  have HC1 := hid hC1
  clear hO1 hC1
  go_wp2_with fail
  go_loopw [14] (fun i wr => ∃ k : Nat, k ≤ n ∧ i = .int .i64 (k : Int) ∧ Own wr 88 g2 (nv .u16 (rowL n (addTo 1 f2 f k))) r2 ∧ Chg (Only g2) w1 wr) (fun i _ => n - (intOf i).toNat)
  case atStart => exact ⟨0, by omega, rfl, by rw [addTo_zero]; exact H2.out.kept HC1.out (fun e => hg e.symm), Chg.refl _ _⟩
  case round =>
    obtain ⟨k, hk, rfl, hO, hC⟩ := hrel
    obtain ⟨w2, rfl⟩ : ∃ w2 : World, w2 = wr := ⟨_, rfl⟩
    by_cases hlt : k < n
    · have c1 := (HO1.out.kept hC hg).nat (i := k) (by simpa using hlt)
      rw [gn_rowL _ _ _ hlt] at c1
      have c2 := hO.nat (i := k) (by simpa using hlt)
      have hv : (addTo 1 f2 f k k) = f2 k := if_neg (by omega)
      rw [gn_rowL _ _ _ hlt, hv] at c2
      have fr := hO.frozen k
      have HN := hid (addTo_set1 f2 f n k hlt)
      have hx := (f k).v_lt
      have hy := (f2 k).v_lt
      have HO := hid hO
      have HC := hid hC
      clear hO hC hv
      generalize (f k).v = x at *
      generalize (f2 k).v = y at *
      have hxor := Go.u16_xor_nat y x hy hx
      go_wp2_with fail
      go_roundw
      case rel => exact ⟨k + 1, by omega, by go_num, by rw [← HN.out]; exact HO.out.setNat (by simpa using hlt) _, HC.out.setOnly _ _⟩
      case measure => simp [intOf]; omega
    · obtain rfl : k = n := by omega
      rw [addTo_one] at hO
      go_wp2_with fail
      go_end0
      exact ⟨rfl, HO1.out.kept hC hg, hO, (HC1.out.mono fun i _ h => .inl h).trans' hC fun i _ h => .inr h⟩

set_option maxRecDepth 20000 in
set_option maxHeartbeats 1600000 in
theorem inverse_calls (c g1 g2 n cap1 cap2 : Nat) (f1 f2 : Nat → GF) (r1 r2 : List Value) (w : World) (hc : c < 65536) (hn : n ≤ 140737488355328) (hg : g1 ≠ g2)
    (h1 : Own w 88 g1 (nv .u16 (rowL n f1)) r1) (h2 : Own w 88 g2 (nv .u16 (rowL n f2)) r2) :
    Calls Tryz.prog 128 #[.int .u16 (c : Int), .slice (some ⟨g1, 0, none⟩) n cap1, .slice (some ⟨g2, 0, none⟩) n cap2] w
      (TwoPost g1 g2 n (fun t => f1 t + gf c * (f2 t + f1 t)) (fun t => f2 t + f1 t) r1 r2 w) := by
  have H1 := hid h1
  have H2 := hid h2
  have HA := hid (fun w h1 h2 => addTimes_calls c g1 n cap1 cap2 (some ⟨g2, 0, none⟩) f1 (fun t => f2 t + f1 t) r1 w hc ⟨hn, h1, Own.rn (e := 88) (rest := r2) h2, fun a ha e => by
    obtain rfl : a = ⟨g2, 0, none⟩ := by simpa using ha.symm
    exact hg e.symm⟩)
  clear h1 h2
  unfold AddPost at HA
  unfold TwoPost
  go_enter Tryz.func128, Tryz.ntmps128
  go_wp2_with fail
  go_loopw [10] (fun i wr => ∃ k : Nat, k ≤ n ∧ i = .int .i64 (k : Int) ∧ Own wr 88 g2 (nv .u16 (rowL n (addTo 1 f2 f1 k))) r2 ∧ Chg (Only g2) w wr) (fun i _ => n - (intOf i).toNat)
  case atStart => exact ⟨0, by omega, rfl, by rw [addTo_zero]; exact H2.out, Chg.refl _ _⟩
  case round =>
    obtain ⟨k, hk, rfl, hO, hC⟩ := hrel
    obtain ⟨w2, rfl⟩ : ∃ w2 : World, w2 = wr := ⟨_, rfl⟩
    by_cases hlt : k < n
    · have c1 := (H1.out.kept hC hg).nat (i := k) (by simpa using hlt)
      rw [gn_rowL _ _ _ hlt] at c1
      have c2 := hO.nat (i := k) (by simpa using hlt)
      have hv : (addTo 1 f2 f1 k k) = f2 k := if_neg (by omega)
      rw [gn_rowL _ _ _ hlt, hv] at c2
      have fr := hO.frozen k
      have HN := hid (addTo_set1 f2 f1 n k hlt)
      have hx := (f1 k).v_lt
      have hy := (f2 k).v_lt
      have HO := hid hO
      have HC := hid hC
      clear hO hC hv
      generalize (f1 k).v = x at *
      generalize (f2 k).v = y at *
      have hxor := Go.u16_xor_nat y x hy hx
      go_wp2_with fail
      go_roundw
      case rel => exact ⟨k + 1, by omega, by go_num, by rw [← HN.out]; exact HO.out.setNat (by simpa using hlt) _, HC.out.setOnly _ _⟩
      case measure => simp [intOf]; omega
    · obtain rfl : k = n := by omega
      rw [addTo_one] at hO
      have HO := hid hO
      have HC := hid hC
      have h1k := H1.out.kept hC hg
      have H1K := hid h1k
      clear hO hC h1k
      go_wp2_with fail
      refine (HA.out _ H1K.out HO.out).mono ?_
      rintro e w3 ⟨rfl, hO3, hC3⟩
      have HO3 := hid hO3
      have HC3 := hid hC3
      clear hO3 hC3
      go_wp2_with fail
      go_end0
      exact ⟨rfl, HO3.out, HO.out.kept HC3.out (fun e => hg e.symm), (HC.out.mono fun i _ h => .inr h).trans' HC3.out fun i _ h => .inl h⟩

theorem refuses16_calls (p : Option Addr) (t n c cp s : Nat) (ls : List (List Nat)) (w : World) (hl : Lr w .u16 p ls) (hn : ls.length = n) (ht : n = 2 ^ t) (h16 : t ≤ 16) (hc : ∀ i, i < n → (gl ls i).length = c) (h2 : s + n ≤ 65536) (h3 : s % n = 0) :
    Calls Tryz.prog 126 #[.slice p n cp, .int .i64 (s : Int)] w fun e w' => e = .returned (.int .i64 0) ∧ w' = w := by
  have h1 : 1 ≤ n := by rw [ht]; exact Nat.one_le_two_pow
  have HP := hid (power_calls t n ht h16 w)
  have HB := hid (begins_calls s n h1 h2 h3 w)
  have HL := hid hl
  have HN := hid hn
  have HC := hid hc
  obtain ⟨b0, o0, q0, cc0, rfl, hd0, _, _⟩ := hl 0 (by omega)
  rw [hc 0 (by omega), Nat.add_zero] at hd0
  clear hl hn hc ht h3
  go_enter Tryz.func126, Tryz.ntmps126
  go_wp2_with fail
  refine HP.out.mono ?_
  rintro e w1 ⟨rfl, rfl⟩
  go_wp2_with fail
  go_loopw [15] (fun i wr => ∃ k : Nat, k ≤ n ∧ i = .int .i64 (k : Int) ∧ wr = w1) (fun i _ => n - (intOf i).toNat)
  case atStart => exact ⟨0, by omega, rfl, rfl⟩
  case round =>
    obtain ⟨k, hk, rfl, rfl⟩ := hrel
    by_cases hlt : k < n
    · obtain ⟨b1, o1, q1, cc1, he, hd1, _, _⟩ := HL.out k (by rw [HN.out]; exact hlt)
      obtain ⟨rfl, rfl⟩ : b0 = b1 ∧ o0 = o1 := by simpa using he
      rw [HC.out k hlt] at hd1
      have d1 : ((c : Int) != (c : Int)) = false := by simp
      clear he
      go_wp2_with fail
      go_roundw
      case rel => exact ⟨k + 1, by omega, by go_num, by first | rfl | trivial⟩
      case measure => simp [intOf]; omega
    · obtain rfl : k = n := by omega
      go_wp2_with fail
      refine HB.out.mono ?_
      rintro e w1 ⟨rfl, rfl⟩
      go_wp2_with fail
      go_ret
      exact ⟨rfl, rfl⟩
end Go.Proofs.YtpnmmedjamkmeaaGreat

/- Rows of words as a function; the stages while they go on. -/
set_option linter.unusedSimpArgs false
set_option linter.unusedVariables false
set_option linter.unusedSimpArgs false
namespace Go.Proofs.YtpnmmedjamkmeaaGreat
open Go.RowKit

/-- Rows: their blocks, the room behind them, their words. -/
def rowsF (bs : Nat → Nat) (rs : Nat → List Value) (n c : Nat) (F : Nat → Nat → GF) : List Pc := (List.range n).map fun i => ⟨bs i, rowL c (fun t => F t i), rs i⟩
@[simp] theorem rowsF_length (bs : Nat → Nat) (rs : Nat → List Value) (n c : Nat) (F : Nat → Nat → GF) : (rowsF bs rs n c F).length = n := by simp [rowsF]
theorem rowsF_get (bs : Nat → Nat) (rs : Nat → List Value) (n c : Nat) (F : Nat → Nat → GF) (i : Nat) (h : i < n) : (rowsF bs rs n c F)[i]'(by simpa using h) = ⟨bs i, rowL c (fun t => F t i), rs i⟩ := by simp [rowsF]
/-- A slice of rows of words. -/
def Mx (w : World) (G n c : Nat) (bs : Nat → Nat) (rs : Nat → List Value) (F : Nat → Nat → GF) (r0 : List Value) : Prop := Rws w 58 88 .u16 G (rowsF bs rs n c F) r0
section
variable {w w' : World} {G n c : Nat} {bs : Nat → Nat} {rs : Nat → List Value} {F F' : Nat → Nat → GF} {r0 : List Value} {S : Nat → Prop}
theorem Mx.congr (h : Mx w G n c bs rs F r0) (e : ∀ t i, t < c → i < n → F t i = F' t i) : Mx w G n c bs rs F' r0 := by
  have : rowsF bs rs n c F = rowsF bs rs n c F' := by
    apply List.map_congr_left
    intro i hi
    rw [rowL_congr fun t ht => e t i ht (List.mem_range.1 hi)]
  unfold Mx at h ⊢
  rwa [← this]
theorem Mx.row (h : Mx w G n c bs rs F r0) {i : Nat} (hi : i < n) : Own w 88 (bs i) (nv .u16 (rowL c (fun t => F t i))) (rs i) := by
  have := Rws.inn h _ (List.getElem_mem (show i < (rowsF bs rs n c F).length by simpa using hi))
  rwa [rowsF_get _ _ _ _ _ _ hi] at this
theorem Mx.cell (h : Mx w G n c bs rs F r0) {i : Nat} (hi : i < n) : w.cell? ⟨G, i, none⟩ = some (.slice (some ⟨bs i, 0, none⟩) c (c + (rs i).length)) := by
  have := Rws.cell h (show i < (rowsF bs rs n c F).length by simpa using hi)
  rw [rowsF_get _ _ _ _ _ _ hi] at this
  rw [this]; simp [Pc.v]
theorem Mx.ne (h : Mx w G n c bs rs F r0) {i j : Nat} (hi : i < n) (hj : j < n) (e : i ≠ j) : bs i ≠ bs j := by
  have := Rws.other h (i := i) (j := j) (by simpa using hi) (by simpa using hj) e
  rwa [rowsF_get _ _ _ _ _ _ hi, rowsF_get _ _ _ _ _ _ hj] at this
theorem Mx.neG (h : Mx w G n c bs rs F r0) {i : Nat} (hi : i < n) : bs i ≠ G := by
  have := Rws.ne h _ (List.getElem_mem (show i < (rowsF bs rs n c F).length by simpa using hi))
  rwa [rowsF_get _ _ _ _ _ _ hi] at this
theorem Mx.lt (h : Mx w G n c bs rs F r0) {i : Nat} (hi : i < n) : bs i < w.heap.size := (h.row hi).lt
theorem Mx.len (h : Mx w G n c bs rs F r0) (h0 : 0 < n) : c ≤ 140737488355328 := by
  have := Rws.len h _ (List.getElem_mem (show 0 < (rowsF bs rs n c F).length by simpa using h0))
  rw [rowsF_get _ _ _ _ _ _ h0] at this
  simpa using this
theorem Mx.lr (h : Mx w G n c bs rs F r0) : Lr w .u16 (some ⟨G, 0, none⟩) ((rowsF bs rs n c F).map Pc.d) := Rws.lr h
theorem rowsF_mem {x : Pc} (hx : x ∈ rowsF bs rs n c F) : ∃ i, i < n ∧ x = ⟨bs i, rowL c (fun t => F t i), rs i⟩ := by
  unfold rowsF at hx
  obtain ⟨i, hi, rfl⟩ := List.mem_map.1 hx
  exact ⟨i, List.mem_range.1 hi, rfl⟩
theorem Mx.kept (h : Mx w G n c bs rs F r0) (hc : Chg S w w') (hG : ¬ S G) (hb : ∀ i, i < n → ¬ S (bs i)) : Mx w' G n c bs rs F r0 :=
  Rws.kept h hc hG fun x hx => by
    obtain ⟨i, hi, rfl⟩ := rowsF_mem hx
    exact hb i hi
theorem Mx.keptNo (h : Mx w G n c bs rs F r0) (hc : Chg No w w') : Mx w' G n c bs rs F r0 := h.kept hc id fun _ _ => id
/-- All rows' blocks anew, all else kept. -/
theorem Mx.all (h : Mx w G n c bs rs F r0) (hG : Own w' 58 G ((rowsF bs rs n c F).map Pc.v) r0) (hr : ∀ i, i < n → Own w' 88 (bs i) (nv .u16 (rowL c (fun t => F' t i))) (rs i)) : Mx w' G n c bs rs F' r0 := by
  have hv : (rowsF bs rs n c F').map Pc.v = (rowsF bs rs n c F).map Pc.v := by
    simp only [rowsF, List.map_map]
    apply List.map_congr_left
    intro i _
    simp [Pc.v]
  have hb : (rowsF bs rs n c F').map Pc.b = (rowsF bs rs n c F).map Pc.b := by
    simp only [rowsF, List.map_map]
    apply List.map_congr_left
    intro i _
    rfl
  refine ⟨by rw [hv]; exact hG, ?_, by rw [hb]; exact Rws.dis h, ?_, ?_⟩
  · intro x hx
    obtain ⟨i, hi, rfl⟩ := rowsF_mem hx
    exact hr i hi
  · intro x hx
    obtain ⟨i, hi, rfl⟩ := rowsF_mem hx
    exact h.neG hi
  · intro x hx
    obtain ⟨i, hi, rfl⟩ := rowsF_mem hx
    have := h.len (by omega)
    simpa using this
/-- Two rows are written. -/
theorem Mx.two (h : Mx w G n c bs rs F r0) {i j : Nat} (hi : i < n) (hj : j < n) (hij : i ≠ j) (hc : Chg (Two (bs i) (bs j)) w w') {f1 f2 : Nat → GF}
    (h1 : Own w' 88 (bs i) (nv .u16 (rowL c f1)) (rs i)) (h2 : Own w' 88 (bs j) (nv .u16 (rowL c f2)) (rs j)) :
    Mx w' G n c bs rs (fun t q => if q = i then f1 t else if q = j then f2 t else F t q) r0 := by
  refine h.all ((Rws.out h).kept hc fun s => ?_) fun q hq => ?_
  · rcases s with s | s
    · exact h.neG hi s.symm
    · exact h.neG hj s.symm
  · by_cases e : q = i
    · subst e; simpa using h1
    · by_cases e2 : q = j
      · subst e2; simpa [e] using h2
      · simp only [e, e2, if_false]
        refine (h.row hq).kept hc fun s => ?_
        rcases s with s | s
        · exact h.ne hq hi e s
        · exact h.ne hq hj e2 s
/-- One row is written. -/
theorem Mx.one (h : Mx w G n c bs rs F r0) {i : Nat} (hi : i < n) (hc : Chg (Only (bs i)) w w') {f1 : Nat → GF}
    (h1 : Own w' 88 (bs i) (nv .u16 (rowL c f1)) (rs i)) : Mx w' G n c bs rs (fun t q => if q = i then f1 t else F t q) r0 := by
  refine h.all ((Rws.out h).kept hc fun s => h.neG hi (Eq.symm s)) fun q hq => ?_
  by_cases e : q = i
  · subst e; simpa using h1
  · simp only [e, if_false]
    exact (h.row hq).kept hc fun s => h.ne hq hi e s
end
/-- The blocks of n rows. -/
def InR (bs : Nat → Nat) (n : Nat) : Nat → Prop := fun q => ∃ i, i < n ∧ q = bs i
theorem InR.two {bs : Nat → Nat} {n i j : Nat} (hi : i < n) (hj : j < n) (q : Nat) (h : Two (bs i) (bs j) q) : InR bs n q := by
  rcases h with rfl | rfl
  · exact ⟨i, hi, rfl⟩
  · exact ⟨j, hj, rfl⟩

/-- A stage on its way: what the places have that are done. -/
def prt (X : (Nat → GF) → Nat → GF) (h o m : Nat) (f : Nat → GF) (j : Nat) : GF := if j < o + m ∨ (o + h ≤ j ∧ j < o + h + m) then X f j else f j
theorem prt_start (X : (Nat → GF) → Nat → GF) (h : Nat) (f : Nat → GF) : prt X h 0 0 f = f := by
  funext j; unfold prt; rw [if_neg (by omega)]
theorem prt_next (X : (Nat → GF) → Nat → GF) (h o : Nat) (f : Nat → GF) : prt X h o h f = prt X h (o + 2 * h) 0 f := by
  funext j; unfold prt
  by_cases c : j < o + 2 * h
  · rw [if_pos (by omega), if_pos (by omega)]
  · rw [if_neg (by omega), if_neg (by omega)]
theorem prt_done (X : (Nat → GF) → Nat → GF) (h o n : Nat) (f : Nat → GF) (ho : n ≤ o) (j : Nat) (hj : j < n) : prt X h o 0 f j = X f j := by
  unfold prt; rw [if_pos (by omega)]
theorem prt_old (X : (Nat → GF) → Nat → GF) (h o m : Nat) (f : Nat → GF) (hm : m < h) : prt X h o m f (o + m) = f (o + m) ∧ prt X h o m f (o + m + h) = f (o + m + h) := by
  unfold prt
  exact ⟨if_neg (by omega), if_neg (by omega)⟩
theorem prt_step (X : (Nat → GF) → Nat → GF) (h o m : Nat) (f : Nat → GF) (hm : m < h) (a b : GF) (ha : a = X f (o + m)) (hb : b = X f (o + m + h)) (q : Nat) :
    (if q = o + m then a else if q = o + m + h then b else prt X h o m f q) = prt X h o (m + 1) f q := by
  unfold prt
  by_cases e1 : q = o + m
  · rw [if_pos e1, if_pos (by omega), e1, ha]
  · rw [if_neg e1]
    by_cases e2 : q = o + m + h
    · rw [if_pos e2, if_pos (by omega), e2, hb]
    · rw [if_neg e2]
      by_cases c : q < o + m ∨ (o + h ≤ q ∧ q < o + h + m)
      · rw [if_pos c, if_pos (by omega)]
      · rw [if_neg c, if_neg (by omega)]
/-- One pair of a stage. -/
theorem block_bit {T o m : Nat} (ho : o % (2 * 2 ^ T) = 0) (hm : m < 2 ^ T) : (o + m).testBit T = false ∧ (o + m + 2 ^ T).testBit T = true ∧ o % 2 ^ T = 0 := by
  have hp := Nat.two_pow_pos T
  obtain ⟨q, rfl⟩ : ∃ q, o = q * (2 * 2 ^ T) := ⟨o / (2 * 2 ^ T), by have := Nat.div_add_mod o (2 * 2 ^ T); rw [ho, Nat.mul_comm] at this; omega⟩
  have h1 := block_low (d := 2 ^ T) (q := q) hm
  have h2 := block_high (d := 2 ^ T) (q := q) hm
  refine ⟨?_, ?_, ?_⟩
  · rw [Nat.testBit_eq_decide_div_mod_eq]; simp [h1]
  · rw [Nat.testBit_eq_decide_div_mod_eq, show q * (2 * 2 ^ T) + m + 2 ^ T = q * (2 * 2 ^ T) + 2 ^ T + m from by omega]; simp [h2]
  · rw [← Nat.mul_assoc]; exact Nat.mul_mod_left _ _
theorem FS_pair {s T o m : Nat} (hs : s % 2 ^ T = 0) (ho : o % (2 * 2 ^ T) = 0) (hm : m < 2 ^ T) (f : Nat → GF) :
    f (o + m) + gw ((s + o) / 2 ^ T) * f (o + m + 2 ^ T) = FS s T f (o + m) ∧ f (o + m + 2 ^ T) + (f (o + m) + gw ((s + o) / 2 ^ T) * f (o + m + 2 ^ T)) = FS s T f (o + m + 2 ^ T) := by
  obtain ⟨h1, h2, h3⟩ := block_bit ho hm
  have hd : (s + (o + m)) / 2 ^ T = (s + o) / 2 ^ T := by
    rw [← Nat.add_assoc]; exact div_low (by rw [Nat.add_mod, hs, h3]; simp) hm
  unfold FS
  rw [h1, h2, if_neg (by simp), if_pos rfl, Nat.add_sub_cancel, hd]
  exact ⟨rfl, rfl⟩
theorem IS_pair {s T o m : Nat} (hs : s % 2 ^ T = 0) (ho : o % (2 * 2 ^ T) = 0) (hm : m < 2 ^ T) (f : Nat → GF) :
    f (o + m) + gw ((s + o) / 2 ^ T) * (f (o + m + 2 ^ T) + f (o + m)) = IS s T f (o + m) ∧ f (o + m + 2 ^ T) + f (o + m) = IS s T f (o + m + 2 ^ T) := by
  obtain ⟨h1, h2, h3⟩ := block_bit ho hm
  have hd : (s + (o + m)) / 2 ^ T = (s + o) / 2 ^ T := by
    rw [← Nat.add_assoc]; exact div_low (by rw [Nat.add_mod, hs, h3]; simp) hm
  unfold IS
  rw [h1, h2, if_neg (by simp), if_pos rfl, Nat.add_sub_cancel, hd]
  exact ⟨rfl, rfl⟩
end Go.Proofs.YtpnmmedjamkmeaaGreat

/- The walk of afft.InverseRows. -/
set_option linter.unusedSimpArgs false
set_option linter.unusedVariables false
set_option linter.unusedSimpArgs false
namespace Go.Proofs.YtpnmmedjamkmeaaGreat
open Go.RowKit

/-- What a transform of rows leaves. -/
def RowsPost (G n c : Nat) (bs : Nat → Nat) (rs : Nat → List Value) (F : Nat → Nat → GF) (r0 : List Value) (w : World) (e : Ending) (w' : World) : Prop :=
  e = .returned (.int .i64 0) ∧ Mx w' G n c bs rs F r0 ∧ Chg (InR bs n) w w'
theorem rows_len (bs : Nat → Nat) (rs : Nat → List Value) (n c : Nat) (F : Nat → Nat → GF) (i : Nat) (h : i < n) : (gl ((rowsF bs rs n c F).map Pc.d) i).length = c := by
  rw [gl_get _ _ (by simpa using h), List.getElem_map, rowsF_get _ _ _ _ _ _ h]; simp

set_option maxRecDepth 20000 in
set_option maxHeartbeats 3200000 in
theorem InverseRows_calls (G n c T s cp : Nat) (bs : Nat → Nat) (rs : Nat → List Value) (F : Nat → Nat → GF) (r0 : List Value) (w : World) (H : Mx w G n c bs rs F r0)
    (hn : n = 2 ^ T) (hT : T ≤ 16) (hs : s % n = 0) (hs2 : s + n ≤ 65536) :
    Calls Tryz.prog 99 #[.slice (some ⟨G, 0, none⟩) n cp, .int .i64 (s : Int)] w (RowsPost G n c bs rs (fun t => IT s T (F t)) r0 w) := by
  have HR := hid (refuses16_calls (some ⟨G, 0, none⟩) T n c cp s ((rowsF bs rs n c F).map Pc.d) w H.lr (by simp) hn hT (rows_len bs rs n c F) hs2 hs)
  have h1 : 1 ≤ n := by rw [hn]; exact Nat.one_le_two_pow
  have hcl := H.len (by omega)
  have HI := hid H
  have HSK := hid (fun t j (a : t ≤ 16) (b : j < 65536) w => skew_calls t j a b w)
  have HIV := hid (fun c g1 g2 n cap1 cap2 f1 f2 r1 r2 w hc hn hg h1 h2 => inverse_calls c g1 g2 n cap1 cap2 f1 f2 r1 r2 w hc hn hg h1 h2)
  have HN := hid hn
  have HS := hid hs
  clear H hn hs
  unfold RowsPost
  unfold TwoPost at HIV
  go_enter Tryz.func99, Tryz.ntmps99
  go_wp2_with fail
  refine HR.out.mono ?_
  rintro e w1 ⟨rfl, rfl⟩
  go_wp2_with fail
  go_loopw [7, 8, 9, 10, 11] (fun t h _ _ _ wr => ∃ l : Nat, l ≤ T ∧ t = .int .i64 (l : Int) ∧ h = .int .i64 ((2 ^ l : Nat) : Int) ∧ Mx wr G n c bs rs (fun t => IT s l (F t)) r0 ∧ Chg (InR bs n) w1 wr) (fun t _ _ _ _ _ => T - (intOf t).toNat)
  case atStart => exact ⟨0, by omega, rfl, rfl, HI.out, Chg.refl _ _⟩
  case round =>
    obtain ⟨l, hl, rfl, rfl, hM, hC⟩ := hrel
    obtain ⟨w2, rfl⟩ : ∃ w2 : World, w2 = wr := ⟨_, rfl⟩
    have HM := hid hM
    have HC := hid hC
    clear hM hC
    have hp1 : 1 ≤ 2 ^ l := Nat.one_le_two_pow
    by_cases hlt : l < T
    · have hpp : 2 * 2 ^ l ≤ n := by
        rw [HN.out, show 2 * 2 ^ l = 2 ^ (l + 1) from by rw [Nat.pow_succ]; omega]
        exact Nat.pow_le_pow_right (by omega) hlt
      have hdv : ∃ z, n = z * (2 * 2 ^ l) := ⟨2 ^ (T - (l + 1)), by
        rw [HN.out, show 2 * 2 ^ l = 2 ^ (l + 1) from by rw [Nat.pow_succ]; omega, ← Nat.pow_add]; congr 1; omega⟩
      have hsl : s % 2 ^ l = 0 := by
        obtain ⟨z, hz⟩ := hdv
        have h0 := HS.out
        rw [hz, ← Nat.mul_assoc] at h0
        exact Nat.mod_eq_zero_of_dvd (Nat.dvd_of_mod_eq_zero (Nat.mod_eq_zero_of_dvd (Nat.dvd_trans (Nat.dvd_mul_left _ _) (Nat.dvd_of_mod_eq_zero h0))))
      have HSL := hid hsl
      have HNX : Hid (∀ t, IT s (l + 1) (F t) = IS s l (IT s l (F t))) := hid (fun _ => rfl)
      have HPN : Hid (2 ^ (l + 1) = 2 ^ l * 2) := hid (Nat.pow_succ 2 l)
      have HPR := hid (fun o m (ho : o % (2 * 2 ^ l) = 0) (hm : m < 2 ^ l) f => IS_pair hsl ho hm f)
      clear hsl
      have HSKL := hid (fun j (b : j < 65536) w => HSK.out l j (by omega) b w)
      generalize 2 ^ l = h at *
      have d1 : decide (h < n) = true := by simp; omega
      have d1' : decide ((h : Int) < (n : Int)) = true := by simp; omega
      have hh1 : (h : Int) ≤ 65536 := by omega
      have HF := hid (fun t => (show IT s l (F t) = IT s l (F t) from rfl))
      go_wp2_with fail
      go_loopw [9, 10, 11] (fun o _ _ wr => ∃ q : Nat, q * (2 * h) ≤ n ∧ o = .int .i64 ((q * (2 * h) : Nat) : Int) ∧ Mx wr G n c bs rs (fun t => prt (IS s l) h (q * (2 * h)) 0 (IT s l (F t))) r0 ∧ Chg (InR bs n) w1 wr) (fun o _ _ _ => n - (intOf o).toNat)
      case atStart => exact ⟨0, by omega, by rw [Nat.zero_mul]; rfl, by rw [Nat.zero_mul]; exact HM.out.congr fun t i _ _ => by rw [prt_start], HC.out⟩
      case round =>
        obtain ⟨q, hq, rfl, hM3, hC3⟩ := hrel
        obtain ⟨w3, rfl⟩ : ∃ w3 : World, w3 = wr := ⟨_, rfl⟩
        have HM3 := hid hM3
        have HC3 := hid hC3
        clear hM3 hC3 HM HC
        have HQ : Hid ((q + 1) * (2 * h) = q * (2 * h) + 2 * h) := hid (by rw [Nat.add_mul, Nat.one_mul])
        have HOM : Hid (q * (2 * h) % (2 * h) = 0) := hid (Nat.mul_mod_left _ _)
        have HQZ : Hid (q * (2 * h) < n → q * (2 * h) + 2 * h ≤ n) := hid (by
          intro hlt
          obtain ⟨z, hz⟩ := hdv
          have : q < z := by
            rcases Nat.lt_or_ge q z with hz1 | hz1
            · exact hz1
            · have := Nat.mul_le_mul_right (2 * h) hz1; omega
          have := Nat.mul_le_mul_right (2 * h) (show q + 1 ≤ z by omega)
          rw [HQ.out] at this; omega)
        obtain ⟨o, ho⟩ : ∃ o, q * (2 * h) = o := ⟨_, rfl⟩
        rw [ho] at HQ HOM HQZ hq HM3 ⊢
        have HO := hid ho
        clear ho
        by_cases hol : o < n
        · have hon := HQZ.out hol
          have hso : (s : Int) + (o : Int) = ((s + o : Nat) : Int) := by omega
          obtain ⟨so, hsoe⟩ : ∃ so, so = s + o := ⟨_, rfl⟩
          have HSO := hid hsoe
          have hso2 : so < 65536 := by omega
          rw [← hsoe] at hso
          clear hsoe
          have HSKO := hid (HSKL.out so hso2)
          have HCL := hid (el_lt (so / h))
          have HGE := hid (gf_el (so / h))
          have d2 : decide (o < n) = true := by simp; omega
          go_wp2_with fail
          refine (HSKO.out _).mono ?_
          rintro e w4 ⟨rfl, hC4⟩
          have HM4 := hid (HM3.out.keptNo hC4)
          have HC4 := hid (HC3.out.trans hC4.no)
          clear hC4 HM3 HC3
          generalize el (so / h) = x at *
          have hxl := HCL.out
          go_wp2_with fail
          go_loopw [11] (fun i wr => ∃ m : Nat, m ≤ h ∧ i = .int .i64 ((o + m : Nat) : Int) ∧ Mx wr G n c bs rs (fun t => prt (IS s l) h o m (IT s l (F t))) r0 ∧ Chg (InR bs n) w1 wr) (fun i _ => o + h - (intOf i).toNat)
          case atStart => exact ⟨0, by omega, rfl, HM4.out, HC4.out⟩
          case round =>
            obtain ⟨m, hm, rfl, hM5, hC5⟩ := hrel
            obtain ⟨w5, rfl⟩ : ∃ w5 : World, w5 = wr := ⟨_, rfl⟩
            have HM5 := hid hM5
            have HC5 := hid hC5
            clear hM5 hC5 HM4 HC4
            have HOL := hid (fun t => prt_old (IS s l) h o m (IT s l (F t)))
            have HST := hid (fun t a b ha hb q' hm => prt_step (IS s l) h o m (IT s l (F t)) hm a b ha hb q')
            have HPRO := hid (fun hm f => HPR.out o m HOM.out hm f)
            obtain ⟨i, hi⟩ : ∃ i, o + m = i := ⟨_, rfl⟩
            rw [hi] at HOL HST HPRO ⊢
            have HII := hid hi
            by_cases hml : m < h
            · have hin : i < n := by omega
              obtain ⟨j, hj⟩ : ∃ j, i + h = j := ⟨_, rfl⟩
              rw [hj] at HOL HST HPRO
              have hjn : j < n := by omega
              have hij : i ≠ j := by omega
              have EA : IntKind.i64.wrap ((i : Int) + (h : Int)) = (j : Int) := by rw [IntWalk.i64_in _ (by omega)]; omega
              have d3 : decide ((i : Int) < (o : Int) + (h : Int)) = true := by simp; omega
              have c1 := HM5.out.cell hin
              have c2 := HM5.out.cell hjn
              have i0 : (0 : Int) ≤ (i : Int) := by omega
              have i1 : (i : Int) < (n : Int) := by omega
              have j0 : (0 : Int) ≤ (j : Int) := by omega
              have j1 : (j : Int) < (n : Int) := by omega
              have HNE := hid (HM5.out.ne hin hjn hij)
              have R1 := hid (HM5.out.row hin)
              have R2 := hid (HM5.out.row hjn)
              have HIVC := hid (fun f1 f2 w h1 h2 => HIV.out x (bs i) (bs j) c (c + (rs i).length) (c + (rs j).length) f1 f2 (rs i) (rs j) w hxl hcl HNE.out h1 h2)
              have HIN := hid hin
              have HJN := hid hjn
              have HIJ := hid hij
              have HML := hid hml
              have HJJ := hid hj
              clear hin hjn hij hj hi
              go_wp2_with fail
              go_still_tail 11, (by kernel_rfl)
              go_wp2_with fail
              refine (HIVC.out _ _ _ R1.out.drew R2.out.drew).mono ?_
              rintro e w6 ⟨rfl, hO1, hO2, hC6⟩
              have hM6 := HM5.out.two HIN.out HJN.out HIJ.out (((Chg.refl _ w5).drew).trans hC6) hO1 hO2
              have hC7 : Chg (InR bs n) w1 w6 := HC5.out.trans' (((Chg.refl (Two (bs i) (bs j)) w5).drew).trans hC6) fun q _ hq => InR.two HIN.out HJN.out q hq
              have hM7 : Mx w6 G n c bs rs (fun t => prt (IS s l) h o (m + 1) (IT s l (F t))) r0 := hM6.congr fun t q _ _ => by
                have hpo := HOL.out t HML.out
                have hpr := HPRO.out HML.out (IT s l (F t))
                rw [hpo.1, hpo.2, HGE.out, HSO.out]
                exact HST.out t _ _ hpr.1 hpr.2 q HML.out
              have HM7 := hid hM7
              have HC7 := hid hC7
              clear hM6 hM7 hC7 hO1 hO2 hC6
              go_wp2_with fail
              go_roundw
              case rel => exact ⟨m + 1, by omega, by have := HII.out; congr 1; omega, HM7.out, HC7.out⟩
              case measure => have := HII.out; simp [intOf]; omega
            · have hmh : m = h := by omega
              subst hmh
              have d3 : decide ((i : Int) < (o : Int) + (m : Int)) = false := by simp; omega
              have hM6 := HM5.out.congr (F' := fun t => prt (IS s l) m (o + 2 * m) 0 (IT s l (F t))) fun t q _ _ => by rw [prt_next]
              have HM6 := hid hM6
              clear hM6 hi
              go_wp2_with fail
              go_roundw
              case rel => exact ⟨q + 1, by rw [HQ.out]; omega, by rw [HQ.out]; congr 1, by rw [HQ.out]; exact HM6.out, HC5.out⟩
              case measure => simp [intOf]; omega
        · have hoe : o = n := by omega
          have d2 : decide (o < n) = false := by simp; omega
          have hM6 : Mx w3 G n c bs rs (fun t => IT s (l + 1) (F t)) r0 := HM3.out.congr fun t i _ hi => by
            rw [HNX.out]; exact prt_done _ _ _ n _ (by omega) i hi
          have HM6 := hid hM6
          clear hM6 hoe
          go_wp2_with fail
          go_roundw
          case rel => exact ⟨l + 1, by omega, by go_num, by rw [HPN.out]; go_num, HM6.out, HC3.out⟩
          case measure => simp [intOf]; omega
    · obtain rfl : l = T := by omega
      rw [← HN.out]
      have d1 : decide (n < n) = false := by simp
      go_wp2_with fail
      go_ret
      exact ⟨rfl, HM.out, HC.out⟩
end Go.Proofs.YtpnmmedjamkmeaaGreat

/- The walk of afft.ForwardRows. -/
set_option linter.unusedSimpArgs false
set_option linter.unusedVariables false
set_option linter.unusedSimpArgs false
namespace Go.Proofs.YtpnmmedjamkmeaaGreat
open Go.RowKit

set_option maxRecDepth 20000 in
set_option maxHeartbeats 3200000 in
theorem ForwardRows_calls (G n c T s cp : Nat) (bs : Nat → Nat) (rs : Nat → List Value) (F : Nat → Nat → GF) (r0 : List Value) (w : World) (H : Mx w G n c bs rs F r0)
    (hn : n = 2 ^ T) (hT : T ≤ 16) (hs : s % n = 0) (hs2 : s + n ≤ 65536) :
    Calls Tryz.prog 100 #[.slice (some ⟨G, 0, none⟩) n cp, .int .i64 (s : Int)] w (RowsPost G n c bs rs (fun t => FT s T (F t)) r0 w) := by
  have HR := hid (refuses16_calls (some ⟨G, 0, none⟩) T n c cp s ((rowsF bs rs n c F).map Pc.d) w H.lr (by simp) hn hT (rows_len bs rs n c F) hs2 hs)
  have h1 : 1 ≤ n := by rw [hn]; exact Nat.one_le_two_pow
  have hcl := H.len (by omega)
  have HI := hid H
  have HSK := hid (fun t j (a : t ≤ 16) (b : j < 65536) w => skew_calls t j a b w)
  have HFV := hid (fun c g1 g2 n cap1 cap2 f1 f2 r1 r2 w hc hn hg h1 h2 => forward_calls c g1 g2 n cap1 cap2 f1 f2 r1 r2 w hc hn hg h1 h2)
  have HN := hid hn
  have HS := hid hs
  have HLV := hid (levels_calls T n hn hT w)
  obtain ⟨N2, hN2⟩ : ∃ N2, n / 2 = N2 := ⟨_, rfl⟩
  have HN2 : Hid ((n : Int) / 2 = (N2 : Int)) := hid (by omega)
  have HN3 : Hid (2 ^ T / 2 = N2) := hid (by rw [← hN2, hn])
  clear hN2
  clear H hn hs
  unfold RowsPost
  unfold TwoPost at HFV
  go_enter Tryz.func100, Tryz.ntmps100
  go_wp2_with fail
  refine HR.out.mono ?_
  rintro e w1 ⟨rfl, rfl⟩
  go_wp2_with fail
  refine HLV.out.mono ?_
  rintro e w1 ⟨rfl, rfl⟩
  go_wp2_with fail
  rw [HN2.out]
  go_loopw [7, 8, 9, 10, 11] (fun t h _ _ _ wr => ∃ (l : Nat) (F' : Nat → Nat → GF), l ≤ T ∧ t = .int .i64 ((l : Int) - 1) ∧ h = .int .i64 ((2 ^ l / 2 : Nat) : Int) ∧ (∀ t, FT s l (F' t) = FT s T (F t)) ∧ Mx wr G n c bs rs F' r0 ∧ Chg (InR bs n) w1 wr) (fun t _ _ _ _ _ => (intOf t + 1).toNat)
  case atStart => exact ⟨T, F, by omega, rfl, by rw [HN3.out], fun _ => rfl, HI.out, Chg.refl _ _⟩
  case round =>
    obtain ⟨l', F', hl, rfl, rfl, hFT, hM, hC⟩ := hrel
    obtain ⟨w2, rfl⟩ : ∃ w2 : World, w2 = wr := ⟨_, rfl⟩
    have HM := hid hM
    have HC := hid hC
    have HFT := hid hFT
    clear hM hC hFT
    by_cases hlt : 0 < l'
    · obtain ⟨l, rfl⟩ : ∃ l, l' = l + 1 := ⟨l' - 1, by omega⟩
      have hp1 : 1 ≤ 2 ^ l := Nat.one_le_two_pow
      have e7 : (((l + 1 : Nat) : Int) - 1) = (l : Int) := by omega
      have e8 : 2 ^ (l + 1) / 2 = 2 ^ l := by rw [Nat.pow_succ]; omega
      have hlt : l < T := hl
      rw [e7, e8]
      clear e7 e8
      have hpp : 2 * 2 ^ l ≤ n := by
        rw [HN.out, show 2 * 2 ^ l = 2 ^ (l + 1) from by rw [Nat.pow_succ]; omega]
        exact Nat.pow_le_pow_right (by omega) hlt
      have hdv : ∃ z, n = z * (2 * 2 ^ l) := ⟨2 ^ (T - (l + 1)), by
        rw [HN.out, show 2 * 2 ^ l = 2 ^ (l + 1) from by rw [Nat.pow_succ]; omega, ← Nat.pow_add]; congr 1; omega⟩
      have hsl : s % 2 ^ l = 0 := by
        obtain ⟨z, hz⟩ := hdv
        have h0 := HS.out
        rw [hz, ← Nat.mul_assoc] at h0
        exact Nat.mod_eq_zero_of_dvd (Nat.dvd_of_mod_eq_zero (Nat.mod_eq_zero_of_dvd (Nat.dvd_trans (Nat.dvd_mul_left _ _) (Nat.dvd_of_mod_eq_zero h0))))
      have HSL := hid hsl
      have HNX : Hid (∀ t, FT s l (FS s l (F' t)) = FT s T (F t)) := hid (fun t => HFT.out t)
      have HPN : Hid (((2 ^ l : Nat) : Int) / 2 = ((2 ^ l / 2 : Nat) : Int)) := hid (by omega)
      have HPR := hid (fun o m (ho : o % (2 * 2 ^ l) = 0) (hm : m < 2 ^ l) f => FS_pair hsl ho hm f)
      clear hsl
      have HSKL := hid (fun j (b : j < 65536) w => HSK.out l j (by omega) b w)
      generalize hh : 2 ^ l = h at *
      have HHH := hid hh
      clear hh
      have d1 : decide (0 < h) = true := by simp; omega
      have d1' : decide ((0 : Int) < (h : Int)) = true := by simp; omega
      have hh1 : (h : Int) ≤ 65536 := by omega
      go_wp2_with fail
      go_loopw [9, 10, 11] (fun o _ _ wr => ∃ q : Nat, q * (2 * h) ≤ n ∧ o = .int .i64 ((q * (2 * h) : Nat) : Int) ∧ Mx wr G n c bs rs (fun t => prt (FS s l) h (q * (2 * h)) 0 (F' t)) r0 ∧ Chg (InR bs n) w1 wr) (fun o _ _ _ => n - (intOf o).toNat)
      case atStart => exact ⟨0, by omega, by rw [Nat.zero_mul]; rfl, by rw [Nat.zero_mul]; exact HM.out.congr fun t i _ _ => by rw [prt_start], HC.out⟩
      case round =>
        obtain ⟨q, hq, rfl, hM3, hC3⟩ := hrel
        obtain ⟨w3, rfl⟩ : ∃ w3 : World, w3 = wr := ⟨_, rfl⟩
        have HM3 := hid hM3
        have HC3 := hid hC3
        clear hM3 hC3 HM HC
        have HQ : Hid ((q + 1) * (2 * h) = q * (2 * h) + 2 * h) := hid (by rw [Nat.add_mul, Nat.one_mul])
        have HOM : Hid (q * (2 * h) % (2 * h) = 0) := hid (Nat.mul_mod_left _ _)
        have HQZ : Hid (q * (2 * h) < n → q * (2 * h) + 2 * h ≤ n) := hid (by
          intro hlt
          obtain ⟨z, hz⟩ := hdv
          have : q < z := by
            rcases Nat.lt_or_ge q z with hz1 | hz1
            · exact hz1
            · have := Nat.mul_le_mul_right (2 * h) hz1; omega
          have := Nat.mul_le_mul_right (2 * h) (show q + 1 ≤ z by omega)
          rw [HQ.out] at this; omega)
        obtain ⟨o, ho⟩ : ∃ o, q * (2 * h) = o := ⟨_, rfl⟩
        rw [ho] at HQ HOM HQZ hq HM3 ⊢
        have HO := hid ho
        clear ho
        by_cases hol : o < n
        · have hon := HQZ.out hol
          have hso : (s : Int) + (o : Int) = ((s + o : Nat) : Int) := by omega
          obtain ⟨so, hsoe⟩ : ∃ so, so = s + o := ⟨_, rfl⟩
          have HSO := hid hsoe
          have hso2 : so < 65536 := by omega
          rw [← hsoe] at hso
          clear hsoe
          have HSKO := hid (HSKL.out so hso2)
          have HCL := hid (el_lt (so / h))
          have HGE := hid (gf_el (so / h))
          have d2 : decide (o < n) = true := by simp; omega
          go_wp2_with fail
          refine (HSKO.out _).mono ?_
          rintro e w4 ⟨rfl, hC4⟩
          have HM4 := hid (HM3.out.keptNo hC4)
          have HC4 := hid (HC3.out.trans hC4.no)
          clear hC4 HM3 HC3
          generalize el (so / h) = x at *
          have hxl := HCL.out
          go_wp2_with fail
          go_loopw [11] (fun i wr => ∃ m : Nat, m ≤ h ∧ i = .int .i64 ((o + m : Nat) : Int) ∧ Mx wr G n c bs rs (fun t => prt (FS s l) h o m (F' t)) r0 ∧ Chg (InR bs n) w1 wr) (fun i _ => o + h - (intOf i).toNat)
          case atStart => exact ⟨0, by omega, rfl, HM4.out, HC4.out⟩
          case round =>
            obtain ⟨m, hm, rfl, hM5, hC5⟩ := hrel
            obtain ⟨w5, rfl⟩ : ∃ w5 : World, w5 = wr := ⟨_, rfl⟩
            have HM5 := hid hM5
            have HC5 := hid hC5
            clear hM5 hC5 HM4 HC4
            have HOL := hid (fun t => prt_old (FS s l) h o m (F' t))
            have HST := hid (fun t a b ha hb q' hm => prt_step (FS s l) h o m (F' t) hm a b ha hb q')
            have HPRO := hid (fun hm f => HPR.out o m HOM.out hm f)
            obtain ⟨i, hi⟩ : ∃ i, o + m = i := ⟨_, rfl⟩
            rw [hi] at HOL HST HPRO ⊢
            have HII := hid hi
            by_cases hml : m < h
            · have hin : i < n := by omega
              obtain ⟨j, hj⟩ : ∃ j, i + h = j := ⟨_, rfl⟩
              rw [hj] at HOL HST HPRO
              have hjn : j < n := by omega
              have hij : i ≠ j := by omega
              have EA : IntKind.i64.wrap ((i : Int) + (h : Int)) = (j : Int) := by rw [IntWalk.i64_in _ (by omega)]; omega
              have d3 : decide ((i : Int) < (o : Int) + (h : Int)) = true := by simp; omega
              have c1 := HM5.out.cell hin
              have c2 := HM5.out.cell hjn
              have i0 : (0 : Int) ≤ (i : Int) := by omega
              have i1 : (i : Int) < (n : Int) := by omega
              have j0 : (0 : Int) ≤ (j : Int) := by omega
              have j1 : (j : Int) < (n : Int) := by omega
              have HNE := hid (HM5.out.ne hin hjn hij)
              have R1 := hid (HM5.out.row hin)
              have R2 := hid (HM5.out.row hjn)
              have HFVC := hid (fun f1 f2 w h1 h2 => HFV.out x (bs i) (bs j) c (c + (rs i).length) (c + (rs j).length) f1 f2 (rs i) (rs j) w hxl hcl HNE.out h1 h2)
              have HIN := hid hin
              have HJN := hid hjn
              have HIJ := hid hij
              have HML := hid hml
              have HJJ := hid hj
              clear hin hjn hij hj hi
              go_wp2_with fail
              go_still_tail 11, (by kernel_rfl)
              go_wp2_with fail
              refine (HFVC.out _ _ _ R1.out.drew R2.out.drew).mono ?_
              rintro e w6 ⟨rfl, hO1, hO2, hC6⟩
              have hM6 := HM5.out.two HIN.out HJN.out HIJ.out (((Chg.refl _ w5).drew).trans hC6) hO1 hO2
              have hC7 : Chg (InR bs n) w1 w6 := HC5.out.trans' (((Chg.refl (Two (bs i) (bs j)) w5).drew).trans hC6) fun q _ hq => InR.two HIN.out HJN.out q hq
              have hM7 : Mx w6 G n c bs rs (fun t => prt (FS s l) h o (m + 1) (F' t)) r0 := hM6.congr fun t q _ _ => by
                have hpo := HOL.out t HML.out
                have hpr := HPRO.out HML.out (F' t)
                rw [hpo.1, hpo.2, HGE.out, HSO.out]
                exact HST.out t _ _ hpr.1 hpr.2 q HML.out
              have HM7 := hid hM7
              have HC7 := hid hC7
              clear hM6 hM7 hC7 hO1 hO2 hC6
              go_wp2_with fail
              go_roundw
              case rel => exact ⟨m + 1, by omega, by have := HII.out; congr 1; omega, HM7.out, HC7.out⟩
              case measure => have := HII.out; simp [intOf]; omega
            · have hmh : m = h := by omega
              subst hmh
              have d3 : decide ((i : Int) < (o : Int) + (m : Int)) = false := by simp; omega
              have hM6 := HM5.out.congr (F' := fun t => prt (FS s l) m (o + 2 * m) 0 (F' t)) fun t q _ _ => by rw [prt_next]
              have HM6 := hid hM6
              clear hM6 hi
              go_wp2_with fail
              go_roundw
              case rel => exact ⟨q + 1, by rw [HQ.out]; omega, by rw [HQ.out]; congr 1, by rw [HQ.out]; exact HM6.out, HC5.out⟩
              case measure => simp [intOf]; omega
        · have hoe : o = n := by omega
          have d2 : decide (o < n) = false := by simp; omega
          have hM6 : Mx w3 G n c bs rs (fun t => FS s l (F' t)) r0 := HM3.out.congr fun t i _ hi => prt_done _ _ _ n _ (by omega) i hi
          have HM6 := hid hM6
          clear hM6 hoe
          go_wp2_with fail
          go_roundw
          case rel => exact ⟨l, fun t => FS s l (F' t), by omega, by go_num, by first | rw [HHH.out, HPN.out] | (rw [HHH.out]; go_num), HNX.out, HM6.out, HC3.out⟩
          case measure => simp [intOf]
    · obtain rfl : l' = 0 := by omega
      have hM7 : Mx w2 G n c bs rs (fun t => FT s T (F t)) r0 := HM.out.congr fun t i _ _ => by rw [← HFT.out]; rfl
      have HM7 := hid hM7
      clear hM7
      rw [show (2 : Nat) ^ 0 / 2 = 0 from rfl]
      go_wp2_with fail
      go_ret
      exact ⟨rfl, HM7.out, HC.out⟩
end Go.Proofs.YtpnmmedjamkmeaaGreat

/- Walks of planes.Words, planes.Bytes, fcode.rows. -/
set_option linter.unusedSimpArgs false
set_option linter.unusedVariables false
set_option linter.unusedSimpArgs false
namespace Go.Proofs.YtpnmmedjamkmeaaGreat
open Go.RowKit

/-- Words while they are read: the first k of them. -/
def upTo (f : Nat → GF) (k t : Nat) : GF := if t < k then f t else 0
theorem upTo_set (f : Nat → GF) (n k : Nat) (h : k < n) : (rowL n (upTo f k)).set k (f k).v = rowL n (upTo f (k + 1)) := by
  rw [rowL_set _ _ _ _ h]
  refine rowL_congr fun t _ => ?_
  unfold upTo
  by_cases e : t = k
  · subst e; rw [if_pos rfl, if_pos (by omega)]
  · rw [if_neg e]
    by_cases h : t < k
    · rw [if_pos h, if_pos (by omega)]
    · rw [if_neg h, if_neg (by omega)]
theorem upTo_zero (f : Nat → GF) (n : Nat) : rowL n (upTo f 0) = List.replicate n 0 := by
  rw [← rowL_zero]; exact rowL_congr fun t _ => if_neg (by omega)
theorem upTo_full (f : Nat → GF) (n : Nat) : rowL n (upTo f n) = rowL n f := rowL_congr fun t h => if_pos h
/-- What a call leaves that makes a row. -/
def MadeRow (e : TypeId) (l : List Value) (n : Nat) (rv : Value → Ending) (w : World) (en : Ending) (w' : World) : Prop :=
  ∃ g, en = rv (.slice (some ⟨g, 0, none⟩) n n) ∧ Own w' e g l [] ∧ w.heap.size ≤ g ∧ Chg No w w'

set_option maxRecDepth 20000 in
set_option maxHeartbeats 1600000 in
theorem Words16_calls (p : Option Addr) (k n c : Nat) (l : List Nat) (w : World) (hr : Rn w .u8 p l) (hl : l.length = n) (hn : n = 2 * k) (hb : ∀ i, gn l i < 256) (hm : n ≤ 140737488355328) :
    Calls Tryz.prog 98 #[.slice p n c] w (MadeRow 88 (nv .u16 (rowL k (we l))) k (fun v => .returned (.tuple #[v, .int .i64 0])) w) := by
  have HR := hid hr
  have HL := hid hl
  have HW := hid (fun t w => word_calls (gn l (2 * t)) (gn l (2 * t + 1)) (hb _) (hb _) w)
  have HV := hid (fun t => (show (we l t).v = wd (gn l (2 * t)) (gn l (2 * t + 1)) from by unfold we wdAt; rw [gf_v (wd_lt (hb _) (hb _))]))
  have HN := hid hn
  have e1 : (n : Int) / 2 = (k : Int) := by omega
  have d1 : ((n : Int) % 2 != 0) = false := by rw [bne_eq_false_iff_eq]; omega
  have d2 : ((n : Int) % 2 == 0) = true := by rw [beq_iff_eq]; omega
  clear hr hl hb hn
  unfold MadeRow
  go_enter Tryz.func98, Tryz.ntmps98
  go_wp2_with (at_make; go_must ((with_reducible refine wpList_mk1 88 (.int .u16 0) 2 k k ?_ ?_ ?_ ?_ ?_ ?_ ?_ ?_); exact ⟨rfl, rfl⟩; exact Tryz.underlying58; kernel_rfl; rfl; omega; (have := HN.out; omega); (have := HN.out; unfold maxLen; omega); intro W1 hO1 hC1 hs1))
  have hO1' : Own W1 88 w.heap.size (nv .u16 (rowL k (upTo (we l) 0))) [] := by
    rw [upTo_zero, nv_replicate]; simpa using hO1
  clear hO1 e1
  have hkn : 2 * k = n := HN.out.symm
  go_loopw [16] (fun i wr => ∃ t : Nat, t ≤ k ∧ i = .int .i64 (t : Int) ∧ Own wr 88 w.heap.size (nv .u16 (rowL k (upTo (we l) t))) [] ∧ Chg No w wr) (fun i _ => k - (intOf i).toNat)
  case atStart => exact ⟨0, by omega, rfl, hO1', hC1⟩
  case round =>
    obtain ⟨t, ht, rfl, hO, hC⟩ := hrel
    clear hO1' hC1
    obtain ⟨w2, rfl⟩ : ∃ w2 : World, w2 = wr := ⟨_, rfl⟩
    by_cases hlt : t < k
    · obtain ⟨bb, off, rfl, c1⟩ := (HR.out.keptNo hC) (2 * t) (by rw [HL.out]; omega)
      obtain ⟨bb', off', he, c2⟩ := (HR.out.keptNo hC) (2 * t + 1) (by rw [HL.out]; omega)
      obtain ⟨rfl, rfl⟩ : bb = bb' ∧ off = off' := by simpa using he
      have c3 := hO.nat (i := t) (by simpa using hlt)
      have f3 := hO.frozen t
      have HWT := hid (HW.out t)
      have HS := hid (upTo_set (we l) k t hlt)
      have HVT := hid (HV.out t)
      have HO := hid hO
      have HC := hid hC
      clear hO hC he
      generalize (we l t).v = x at *
      generalize gn l (2 * t) = y0 at *
      generalize gn l (2 * t + 1) = y1 at *
      generalize gn (rowL k (upTo (we l) t)) t = y2 at *
      obtain ⟨s, hs⟩ : ∃ s, s = 2 * t := ⟨_, rfl⟩
      have E1 : IntKind.i64.wrap (2 * (t : Int)) = (s : Int) := by rw [IntWalk.i64_in _ (by omega)]; omega
      have E2 : IntKind.i64.wrap ((s : Int) + 1) = (s : Int) + 1 := by rw [IntWalk.i64_in _ (by omega)]
      rw [← hs] at c1 c2
      have s0 : (0 : Int) ≤ (s : Int) := by omega
      have s1 : (s : Int) + 1 < (n : Int) := by omega
      have s2 : (s : Int) < (n : Int) := by omega
      have s3 : s < n := by omega
      have s4 : ((s : Int) + 1).toNat = s + 1 := by omega
      have s5 : (0 : Int) ≤ (s : Int) + 1 := by omega
      have t0 : (0 : Int) ≤ (t : Int) := by omega
      have t1 : (t : Int) < (k : Int) := by omega
      clear hs
      rw [HVT.out] at HS
      go_wp2_with fail
      refine wp_region_still_tail 15 (by kernel_rfl) (by kernel_rfl) ?_
      simp only [List.take_succ_cons, List.take_zero, List.drop_succ_cons, List.drop_zero]
      repeat still_step
      still_call (HWT.out _)
      repeat still_step
      try refine wpStill_nil ?_
      go_wp2_with fail
      go_roundw
      case rel => exact ⟨t + 1, by omega, by go_num, by rw [← HS.out]; exact (HO.out.setNat (by simpa using hlt) _).drew, (HC.out.setNew (Nat.le_refl _) _ _).drew⟩
      case measure => simp [intOf]; omega
    · obtain rfl : t = k := by omega
      rw [upTo_full] at hO
      go_wp2_with fail
      go_ret2
      exact ⟨_, rfl, hO, Nat.le_refl _, hC⟩
end Go.Proofs.YtpnmmedjamkmeaaGreat

/- Walks of planes.Bytes, fcode.rows. -/
set_option linter.unusedSimpArgs false
set_option linter.unusedVariables false
set_option linter.unusedSimpArgs false
namespace Go.Proofs.YtpnmmedjamkmeaaGreat
open Go.RowKit

theorem Own.lit2 (W : World) (e : TypeId) (u v : Value) : Own (W.alloc (.cells #[u, v] e)) e W.heap.size [u, v] [] := heap_alloc_new W _
set_option maxRecDepth 20000 in
set_option maxHeartbeats 1600000 in
theorem Bytes16_calls (p : Option Addr) (k c : Nat) (f : Nat → GF) (w : World) (hr : Rn w .u16 p (rowL k f)) (hm : k ≤ 70368744177664) :
    Calls Tryz.prog 101 #[.slice p k c] w (MadeRow 5 (nv .u8 (byTo f k)) (2 * k) (fun v => .returned v) w) := by
  have HR := hid hr
  have HB := hid (fun t => (show byTo f (t + 1) = byTo f t ++ [(f t).v % 256, (f t).v / 256] from rfl))
  have HBL := hid (byTo_length f)
  clear hr
  obtain ⟨n, hn⟩ : ∃ n, n = 2 * k := ⟨_, rfl⟩
  have HN := hid hn
  have e1 : IntKind.i64.wrap (2 * (k : Int)) = (n : Int) := by rw [IntWalk.i64_in _ (by omega)]; omega
  have e2 : 2 * (k : Int) = (n : Int) := by omega
  rw [← hn]
  clear hn
  unfold MadeRow
  go_enter Tryz.func101, Tryz.ntmps101
  go_wp2_with (at_make; go_must ((with_reducible refine wpList_mk1 5 (.int .u8 0) 1 0 n ?_ ?_ ?_ ?_ ?_ ?_ ?_ ?_); exact ⟨rfl, rfl⟩; exact Tryz.underlying35; kernel_rfl; rfl; omega; (have := HN.out; omega); (have := HN.out; unfold maxLen; omega); intro W1 hO1 hC1 hs1))
  have hO1' : Own W1 5 w.heap.size (nv .u8 (byTo f 0)) (List.replicate (n - 2 * 0) (.int .u8 0)) := hO1
  clear hO1 e1 e2
  go_loopw [3, 5, 12] (fun v _ i wr => ∃ t : Nat, t ≤ k ∧ i = .int .i64 (t : Int) ∧ v = .slice (some ⟨w.heap.size, 0, none⟩) (2 * t) n ∧ Own wr 5 w.heap.size (nv .u8 (byTo f t)) (List.replicate (n - 2 * t) (.int .u8 0)) ∧ Chg No w wr) (fun _ _ i _ => k - (intOf i).toNat)
  case atStart => exact ⟨0, by omega, rfl, rfl, hO1', hC1⟩
  case round =>
    obtain ⟨t, ht, rfl, rfl, hO, hC⟩ := hrel
    clear hO1' hC1
    obtain ⟨w2, rfl⟩ : ∃ w2 : World, w2 = wr := ⟨_, rfl⟩
    by_cases hlt : t < k
    · obtain ⟨bb, off, rfl, c1⟩ := (HR.out.keptNo hC) t (by simpa using hlt)
      rw [gn_rowL _ _ _ hlt] at c1
      have hx := (f t).v_lt
      have HBT := hid (HB.out t)
      have HO := hid hO
      have HC := hid hC
      clear hO hC
      generalize (f t).v = x at *
      have x2 : (x : Int) / 256 % 256 = (x : Int) / 256 := by omega
      have HX1 : Hid (((x % 256 : Nat) : Int) = (x : Int) % 256) := hid (by omega)
      have HX2 : Hid (((x / 256 : Nat) : Int) = (x : Int) / 256) := hid (by omega)
      have hroom : 2 * k ≤ n := by rw [HN.out]; omega
      go_wp2_with (at_builtin; go_must ((with_reducible refine wpList_appRoom (HO.out.alloc (.cells #[.int .u8 ((x : Int) % 256), .int .u8 ((x : Int) / 256)] 5)) ⟨w2.heap.size, 0, none⟩ [.int .u8 ((x : Int) % 256), .int .u8 ((x : Int) / 256)] ?_ (2 * t) n 2 2 ?_ ?_ ?_ ?_ ?_ ?_ ?_ ?_ ?_); exact (Own.lit2 w2 5 _ _).addCell; exact ⟨rfl, rfl⟩; (simp [HBL.out]); rfl; (simp; omega); (simp; omega); exact Tryz.underlying35; kernel_rfl; (intro u hu; simp at hu; rcases hu with rfl | rfl <;> rfl); intro W6 hO6 hC6))
      have hO7 : Own W6 5 w.heap.size (nv .u8 (byTo f (t + 1))) (List.replicate (n - 2 * (t + 1)) (.int .u8 0)) := by
        rw [HBT.out]
        refine hO6.gw ?_
        rw [nv_append, List.drop_replicate, show n - 2 * t - 2 = n - 2 * (t + 1) from by omega]
        simp [nv]
      have hC7 : Chg No w W6 := HC.out.allocOnly (.inr (Nat.le_refl _)) hC6
      go_roundw
      case rel => exact ⟨t + 1, by omega, by go_num, by rw [Nat.mul_add], hO7, hC7⟩
      case measure => simp [intOf]; omega
    · obtain rfl : t = k := by omega
      have hn := HN.out
      rw [← hn] at hO ⊢
      rw [Nat.sub_self] at hO
      clear hn
      go_wp2_with fail
      go_ret
      exact ⟨_, rfl, hO, Nat.le_refl _, hC⟩

/-- A row of a list, none behind its end. -/
def pcAt (xs : List Pc) (i : Nat) : Pc := xs.getD i ⟨0, [], []⟩
theorem pcAt_get (xs : List Pc) (i : Nat) (h : i < xs.length) : pcAt xs i = xs[i] := by simp [pcAt, h]
/-- Rows as a function. -/
theorem Mx.of {w : World} {G n c : Nat} {xs : List Pc} {F : Nat → Nat → GF} {r0 : List Value} (h : Rws w 58 88 .u16 G xs r0) (hn : xs.length = n)
    (hd : ∀ i, i < n → (pcAt xs i).d = rowL c (fun t => F t i)) : Mx w G n c (fun i => (pcAt xs i).b) (fun i => (pcAt xs i).r) F r0 := by
  have : rowsF (fun i => (pcAt xs i).b) (fun i => (pcAt xs i).r) n c F = xs := by
    apply List.ext_getElem (by simp [hn])
    intro i h1 h2
    rw [rowsF_get _ _ _ _ _ _ (by omega), ← hd i (by omega), pcAt_get _ _ h2]
  unfold Mx
  rwa [this]
/-- What rows leaves. -/
def RowsMade (n c : Nat) (w : World) (e : Ending) (w' : World) : Prop :=
  ∃ G bs, e = .returned (.slice (some ⟨G, 0, none⟩) n n) ∧ Mx w' G n c bs (fun _ => []) (fun _ _ => 0) [] ∧ w.heap.size ≤ G ∧ (∀ i, i < n → w.heap.size ≤ bs i) ∧ Chg No w w'

set_option maxRecDepth 20000 in
set_option maxHeartbeats 1600000 in
theorem rows_calls (n c : Nat) (w : World) (hn : n ≤ 131072) (hc : c ≤ 70368744177664) :
    Calls Tryz.prog 97 #[.int .i64 (n : Int), .int .i64 (c : Int)] w (RowsMade n c w) := by
  unfold RowsMade
  have n0 : (0 : Int) ≤ (n : Int) := by omega
  go_enter Tryz.func97, Tryz.ntmps97
  go_wp2_with (at_make; go_must ((with_reducible refine wpList_mk1 58 (.slice none 0 0) 24 n n ?_ ?_ ?_ ?_ ?_ ?_ ?_ ?_); exact ⟨rfl, rfl⟩; exact Tryz.underlying149; kernel_rfl; rfl; omega; omega; (unfold maxLen; omega); intro W1 hO1 hC1 hs1))
  have hR1 : Rws W1 58 88 .u16 w.heap.size [] (List.replicate n (.slice none 0 0)) :=
    ⟨by simpa [Own] using hO1, fun _ h => (by cases h), by simp, fun _ h => (by cases h), fun _ h => (by cases h)⟩
  clear hO1
  obtain ⟨G, hG⟩ : ∃ G, G = w.heap.size := ⟨_, rfl⟩
  have HG := hid hG
  rw [← hG] at hR1 ⊢
  clear hG
  go_loopw [11] (fun i wr => ∃ (j : Nat) (xs : List Pc), j ≤ n ∧ i = .int .i64 (j : Int) ∧ Rws wr 58 88 .u16 G xs (List.replicate (n - j) (.slice none 0 0)) ∧ xs.length = j ∧ (∀ x ∈ xs, x.d = List.replicate c 0 ∧ x.r = [] ∧ G ≤ x.b) ∧ Chg No w wr) (fun i _ => n - (intOf i).toNat)
  case atStart => exact ⟨0, [], by omega, rfl, by simpa using hR1, rfl, fun _ h => (by cases h), hC1⟩
  case round =>
    obtain ⟨j, xs, hj, rfl, hR, hxl, hxs, hC⟩ := hrel
    clear hR1 hC1 hs1
    obtain ⟨w2, rfl⟩ : ∃ w2 : World, w2 = wr := ⟨_, rfl⟩
    have HXL := hid hxl
    have HXS := hid hxs
    have HC := hid hC
    by_cases hlt : j < n
    · rw [show n - j = n - (j + 1) + 1 from by omega, List.replicate_succ] at hR
      have HR := hid hR
      have hgc := hR.out.restCell
      rw [List.length_map, hxl] at hgc
      clear hR hC hxl hxs
      go_wp2_with (first
        | (at_make; go_must ((with_reducible refine wpList_mk1 88 (.int .u16 0) 2 c c ?_ ?_ ?_ ?_ ?_ ?_ ?_ ?_); exact ⟨rfl, rfl⟩; exact Tryz.underlying58; kernel_rfl; rfl; omega; omega; (unfold maxLen; omega); intro W3 hO3 hC3 hs3)
           have hgc3 := hC3.cell hgc id
           have hgf3 := (HR.out.keptNo hC3).out.frozen j
           have HO3 := hid hO3
           have HC3 := hid hC3
           clear hO3 hC3 hgc))
      obtain ⟨w4, hw4⟩ : ∃ w4, w4 = W3.setCell ⟨G, j, none⟩ (.slice (some ⟨w2.heap.size, 0, none⟩) c c) := ⟨_, rfl⟩
      rw [← hw4]
      have hGb : G < w2.heap.size := (HR.out.out).lt
      have hR4 : Rws w4 58 88 .u16 G (xs ++ [⟨w2.heap.size, List.replicate c 0, []⟩]) (List.replicate (n - (j + 1)) (.slice none 0 0)) := by
        have := (HR.out.keptNo HC3.out).put (x := ⟨w2.heap.size, List.replicate c 0, []⟩) (by rw [nv_replicate]; simpa [Own] using HO3.out)
          (fun y hy => Nat.ne_of_lt (HR.out.blk hy)) (by show w2.heap.size ≠ G; omega) (by simp; omega)
        rw [HXL.out] at this
        rw [hw4]
        simpa [Pc.v] using this
      have hC4 : Chg No w w4 := by
        rw [hw4]; exact (HC.out.trans HC3.out).setCell (p := ⟨G, j, none⟩) (.inr (Nat.le_of_eq HG.out.symm)) _
      have HR4 := hid hR4
      have HC4 := hid hC4
      clear hw4 hR4 hC4 hgc3 hgf3
      go_roundw
      case rel => exact ⟨j + 1, _, by omega, by go_num, HR4.out, by rw [List.length_append, HXL.out]; rfl, fun x hx => by
        rcases List.mem_append.1 hx with hx | hx
        · exact HXS.out x hx
        · rw [List.mem_singleton.1 hx]; exact ⟨rfl, rfl, Nat.le_of_lt hGb⟩, HC4.out⟩
      case measure => simp [intOf]; omega
    · obtain rfl : j = n := by omega
      rw [Nat.sub_self] at hR
      have hM : Mx w2 G j c (fun i => (pcAt xs i).b) (fun _ => []) (fun _ _ => 0) [] := by
        have h1 := Mx.of (c := c) (F := fun _ _ => 0) hR hxl (fun i hi => by
          rw [pcAt_get _ _ (by omega), (hxs _ (List.getElem_mem _)).1, rowL_zero])
        have h2 : rowsF (fun i => (pcAt xs i).b) (fun i => (pcAt xs i).r) j c (fun _ _ => 0) = rowsF (fun i => (pcAt xs i).b) (fun _ => []) j c (fun _ _ => 0) := by
          apply List.map_congr_left
          intro i hi
          have hi := List.mem_range.1 hi
          have : (pcAt xs i).r = [] := by rw [pcAt_get _ _ (by omega)]; exact (hxs _ (List.getElem_mem _)).2.1
          simp only [this]
        unfold Mx at h1 ⊢
        rwa [← h2]
      have hbs : ∀ i, i < j → w.heap.size ≤ (pcAt xs i).b := fun i hi => by
        rw [pcAt_get _ _ (by omega), ← HG.out]; exact (hxs _ (List.getElem_mem _)).2.2
      clear hR hxl hxs
      have HM := hid hM
      clear hM
      go_wp2_with fail
      go_ret
      exact ⟨G, _, rfl, HM.out, by rw [HG.out]; exact Nat.le_refl _, hbs, hC⟩
end Go.Proofs.YtpnmmedjamkmeaaGreat
