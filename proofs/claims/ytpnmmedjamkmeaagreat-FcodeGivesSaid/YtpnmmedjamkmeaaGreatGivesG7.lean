/- Rows that are written within a span: the plain part of EncodeSpan. -/
import Derived.Laws.CopyOwn
import Derived.Test.YtpnmmedjamkmeaaGreatGivesG6
import Derived.Test.YtpnmmedjamkmeaaGreatGivesG5
set_option linter.unusedSimpArgs false
set_option linter.unusedVariables false
set_option linter.unusedSimpArgs false
namespace Go.Proofs.YtpnmmedjamkmeaaGreat
open Go.RowKit

/-- l with the numbers from a to b made new. -/
def spl (a b : Nat) (new l : List Nat) : List Nat := l.take a ++ (new ++ l.drop b)
theorem spl_length {a b : Nat} {new l : List Nat} (h : new.length = b - a) (hab : a ≤ b) (hb : b ≤ l.length) : (spl a b new l).length = l.length := by
  simp [spl, h]; omega
theorem gn_spl {a b : Nat} {new l : List Nat} (h : new.length = b - a) (hab : a ≤ b) (hb : b ≤ l.length) (i : Nat) :
    gn (spl a b new l) i = if a ≤ i ∧ i < b then gn new (i - a) else gn l i := by
  simp only [gn, List.getD_eq_getElem?_getD, spl]
  by_cases h1 : i < a
  · rw [List.getElem?_append_left (by simp; omega), List.getElem?_take, if_pos h1, if_neg (by omega)]
  · rw [List.getElem?_append_right (by simp; omega)]
    simp only [List.length_take, Nat.min_eq_left (show a ≤ l.length by omega)]
    by_cases h2 : i < b
    · rw [List.getElem?_append_left (by omega), if_pos ⟨by omega, h2⟩]
    · rw [List.getElem?_append_right (by omega), List.getElem?_drop, if_neg (by omega), h]
      rw [show b + (i - a - (b - a)) = i from by omega]
/-- copy into a row of one's own. -/
theorem Own.copy {w : World} {e : TypeId} {g : Nat} {k : IntKind} {l new : List Nat} {rest : List Value} (h : Own w e g (nv k l) rest) {a b : Nat} (hl : new.length = b - a) (hab : a ≤ b) (hb : b ≤ l.length) :
    Own (w.setRow g ((nv k l ++ rest).toArray.toList.take a ++ (nv k new ++ (nv k l ++ rest).toArray.toList.drop (a + (nv k new).length))).toArray) e g (nv k (spl a b new l)) rest := by
  have h2 := setRow_heap w g (nv k l ++ rest).toArray ((nv k l ++ rest).toArray.toList.take a ++ (nv k new ++ (nv k l ++ rest).toArray.toList.drop (a + (nv k new).length))).toArray e (0, 0) h
  unfold Own
  rw [h2]
  congr 3
  simp only [nv_length, hl]
  rw [show a + (b - a) = b from by omega]
  rw [List.take_append_of_le_length (by simp; omega), List.drop_append_of_le_length (by simp; omega)]
  simp [spl, nv]
/-- The rows when j parity rows have been written. -/
def encTo (k a b : Nat) (P : List (List Nat)) (xs : List Pc) : Nat → List Pc
  | 0 => xs
  | j + 1 => (encTo k a b P xs j).modify (k + j) fun x => { x with d := spl a b (gl P j) x.d }
@[simp] theorem encTo_length (k a b : Nat) (P : List (List Nat)) (xs : List Pc) (j : Nat) : (encTo k a b P xs j).length = xs.length := by
  induction j with
  | zero => rfl
  | succ j ih => simp [encTo, ih]
theorem encTo_get? (k a b : Nat) (P : List (List Nat)) (xs : List Pc) (j i : Nat) :
    (encTo k a b P xs j)[i]? = (xs[i]?).map fun x => if k ≤ i ∧ i < k + j then { x with d := spl a b (gl P (i - k)) x.d } else x := by
  induction j with
  | zero =>
    rw [encTo]
    cases xs[i]? with
    | none => rfl
    | some x => rw [Option.map_some, if_neg (by omega)]
  | succ j ih =>
    rw [encTo, List.getElem?_modify, ih]
    cases xs[i]? with
    | none => simp
    | some x =>
      simp only [Option.map_some, Option.some.injEq]
      by_cases e : k + j = i
      · subst e
        simp only [if_true, Nat.add_sub_cancel_left]
        rw [if_neg (by omega), if_pos (by omega)]; rfl
      · simp only [e, if_false, id]
        by_cases h : k ≤ i ∧ i < k + j
        · rw [if_pos h, if_pos (by omega)]; rfl
        · rw [if_neg h, if_neg (by omega)]; rfl
theorem encTo_b (k a b : Nat) (P : List (List Nat)) (xs : List Pc) (j : Nat) : (encTo k a b P xs j).map Pc.b = xs.map Pc.b := by
  apply List.ext_getElem?
  intro i
  rw [List.getElem?_map, List.getElem?_map, encTo_get?]
  cases xs[i]? with
  | none => rfl
  | some x => simp only [Option.map_some, Option.some.injEq]; split <;> rfl
end Go.Proofs.YtpnmmedjamkmeaaGreat

/- The walks of the codec's EncodeSpan and Encode. -/
set_option linter.unusedSimpArgs false
set_option linter.unusedVariables false
set_option linter.unusedSimpArgs false
namespace Go.Proofs.YtpnmmedjamkmeaaGreat
open Go.RowKit

theorem wpList_cp {P : Program} {w : World} {ops : Array Oper} {tl : List Oper} {act : Act} {Q : Exit → Act → World → Prop} {d s : Operand} {t ty : TypeId} {dst : Option Tmp} {pos : String} {after : Array Edge}
    {g : Nat} {e : TypeId} {k : IntKind} {l : List Nat} {rest : List Value} (hO : Own w e g (nv k l) rest) (x y : Nat) (new : List Nat) (ad : Addr) (dLen dCap sLen sCap : Nat)
    (he : act.eval d = .slice (some ⟨g, x, none⟩) dLen dCap ∧ act.eval s = .slice (some ad) sLen sCap) (hsrc : ∀ j v, (nv k new)[j]? = some v → w.cell? (ad.add j) = some v)
    (hn : new.length = y - x) (hxy : x ≤ y) (hy : y ≤ l.length) (hs : sLen = y - x) (hd : y - x ≤ dLen) (hu : P.underlying t = some (.slice e)) (hsz : (P.info? e).map (·.size) = some 1)
    (hK : ∀ W, Own W e g (nv k (spl x y new l)) rest → Chg (Only g) w W → wpList P ops Q tl (act.put dst (goInt ((nv k new).length : Nat))) W) :
    wpList P ops Q ({ dst := dst, op := .call { callee := .builtin .copy, args := #[d, s], argTypes := #[t, t] }, type := ty, pos := pos, after := after, guard := none } :: tl) act w :=
  wpList_copy_own rfl d s t t rfl e hu hsz g x dLen dCap ad sLen sCap he.1 he.2 (nv k l ++ rest).toArray e hO (nv k new) (by rw [nv_length, hn, hs]; exact (Nat.min_eq_left hd).symm) hsrc
    (by simp; omega) nv_one (hK _ (hO.copy hn hxy hy) ((Chg.refl (Only g) w).setRow (g := g) (.inl rfl) _))
theorem modify_set {l : List Pc} {i : Nat} (h : i < l.length) (f : Pc → Pc) : l.modify i f = l.set i (f l[i]) := by
  apply List.ext_getElem?
  intro j
  rw [List.getElem?_modify, List.getElem?_set]
  by_cases e : i = j
  · subst e; simp [h]
  · simp [e]
/-- The rows' blocks. -/
def InB (xs : List Pc) : Nat → Prop := fun q => ∃ x ∈ xs, q = x.b
/-- No row lies in one of the codec's blocks. -/
def Apart (xs : List Pc) (C W T K : Nat) : Prop := ∀ x ∈ xs, x.b ≠ C ∧ x.b ≠ W ∧ x.b ≠ T ∧ x.b ≠ K
/-- The parity of the rows' data within a span. -/
def parOf (k m a b : Nat) (xs : List Pc) : List (List Nat) := par k m (b - a) (cutL a b ((xs.map Pc.d).take k))

set_option maxRecDepth 20000 in
set_option maxHeartbeats 3200000 in
theorem EncodeSpan_calls (fast : Bool) (HPC : ParC fast) (C k m r W T K n c t a b G : Nat) (xs : List Pc) (r0 : List Value) (w : World) (hc : Cd w fast C k m r W T K) (hR : Rws w 35 5 .u8 G xs r0)
    (ht : t = k + m) (hd : Ev t n (xs.map Pc.d)) (hbt : Byt (xs.map Pc.d)) (hab : a < b) (hsp : Sp a b n) (htc : t ≤ c) (hap : Apart xs C W T K) :
    Calls Tryz.prog 24 #[.pointer (some ⟨C, 0, none⟩), .slice (some ⟨G, 0, none⟩) t c, spanV a b] w fun e w' => e = .returned (.int .i64 0) ∧ Rws w' 35 5 .u8 G (encTo k a b (parOf k m a b xs) xs m) r0 ∧ Chg (InB xs) w w' := by
  have HEN := hid (fun w h1 h2 => encode_calls fast HPC C k m r W T K n c t a b (some ⟨G, 0, none⟩) (xs.map Pc.d) w h1 h2 ht hd hbt hab hsp htc)
  have HWH := hid (fun S w h1 h2 h3 => whole_span C k m r W T K n c t S a b fast (some ⟨G, 0, none⟩) (xs.map Pc.d) w h1 h2 ht hd h3 hsp)
  unfold ParPost at HEN
  have HP : Hid (par k m (b - a) (cutL a b ((xs.map Pc.d).take k)) = parOf k m a b xs) := hid rfl
  rw [HP.out] at HEN
  have HPL : Hid ((parOf k m a b xs).length = m) := hid (par_length _ _ _ _)
  have HPN : Hid (∀ j, j < m → (gl (parOf k m a b xs) j).length = b - a) := hid (fun j hj => by unfold parOf; rw [gl_par _ _ _ _ _ hj, parTo_length])
  have HC := hid hc
  have HL := hid hR.lr
  have HD := hid hd
  have HT := hid ht
  have HAP := hid hap
  have HR := hid hR
  have HXL : Hid (xs.length = t) := hid (by have := hd.lt; rwa [List.length_map] at this)
  have hn := hd.small
  have hts := hd.tsmall
  obtain ⟨hk1, hm1, hk2, hm2, _⟩ := hc.prm
  have hbn := hsp.bn
  clear hc hR hd hbt hsp hap HP ht
  generalize parOf k m a b xs = P at *
  unfold spanV at *
  go_enter Tryz.func24, Tryz.ntmps24
  go_wp2_with fail
  obtain ⟨w1, hw1⟩ : ∃ w1, w1 = w.alloc (.cells #[.int .i64 (a : Int), .int .i64 (b : Int)] 51) := ⟨_, rfl⟩
  have hC1 : Chg No w w1 := by rw [hw1]; exact (Chg.refl _ _).alloc _
  have hS : Own w1 51 w.heap.size [.int .i64 (a : Int), .int .i64 (b : Int)] [] := by rw [hw1]; exact heap_alloc_new w _
  rw [← hw1]
  have HC1 := hid hC1
  have HS := hid hS
  clear hw1 hS hC1
  refine (HWH.out _ _ (HC.out.keptNo HC1.out) (HL.out.keptNo HC1.out) HS.out).mono ?_
  rintro e w2 ⟨rfl, hC2⟩
  have hC12 := HC1.out.trans hC2
  have hS2 := HS.out.keptNo hC2
  have s0 : w2.cell? ⟨w.heap.size, 0, none⟩ = some (.int .i64 (a : Int)) := hS2.cell (i := 0) (by simp)
  have s1 : w2.cell? ⟨w.heap.size, 1, none⟩ = some (.int .i64 (b : Int)) := hS2.cell (i := 1) (by simp)
  have HC2 := hid hC12
  have HS2 := hid hS2
  clear hC2 hC12 hS2 HS HC1
  go_wp2_with fail
  refine (HEN.out _ (HC.out.keptNo HC2.out) (HL.out.keptNo HC2.out)).mono ?_
  rintro e w3 ⟨G3, ps, rfl, hR3, hx3, hg3, hb3, hC3⟩
  have HC3 := hid (HC2.out.trans hC3)
  have HS3 := hid (HS2.out.keptNo hC3)
  have HR3 := hid hR3
  have HX3 := hid hx3
  have HB3 : Hid (∀ x ∈ ps, w.heap.size ≤ x.b) := hid (fun x hx => Nat.le_trans HC2.out.size (hb3 x hx))
  have HG3 : Hid (w.heap.size ≤ G3) := hid (Nat.le_trans HC2.out.size hg3)
  clear hC3 hR3 hx3 hb3 hg3 HS2 HC2 s0 s1 HEN HWH
  go_wp2_with fail
  go_loopw [25] (fun i wr => ∃ j : Nat, j ≤ m ∧ i = .int .i64 (j : Int) ∧ Rws wr 35 5 .u8 G (encTo k a b P xs j) r0 ∧ Chg (InB xs) w3 wr) (fun i _ => m - (intOf i).toNat)
  case atStart => exact ⟨0, by omega, rfl, HR.out.keptNo HC3.out, Chg.refl _ _⟩
  case round =>
    obtain ⟨j, hj, rfl, hR4, hC4⟩ := hrel
    obtain ⟨w4, rfl⟩ : ∃ w4 : World, w4 = wr := ⟨_, rfl⟩
    have HR4 := hid hR4
    have HC4 := hid hC4
    clear hR4 hC4
    by_cases hlt : j < m
    · have ht := HT.out
      have hpx : j < ps.length := by
        have := congrArg List.length HX3.out
        rw [List.length_map, HPL.out] at this; omega
      obtain ⟨pj, hpj⟩ : ∃ pj, pj = ps[j]'hpx := ⟨_, rfl⟩
      have hpd : pj.d = gl P j := by
        have := congrArg (fun l => gl l j) HX3.out
        rw [← (show gl (ps.map Pc.d) j = gl P j from this), gl_get _ _ (by simpa using hpx), hpj]; simp
      have hmp : pj ∈ ps := by rw [hpj]; exact List.getElem_mem hpx
      have hold : ∀ q, InB xs q → q < w.heap.size := fun q ⟨x, hx, e⟩ => by rw [e]; exact HR.out.blk hx
      have hcj := HC4.out.cell (HR3.out.cell hpx) (fun s => by have := hold _ s; have := HG3.out; simp only at *; omega)
      have hin := (HR3.out.inn pj hmp).kept HC4.out (fun s => by have := hold _ s; have := HB3.out pj hmp; omega)
      rw [← hpj] at hcj
      have hCd : Cd w4 fast C k m r W T K := (HC.out.keptNo HC3.out).kept HC4.out (fun ⟨x, hx, e⟩ => (HAP.out x hx).1 e.symm) (fun ⟨x, hx, e⟩ => (HAP.out x hx).2.1 e.symm) (fun ⟨x, hx, e⟩ => (HAP.out x hx).2.2.1 e.symm) (fun ⟨x, hx, e⟩ => (HAP.out x hx).2.2.2 e.symm)
      have c0 := hCd.c0
      have hS4 := HS3.out.kept HC4.out (fun s => by have := hold _ s; omega)
      have s0 : w4.cell? ⟨w.heap.size, 0, none⟩ = some (.int .i64 (a : Int)) := hS4.cell (i := 0) (by simp)
      have s1 : w4.cell? ⟨w.heap.size, 1, none⟩ = some (.int .i64 (b : Int)) := hS4.cell (i := 1) (by simp)
      have hkx : k + j < (encTo k a b P xs j).length := by rw [encTo_length, HXL.out]; omega
      obtain ⟨y, hy⟩ : ∃ y, y = (encTo k a b P xs j)[k + j]'hkx := ⟨_, rfl⟩
      have hky : k + j < xs.length := by rw [HXL.out]; omega
      have hyx : y = xs[k + j]'hky := by
        have := encTo_get? k a b P xs j (k + j)
        rw [List.getElem?_eq_getElem hkx, List.getElem?_eq_getElem hky, Option.map_some, Option.some.injEq, if_neg (by omega)] at this
        rw [hy, this]
      have hcy := HR4.out.cell hkx
      have hiy := HR4.out.inn _ (List.getElem_mem hkx)
      rw [← hy] at hcy hiy
      have hyn : y.d.length = n := by
        have := HD.out.ln (k + j) (by omega)
        rw [gl_get _ _ (by simpa using hky)] at this
        rw [hyx]; simpa using this
      have hvy : y.v = .slice (some ⟨y.b, 0, none⟩) n (n + y.r.length) := by rw [Pc.v, hyn]
      have hvp : pj.v = .slice (some ⟨pj.b, 0, none⟩) (b - a) (b - a + pj.r.length) := by rw [Pc.v, hpd, HPN.out j hlt]
      rw [hvy] at hcy
      rw [hvp] at hcj
      have hkj : IntKind.i64.wrap ((k : Int) + (j : Int)) = ((k + j : Nat) : Int) := by rw [IntWalk.i64_in _ (by omega)]; omega
      obtain ⟨kj, hkj2⟩ : ∃ kj, kj = k + j := ⟨_, rfl⟩
      rw [← hkj2] at hkj hcy
      have HIN := hid hin
      have HIY := hid hiy
      have HYX := hid hyx
      have HY := hid hy
      have HYN := hid hyn
      have HPD := hid hpd
      have HKX := hid hkx
      have HKY := hid hky
      have HKJ := hid hkj2
      have i0 : (0 : Int) ≤ (kj : Int) := by omega
      have i4 : (kj : Int) < (t : Int) := by omega
      have i1 : (0 : Int) ≤ (a : Int) := by omega
      have i2 : (a : Int) ≤ (n : Int) := by omega
      clear hkj2 ht hpd hpj hmp hold hin hCd hS4 hyx hy hiy hyn hvy hvp hpx
      go_wp2_with fail
      go_still_tail 13, (by kernel_rfl)
      change wpList _ _ _ _ _ w4.drew
      obtain ⟨w5, hw5⟩ : ∃ w5, w5 = w4.drew := ⟨_, rfl⟩
      rw [← hw5]
      have HIY5 : Hid (Own w5 5 y.b (nv .u8 y.d) y.r) := hid (by rw [hw5]; exact HIY.out.drew)
      have HIN5 : Hid (Own w5 5 pj.b (nv .u8 pj.d) pj.r) := hid (by rw [hw5]; exact HIN.out.drew)
      have HW5 := hid hw5
      clear hw5 c0 s0 s1 hcy hcj
      have hpn := HPN.out j hlt
      have HPN2 := hid hpn
      clear hpn
      refine wpList_cp HIY5.out a b (gl P j) ⟨pj.b, 0, none⟩ (n - a) (n + y.r.length - a) (b - a) (b - a + pj.r.length) ?_ ?_ ?_ ?_ ?_ ?_ ?_ ?_ ?_ ?_
      · refine ⟨?_, rfl⟩
        show Value.slice (if n + y.r.length = a then _ else _) _ _ = _
        rw [if_neg (by omega)]
      · rw [← HPD.out]; exact HIN5.out.addCell
      · exact HPN2.out
      · omega
      · rw [HYN.out]; exact hbn
      · rfl
      · omega
      · exact Tryz.underlying35
      · kernel_rfl
      intro W6 hO6 hC6
      go_wp2_with fail
      have hC46 : Chg (Only y.b) w4 W6 := by
        have := HW5.out
        subst this
        exact ((Chg.refl (Only y.b) w4).drew).trans hC6
      have hyb : y.b = (xs[k + j]'hky).b := by rw [HYX.out]
      have hR6 : Rws W6 35 5 .u8 G (encTo k a b P xs (j + 1)) r0 := by
        have h1 := HR4.out.upd (w' := W6) (i := k + j) hkx (d' := spl a b (gl P j) y.d) (by rw [← HY.out]; exact spl_length HPN2.out (by omega) (by rw [HYN.out]; exact hbn)) (by rw [← HY.out]; exact hC46) (by rw [← HY.out]; exact hO6)
        rw [encTo, modify_set hkx, ← HY.out]
        rw [← HY.out] at h1
        exact h1
      have hC7 : Chg (InB xs) w3 W6 := HC4.out.trans' hC46 fun q hq e => ⟨_, List.getElem_mem hky, by
        have e : q = y.b := e
        rw [e, hyb]⟩
      have HR6 := hid hR6
      clear hR6 hO6 hC6 hC46 hyb
      go_roundw
      case rel => exact ⟨j + 1, by omega, by go_num, HR6.out, hC7⟩
      case measure => simp [intOf]; omega
    · obtain rfl : j = m := by omega
      have hCE : Chg (InB xs) w w4 := (show Chg (InB xs) w w3 from HC3.out.no).trans HC4.out
      go_wp2_with fail
      go_ret
      exact ⟨rfl, HR4.out, hCE⟩
theorem Encode_calls (fast : Bool) (HPC : ParC fast) (C k m r W T K n c t G : Nat) (xs : List Pc) (r0 : List Value) (w : World) (hc : Cd w fast C k m r W T K) (hR : Rws w 35 5 .u8 G xs r0)
    (ht : t = k + m) (hd : Ev t n (xs.map Pc.d)) (hbt : Byt (xs.map Pc.d)) (htc : t ≤ c) (hap : Apart xs C W T K) :
    Calls Tryz.prog 17 #[.pointer (some ⟨C, 0, none⟩), .slice (some ⟨G, 0, none⟩) t c] w fun e w' => e = .returned (.int .i64 0) ∧ Rws w' 35 5 .u8 G (encTo k 0 n (parOf k m 0 n xs) xs m) r0 ∧ Chg (InB xs) w w' := by
  have HV := hid (fun w h1 h2 => EncodeSpan_calls fast HPC C k m r W T K n c t 0 n G xs r0 w h1 h2 ht hd hbt hd.pos ⟨by omega, by omega, by omega, hd.even⟩ htc hap)
  have HWH := hid (whole_none C k m r W T K n c t fast (some ⟨G, 0, none⟩) (xs.map Pc.d) w hc hR.lr ht hd)
  have HC := hid hc
  have HR := hid hR
  clear hc hR ht hd hbt hap
  unfold spanV at HV
  go_enter Tryz.func17, Tryz.ntmps17
  go_wp2_with fail
  refine HWH.out.mono ?_
  rintro e w2 ⟨rfl, hC2⟩
  have HC2 := hid hC2
  clear hC2
  go_wp2_with fail
  refine (HV.out _ (HC.out.keptNo HC2.out) (HR.out.keptNo HC2.out)).mono ?_
  rintro e w3 ⟨rfl, hR3, hC3⟩
  have HC3 : Hid (Chg (InB xs) w w3) := hid ((show Chg (InB xs) w w2 from HC2.out.no).trans hC3)
  have HR3 := hid hR3
  clear hC3 hR3
  go_wp2_with fail
  go_ret
  exact ⟨rfl, HR3.out, HC3.out⟩
end Go.Proofs.YtpnmmedjamkmeaaGreat

/- The walk of fcode.New. -/
set_option linter.unusedSimpArgs false
set_option linter.unusedVariables false
set_option linter.unusedSimpArgs false
namespace Go.Proofs.YtpnmmedjamkmeaaGreat
open Go.RowKit

/-- A codec's cells while it is made. -/
def mkCells (k m L N R : Nat) (wv : Value) (T K : Nat) (f g : Value) : List Value :=
  [.int .i64 (k : Int), .int .i64 (m : Int), .int .i64 (L : Int), .int .i64 (N : Int), .int .i64 (R : Int), wv, .pointer (some ⟨T, 0, none⟩), .pointer (some ⟨K, 0, none⟩), f, g]
theorem mk_cd (fast : Bool) (C k m r W T K : Nat) : mkCells k m (p2 m) (2 ^ r) r (.slice (some ⟨W, 0, none⟩) (2 ^ r) (2 ^ r)) T K (parF fast C) (givF fast C) = cdCells fast C k m r W T K := rfl
/-- A codec in the making. -/
def Mk (w : World) (C k m L N R : Nat) (wv : Value) (T K : Nat) (f g : Value) : Prop := Own w 81 C (mkCells k m L N R wv T K f g) []
section
variable {w w' : World} {C k m L N R T K : Nat} {wv f g : Value} {S : Nat → Prop}
theorem Mk.c0 (h : Mk w C k m L N R wv T K f g) : w.cell? ⟨C, 0, none⟩ = some (.int .i64 (k : Int)) := Own.cell h (i := 0) (by simp [mkCells])
theorem Mk.c2 (h : Mk w C k m L N R wv T K f g) : w.cell? ⟨C, 2, none⟩ = some (.int .i64 (L : Int)) := Own.cell h (i := 2) (by simp [mkCells])
theorem Mk.c3 (h : Mk w C k m L N R wv T K f g) : w.cell? ⟨C, 3, none⟩ = some (.int .i64 (N : Int)) := Own.cell h (i := 3) (by simp [mkCells])
theorem Mk.c4 (h : Mk w C k m L N R wv T K f g) : w.cell? ⟨C, 4, none⟩ = some (.int .i64 (R : Int)) := Own.cell h (i := 4) (by simp [mkCells])
theorem Mk.c5 (h : Mk w C k m L N R wv T K f g) : w.cell? ⟨C, 5, none⟩ = some wv := Own.cell h (i := 5) (by simp [mkCells])
theorem Mk.c8 (h : Mk w C k m L N R wv T K f g) : w.cell? ⟨C, 8, none⟩ = some f := Own.cell h (i := 8) (by simp [mkCells])
theorem Mk.c9 (h : Mk w C k m L N R wv T K f g) : w.cell? ⟨C, 9, none⟩ = some g := Own.cell h (i := 9) (by simp [mkCells])
theorem Mk.fr (h : Mk w C k m L N R wv T K f g) (i : Nat) : w.frozen? ⟨C, i, none⟩ = false := Own.frozen h i
theorem Mk.s2 (h : Mk w C k m L N R wv T K f g) (x : Nat) : Mk (w.setCell ⟨C, 2, none⟩ (.int .i64 (x : Int))) C k m x N R wv T K f g := Own.set h (i := 2) (by simp [mkCells]) _
theorem Mk.s3 (h : Mk w C k m L N R wv T K f g) (x : Nat) : Mk (w.setCell ⟨C, 3, none⟩ (.int .i64 (x : Int))) C k m L x R wv T K f g := Own.set h (i := 3) (by simp [mkCells]) _
theorem Mk.s4 (h : Mk w C k m L N R wv T K f g) (x : Nat) : Mk (w.setCell ⟨C, 4, none⟩ (.int .i64 (x : Int))) C k m L N x wv T K f g := Own.set h (i := 4) (by simp [mkCells]) _
theorem Mk.s5 (h : Mk w C k m L N R wv T K f g) (x : Value) : Mk (w.setCell ⟨C, 5, none⟩ x) C k m L N R x T K f g := Own.set h (i := 5) (by simp [mkCells]) _
theorem Mk.s8 (h : Mk w C k m L N R wv T K f g) (x : Value) : Mk (w.setCell ⟨C, 8, none⟩ x) C k m L N R wv T K x g := Own.set h (i := 8) (by simp [mkCells]) _
theorem Mk.s9 (h : Mk w C k m L N R wv T K f g) (x : Value) : Mk (w.setCell ⟨C, 9, none⟩ x) C k m L N R wv T K f x := Own.set h (i := 9) (by simp [mkCells]) _
theorem Mk.kept (h : Mk w C k m L N R wv T K f g) (hc : Chg S w w') (hs : ¬ S C) : Mk w' C k m L N R wv T K f g := Own.kept h hc hs
end
end Go.Proofs.YtpnmmedjamkmeaaGreat

/- The walk of fcode.New. -/
set_option linter.unusedSimpArgs false
set_option linter.unusedVariables false
set_option linter.unusedSimpArgs false
namespace Go.Proofs.YtpnmmedjamkmeaaGreat
open Go.RowKit

/-- The number in a cell. -/
def natAt (w : World) (a : Addr) : Nat := match w.cell? a with
  | some (.int _ n) => n.toNat
  | _ => 0
theorem natAt_of {w : World} {a : Addr} {k : IntKind} {n : Nat} (h : w.cell? a = some (.int k (n : Int))) : natAt w a = n := by
  unfold natAt; rw [h]; simp
/-- What New leaves. -/
def NewPost (fast : Bool) (k m : Nat) (w : World) (e : Ending) (w' : World) : Prop :=
  ∃ C W T K, e = .returned (.tuple #[.pointer (some ⟨C, 0, none⟩), .int .i64 0]) ∧ Cd w' fast C k m (mu (p2 m + k)) W T K ∧ w.heap.size ≤ C ∧ w.heap.size ≤ W ∧ w.heap.size ≤ T ∧ w.heap.size ≤ K ∧ Chg No w w'
/-- The blocks from C on. -/
def AtC (C : Nat) : Nat → Prop := fun i => C ≤ i
/-- What stays while the codec is made. -/
structure Fix (w1 : World) (T K C : Nat) (w : World) : Prop where
  tab : Tab w T
  kern : Kern w K
  chg : Chg No w1 w
  hT : T < C
  hK : K < C
  hC : w1.heap.size ≤ C
  lt : C < w.heap.size
theorem Fix.step {w1 w w' : World} {T K C : Nat} (h : Fix w1 T K C w) (hc : Chg (AtC C) w w') : Fix w1 T K C w' :=
  ⟨TabAt.kept h.tab hc (by have := h.hT; simp only [AtC]; omega), hc.kept h.kern (by have := h.hK; simp only [AtC]; omega), h.chg.trans' hc (fun i hi e => by have := h.hC; simp only [AtC] at e; omega), h.hT, h.hK, h.hC, Nat.lt_of_lt_of_le h.lt hc.size⟩
theorem Fix.set {w1 w : World} {T K C : Nat} (h : Fix w1 T K C w) {a : Addr} (ha : C ≤ a.block) (v : Value) : Fix w1 T K C (w.setCell a v) := h.step ((Chg.refl _ w).setCell (.inl ha) v)
theorem Fix.no {w1 w w' : World} {T K C : Nat} (h : Fix w1 T K C w) (hc : Chg No w w') : Fix w1 T K C w' := h.step hc.no
theorem Mk.keptA {w : World} {C k m L N R T K : Nat} {wv f g : Value} (h : Mk w C k m L N R wv T K f g) (o : Obj) : Mk (w.alloc o) C k m L N R wv T K f g := Own.alloc h o

set_option maxRecDepth 100000 in
set_option maxHeartbeats 6400000 in
theorem fNew_direct (k m : Nat) (h : prm k (m : Int)) (w : World) :
    Calls Tryz.prog 34 #[.int .i64 3, .int .i64 (k : Int), .int .i64 (m : Int)] w (NewPost false k m w) := by
  have HP := hid (Params_yes k m h w)
  have HPRM := hid h
  obtain ⟨h1, h2, h3, h4, h5⟩ := h
  rw [Int.toNat_natCast] at h5
  have HPW := hid (fun w => Pow2_yes m (by omega) (by omega) w)
  have hL1 := p2_pos m
  go_enter Tryz.func34, Tryz.ntmps34
  go_wp2_with fail
  refine HP.out.mono ?_
  rintro e w1 ⟨rfl, rfl⟩
  go_wp2_with fail
  refine (New_calls w1).mono ?_
  rintro e w2 ⟨rfl, hT, hC⟩
  have HT := hid hT
  have HC := hid hC
  clear hT hC
  go_wp2_with fail
  refine (pNew_calls w2).mono ?_
  rintro e w3 ⟨rfl, hK, hC3⟩
  have HK := hid hK
  have HC3 := hid (HC.out.trans hC3)
  have HT3 := hid (HT.out.keptNo hC3)
  clear hK hC3 HT
  go_wp2_with fail
  have hM : Mk (w3.alloc (.cells #[.int .i64 (k : Int), .int .i64 (m : Int), .int .i64 0, .int .i64 1, .int .i64 0, .slice none 0 0, .pointer (some ⟨w1.heap.size, 0, none⟩), .pointer (some ⟨w2.heap.size, 0, none⟩), Value.nilFunc, Value.nilFunc] 81)) w3.heap.size k m 0 1 0 (.slice none 0 0) w1.heap.size w2.heap.size Value.nilFunc Value.nilFunc := heap_alloc_new w3 _
  obtain ⟨w4, hw4⟩ : ∃ w4, w4 = (w3.alloc (.cells #[.int .i64 (k : Int), .int .i64 (m : Int), .int .i64 0, .int .i64 1, .int .i64 0, .slice none 0 0, .pointer (some ⟨w1.heap.size, 0, none⟩), .pointer (some ⟨w2.heap.size, 0, none⟩), Value.nilFunc, Value.nilFunc] 81)) := ⟨_, rfl⟩
  rw [← hw4] at hM ⊢
  have hF4 : Fix w1 w1.heap.size w2.heap.size w3.heap.size w4 := by
    rw [hw4]
    exact ⟨HT3.out.keptNo ((Chg.refl _ _).alloc _), ((Chg.refl No w3).alloc _).kept HK.out id, HC3.out.alloc _, TabAt.lt HT3.out, (Array.getElem?_eq_some_iff.1 HK.out).1, HC3.out.size, by simp⟩
  have HF4 := hid hF4
  have HTK : Hid (w1.heap.size ≤ w2.heap.size) := hid HC.out.size
  clear hw4 hF4 HK HC3 HT3 HC
  have HT0 : Hid (w1.heap.size ≤ w1.heap.size) := hid (Nat.le_refl _)
  obtain ⟨T, hT⟩ : ∃ T, w1.heap.size = T := ⟨_, rfl⟩
  have HT0 : Hid (w1.heap.size ≤ T) := hid (Nat.le_of_eq hT)
  rw [hT] at hM HF4 HTK ⊢
  clear hT
  generalize w2.heap.size = K at *
  generalize w3.heap.size = C at *
  refine (HPW.out _).mono ?_
  rintro e w5 ⟨rfl, rfl⟩
  have c2 := hM.c2
  have f2 := hM.fr 2
  have HM := hid hM
  clear hM
  generalize (Value.agg _ : Value) = v30
  go_wp2_with fail
  obtain ⟨w6, hw6⟩ : ∃ w6, w6 = w5.setCell ⟨C, 2, none⟩ (.int .i64 (p2 m : Int)) := ⟨_, rfl⟩
  rw [← hw6]
  have hM6 : Mk w6 C k m (p2 m) 1 0 (.slice none 0 0) T K Value.nilFunc Value.nilFunc := by rw [hw6]; exact HM.out.s2 _
  have hF6 : Fix w1 T K C w6 := by rw [hw6]; exact HF4.out.set (a := ⟨C, 2, none⟩) (Nat.le_refl _) _
  have HF6 := hid hF6
  clear hw6 c2 f2 HM hF6 HF4
  have hS16 : p2 m + k ≤ 65536 := h5
  have HMU := hid (fun t => @mu_iff (p2 m + k) t)
  have HM16 := hid (mu_le16 (m := p2 m + k) h5)
  generalize hee : mu (p2 m + k) = ee at *
  have HEE := hid hee
  have HL := hid (show p2 m = p2 m from rfl)
  clear hee h5
  go_loopw [50] (fun c wr => ∃ r : Nat, r ≤ ee ∧ Mk wr C k m (p2 m) (2 ^ r) r (.slice none 0 0) T K Value.nilFunc Value.nilFunc ∧ Fix w1 T K C wr) (fun _ wr => 131072 - natAt wr ⟨C, 3, none⟩)
  case atStart => exact ⟨0, by omega, hM6, HF6.out⟩
  case round =>
    obtain ⟨r, hr, hM, hF⟩ := hrel
    obtain ⟨w7, rfl⟩ : ∃ w7 : World, w7 = wr := ⟨_, rfl⟩
    have HM7 := hid hM
    have HF7 := hid hF
    have c3 := hM.c3
    have c2 := hM.c2
    have c4 := hM.c4
    have f3 := hM.fr 3
    clear hM6 hM hF
    have hb : 2 ^ r ≤ 2 ^ 16 := Nat.pow_le_pow_right (by omega) (by have := HM16.out; omega)
    have h1' : 1 ≤ 2 ^ r := Nat.one_le_two_pow
    have hi := HMU.out r
    have HS := hid (show 2 ^ (r + 1) = 2 ^ r * 2 from Nat.pow_succ 2 r)
    have hr17 : r ≤ 16 := by have := HM16.out; omega
    have HNA := hid (natAt_of c3)
    by_cases hlt : r < ee
    · have hlt2 : 2 ^ r < p2 m + k := by omega
      generalize 2 ^ r = N at *
      generalize p2 m = L at *
      have d1 : decide ((N : Int) < (L : Int) + (k : Int)) = true := by simp; omega
      have d2 : decide (N < L + k) = true := by simp; omega
      have e1 : IntKind.i64.wrap ((L : Int) + (k : Int)) = (L : Int) + (k : Int) := IntWalk.i64_in _ (by omega)
      clear hi hlt2
      go_wp2_with fail
      go_quiet (fail)
      obtain ⟨w8, hw8⟩ : ∃ w8, w8 = w7.drewN nq := ⟨_, rfl⟩
      rw [← hw8]
      have hM8 : Mk w8 C k m L N r (.slice none 0 0) T K Value.nilFunc Value.nilFunc := by rw [hw8]; exact HM7.out
      have hF8 : Fix w1 T K C w8 := by rw [hw8]; exact HF7.out.no ((Chg.refl _ _).drewN _)
      have c3 := hM8.c3
      have f3 := hM8.fr 3
      have HM8 := hid hM8
      have HF8 := hid hF8
      clear hw8 hM8 hF8 HM7 HF7 c2 c4
      go_wp2_with (first
        | ((with_reducible refine wpList_st ⟨C, 3, none⟩ (.int .i64 ((N : Int) * 2)) c3 f3 ?_ ?_ ?_ ?_); exact ⟨rfl, rfl⟩; kernel_rfl; rfl; intro W1 hW1
           have hM9 : Mk W1 C k m L (N * 2) r (.slice none 0 0) T K Value.nilFunc Value.nilFunc := by
             rw [hW1]
             have := HM8.out.s3 (N * 2)
             simpa using this
           have hF9 : Fix w1 T K C W1 := by rw [hW1]; exact HF8.out.set (a := ⟨C, 3, none⟩) (Nat.le_refl _) _
           have c4 := hM9.c4
           have f4 := hM9.fr 4
           have HM9 := hid hM9
           have HF9 := hid hF9
           clear hW1 hM9 hF9 c3 f3)
        | ((with_reducible refine wpList_st ⟨C, 4, none⟩ (.int .i64 ((r : Int) + 1)) c4 f4 ?_ ?_ ?_ ?_); exact ⟨rfl, rfl⟩; kernel_rfl; rfl; intro W2 hW2
           have hM10 : Mk W2 C k m L (N * 2) (r + 1) (.slice none 0 0) T K Value.nilFunc Value.nilFunc := by
             rw [hW2]
             have := HM9.out.s4 (r + 1)
             simpa using this
           have hF10 : Fix w1 T K C W2 := by rw [hW2]; exact HF9.out.set (a := ⟨C, 4, none⟩) (Nat.le_refl _) _
           have HM10 := hid hM10
           have HF10 := hid hF10
           clear hW2 hM10 hF10 c4 f4))
      have HNB := hid (natAt_of HM10.out.c3)
      go_roundw
      case rel => exact ⟨r + 1, by omega, by rw [HS.out]; exact HM10.out, HF10.out⟩
      case measure => rw [HNA.out, HNB.out]; omega
    · have hre : r = ee := by omega
      have hge : p2 m + k ≤ 2 ^ r := by
        have := hi.1 (by omega); exact this
      have HRE := hid hre
      have hr16 : r ≤ 16 := by have := HM16.out; omega
      have HPW2 := hid (fun (i : Nat) (h : i < r) => (show 2 * 2 ^ i ≤ 2 ^ r from by
        rw [← Nat.pow_succ']; exact Nat.pow_le_pow_right (by omega) h))
      have HPE := hid (fun (i : Nat) (h : i = r) => (show 2 ^ i = 2 ^ r by rw [h]))
      have HCD := hid (mk_cd false C k m r)
      generalize hNN : 2 ^ r = N at *
      have HNN := hid hNN
      generalize hLL : p2 m = L at *
      have d1 : decide ((N : Int) < (L : Int) + (k : Int)) = false := by simp; omega
      have d2 : decide (N < L + k) = false := by simp; omega
      have e1 : IntKind.i64.wrap ((L : Int) + (k : Int)) = (L : Int) + (k : Int) := IntWalk.i64_in _ (by omega)
      have HLL := hid hLL
      clear hi hre hNN hLL hlt HNA
      go_wp2_with fail
      go_quiet (fail)
      obtain ⟨w8, hw8⟩ : ∃ w8, w8 = w7.drewN nq := ⟨_, rfl⟩
      rw [← hw8]
      have hM8 : Mk w8 C k m L N r (.slice none 0 0) T K Value.nilFunc Value.nilFunc := by rw [hw8]; exact HM7.out
      have hF8 : Fix w1 T K C w8 := by rw [hw8]; exact HF7.out.no ((Chg.refl _ _).drewN _)
      have c3 := hM8.c3
      have HM8 := hid hM8
      have HF8 := hid hF8
      clear hw8 hM8 hF8 HM7 HF7 c2 c4 f3
      go_wp2_with (first
        | (at_make; go_must ((with_reducible refine wpList_mk1 88 (.int .u16 0) 2 1 N ?_ ?_ ?_ ?_ ?_ ?_ ?_ ?_); exact ⟨rfl, rfl⟩; exact Tryz.underlying58; kernel_rfl; rfl; omega; omega; (unfold maxLen; omega); intro W1 hO1 hC1 hs1)
           have hM9 := HM8.out.kept hC1 id
           have hF9 := HF8.out.no hC1
           have c5 := hM9.c5
           have f5 := hM9.fr 5
           have HO9 := hid hO1
           have HM9 := hid hM9
           have HF9 := hid hF9
           clear hO1 hC1 hM9 hF9 hs1)
        | ((with_reducible refine wpList_st ⟨C, 5, none⟩ (.slice (some ⟨w8.heap.size, 0, none⟩) 1 N) c5 f5 ?_ ?_ ?_ ?_); exact ⟨rfl, rfl⟩; kernel_rfl; rfl; intro W2 hW2
           have hM10 : Mk W2 C k m L N r (.slice (some ⟨w8.heap.size, 0, none⟩) 1 N) T K Value.nilFunc Value.nilFunc := by rw [hW2]; exact HM9.out.s5 _
           have hF10 : Fix w1 T K C W2 := by rw [hW2]; exact HF9.out.set (a := ⟨C, 5, none⟩) (Nat.le_refl _) _
           have hO10 : Own W2 88 w8.heap.size (nv .u16 (els 1)) (List.replicate (N - 1) (.int .u16 0)) := by
             rw [hW2]; exact HO9.out.setOther (a := ⟨C, 5, none⟩) (by have := HF8.out.lt; show w8.heap.size ≠ C; omega) _
           have hgC : C < w8.heap.size := HF8.out.lt
           have HM10 := hid hM10
           have HF10 := hid hF10
           have HO10 := hid hO10
           clear hW2 hM10 hF10 hO10 c5 f5))
      generalize w8.heap.size = g at *
      have r0 : (0 : Int) ≤ (r : Int) := by omega
      have r1 : (r : Int) ≤ 16 := by omega
      have c4 := HM10.out.c4
      go_region_held3 (fun w' => w'.cell? ⟨C, 4, none⟩ = some (.int .i64 (r : Int)))
        (first
          | go_keep
          | (exact hCB.cell (by assumption) id))
        (first | (go_at_call 62; refine (Basis_full _).mono ?_; rintro e w11 ⟨gb, capb, restb, hcb, rfl, hOB, hgb, hCB⟩; have hcb2 : (r : Int) ≤ (capb : Int) := (by omega); have HCB := hid hcb; clear hcb))
      have hM11 := (HM10.out.kept ((Chg.refl No W2).drew) id).kept hCB id
      have hF11 := (HF10.out.no ((Chg.refl No W2).drew)).no hCB
      have hO11 := (HO10.out.drew).keptNo hCB
      have hgb2 : g < gb := Nat.lt_of_lt_of_le HO10.out.lt hgb
      have HOB := hid hOB
      have HM11 := hid hM11
      have HF11 := hid hF11
      have HO11 := hid hO11
      have HGC : Hid (C < g) := hid hgC
      clear hM11 hF11 hO11 hOB hCB hgb c4 c3 HM10 HF10 HO10 HM9 HF9 HO9 HM8 HF8
      have hN16 : N ≤ 65536 := hb
      go_wp2_with fail
      go_loopw [80] (fun i wr => ∃ i' : Nat, i' ≤ r ∧ i = .int .i64 (i' : Int) ∧ Mk wr C k m L N r (.slice (some ⟨g, 0, none⟩) (2 ^ i') N) T K Value.nilFunc Value.nilFunc ∧ Fix w1 T K C wr ∧ Own wr 88 g (nv .u16 (els (2 ^ i'))) (List.replicate (N - 2 ^ i') (.int .u16 0)) ∧ Own wr 88 gb (nv .u16 basisList) restb) (fun i _ => r - (intOf i).toNat)
      case atStart => exact ⟨0, by omega, rfl, HM11.out, HF11.out, HO11.out, HOB.out⟩
      case round =>
        clear HM11 HF11 HO11 HOB
        obtain ⟨i, hi, rfl, hM12, hF12, hO12, hOB⟩ := hrel
        obtain ⟨w12, rfl⟩ : ∃ w12 : World, w12 = wr := ⟨_, rfl⟩
        have HM12 := hid hM12
        have HF12 := hid hF12
        have HO12 := hid hO12
        have HOB := hid hOB
        clear hM12 hF12 hO12 hOB
        by_cases hir : i < r
        · have hpw := HPW2.out i hir
          have HT := hid (fun j (h : j < 2 ^ i) => el_top (i := i) h (by omega))
          have hM0 : 1 ≤ 2 ^ i := Nat.one_le_two_pow
          have HPS : Hid (2 ^ (i + 1) = 2 * 2 ^ i) := hid (by rw [Nat.pow_succ]; omega)
          have hbc := HOB.out.nat (i := i) (by simp [basisList]; omega)
          have hgn : gn basisList i = bas i := rfl
          have HGN := hid hgn
          rw [hgn] at hbc
          have hbl := bas_lt i
          clear hgn
          generalize bas i = bk at *
          obtain ⟨Mi, hMi⟩ : ∃ Mi, 2 ^ i = Mi := ⟨_, rfl⟩
          rw [hMi] at hpw HT hM0 HPS HM12 HO12
          have HMI := hid hMi
          clear hMi
          have c5 := HM12.out.c5
          have mi0 : (0 : Int) ≤ (Mi : Int) := by omega
          have mi1 : (Mi : Int) ≤ (N : Int) := by omega
          go_wp2_with fail
          go_quiet (fail)
          go_wp2_with fail
          obtain ⟨w13, hw13⟩ : ∃ w13, w13 = w12.drewN nq := ⟨_, rfl⟩
          rw [← hw13]
          have hM13 : Mk w13 C k m L N r (.slice (some ⟨g, 0, none⟩) Mi N) T K Value.nilFunc Value.nilFunc := by rw [hw13]; exact HM12.out
          have hF13 : Fix w1 T K C w13 := by rw [hw13]; exact HF12.out.no ((Chg.refl _ _).drewN _)
          have hO13 : Own w13 88 g (nv .u16 (els Mi)) (List.replicate (N - Mi) (.int .u16 0)) := by rw [hw13]; exact HO12.out.drewN _
          have hB13 : Own w13 88 gb (nv .u16 basisList) restb := by rw [hw13]; exact HOB.out.drewN _
          have HM13 := hid hM13
          have HF13 := hid hF13
          have HO13 := hid hO13
          have HB13 := hid hB13
          clear hw13 hM13 hF13 hO13 hB13 HM12 HF12 HO12 HOB c5 hbc
          go_loopw [100] (fun i wr => ∃ j : Nat, j ≤ Mi ∧ i = .int .i64 (j : Int) ∧ Mk wr C k m L N r (.slice (some ⟨g, 0, none⟩) (Mi + j) N) T K Value.nilFunc Value.nilFunc ∧ Fix w1 T K C wr ∧ Own wr 88 g (nv .u16 (els (Mi + j))) (List.replicate (N - (Mi + j)) (.int .u16 0)) ∧ Own wr 88 gb (nv .u16 basisList) restb) (fun i _ => Mi - (intOf i).toNat)
          case atStart => exact ⟨0, by omega, rfl, HM13.out, HF13.out, HO13.out, HB13.out⟩
          case round =>
            clear HM13 HF13 HO13 HB13
            obtain ⟨j, hj, rfl, hM14, hF14, hO14, hB14⟩ := hrel
            obtain ⟨w14, rfl⟩ : ∃ w14 : World, w14 = wr := ⟨_, rfl⟩
            have HM14 := hid hM14
            have HF14 := hid hF14
            have HO14 := hid hO14
            have HB14 := hid hB14
            clear hM14 hF14 hO14 hB14
            by_cases hjl : j < Mi
            · have hcj := HO14.out.nat (i := j) (by rw [els_length]; omega)
              rw [gn_els _ _ (by omega)] at hcj
              have hel := HT.out j hjl
              have hes := els_succ (Mi + j)
              rw [hel] at hes
              have hlx := el_lt j
              have HES := hid hes
              clear hel hes
              generalize el j = x at *
              have hxor := Go.u16_xor_nat bk x hbl hlx
              have HXC : Hid (bk ^^^ x = x ^^^ bk) := hid (Nat.xor_comm _ _)
              have c5 := HM14.out.c5
              go_wp2_with (first
                | (at_builtin; go_must ((with_reducible refine wpList_appRoom (HO14.out.alloc (.cells #[.int .u16 ((bk ^^^ x : Nat) : Int)] 88)) ⟨w14.heap.size, 0, none⟩ [.int .u16 ((bk ^^^ x : Nat) : Int)] ?_ (Mi + j) N 1 1 ?_ ?_ ?_ ?_ ?_ ?_ ?_ ?_ ?_); exact (Own.lit1 w14 88 (.int .u16 ((bk ^^^ x : Nat) : Int))).addCell; exact ⟨rfl, rfl⟩; (simp [els_length]); rfl; (simp; omega); (simp; omega); exact Tryz.underlying58; kernel_rfl; (intro u hu; simp at hu; subst hu; rfl); intro W6 hO6 hC6)
                   have hCA : Chg (AtC C) w14 W6 := (Chg.refl (AtC C) w14).allocOnly (.inl (Nat.le_of_lt HGC.out)) hC6
                   have hCG : Chg (Only g) w14 W6 := (Chg.refl (Only g) w14).allocOnly (.inl rfl) hC6
                   have hM15 := HM14.out.kept hCG (by have := HGC.out; simp only [Only]; omega)
                   have hB15 := HB14.out.kept hCG (by simp only [Only]; omega)
                   have hF15 := HF14.out.step hCA
                   have c5' := hM15.c5
                   have f5' := hM15.fr 5
                   have HO15 := hid hO6
                   have HM15 := hid hM15
                   have HB15 := hid hB15
                   have HF15 := hid hF15
                   clear hO6 hC6 hCA hCG hM15 hB15 hF15 c5)
                | ((with_reducible refine wpList_st ⟨C, 5, none⟩ (.slice (some ⟨g, 0, none⟩) (Mi + j + 1) N) c5' f5' ?_ ?_ ?_ ?_); exact ⟨rfl, rfl⟩; kernel_rfl; rfl; intro W7 hW7
                   have hM16 : Mk W7 C k m L N r (.slice (some ⟨g, 0, none⟩) (Mi + (j + 1)) N) T K Value.nilFunc Value.nilFunc := by rw [hW7]; exact HM15.out.s5 _
                   have hF16 : Fix w1 T K C W7 := by rw [hW7]; exact HF15.out.set (a := ⟨C, 5, none⟩) (Nat.le_refl _) _
                   have hB16 : Own W7 88 gb (nv .u16 basisList) restb := by rw [hW7]; exact HB15.out.setOther (a := ⟨C, 5, none⟩) (by have := HGC.out; show gb ≠ C; omega) _
                   have hO16 : Own W7 88 g (nv .u16 (els (Mi + (j + 1)))) (List.replicate (N - (Mi + (j + 1))) (.int .u16 0)) := by
                     rw [hW7, show Mi + (j + 1) = Mi + j + 1 from rfl, HES.out, ← HXC.out]
                     refine (HO15.out.gw ?_).setOther (a := ⟨C, 5, none⟩) (by have := HGC.out; show g ≠ C; omega) _
                     rw [nv_append, List.drop_replicate, show N - (Mi + j) - 1 = N - (Mi + j + 1) from by omega]
                     rfl
                   have HM16 := hid hM16
                   have HF16 := hid hF16
                   have HB16 := hid hB16
                   have HO16 := hid hO16
                   clear hW7 hM16 hF16 hB16 hO16 c5' f5'))
              go_roundw
              case rel => exact ⟨j + 1, by omega, by go_num, HM16.out, HF16.out, HO16.out, HB16.out⟩
              case measure => simp [intOf]; omega
            · have hje : Mi + j = 2 * Mi := by omega
              have hM15 : Mk w14 C k m L N r (.slice (some ⟨g, 0, none⟩) (2 ^ (i + 1)) N) T K Value.nilFunc Value.nilFunc := by rw [HPS.out, ← hje]; exact HM14.out
              have hO15 : Own w14 88 g (nv .u16 (els (2 ^ (i + 1)))) (List.replicate (N - 2 ^ (i + 1)) (.int .u16 0)) := by rw [HPS.out, ← hje]; exact HO14.out
              have HM15 := hid hM15
              have HO15 := hid hO15
              clear hM15 hO15 hje
              go_wp2_with fail
              go_roundw
              case rel => exact ⟨i + 1, by omega, by go_num, HM15.out, HF14.out, HO15.out, HB14.out⟩
              case measure => simp [intOf]; omega
        · have hie : i = r := by omega
          have hpe := HPE.out i hie
          have hM13 := HM12.out
          have hO13 := HO12.out
          rw [hpe] at hM13 hO13
          have c8 := hM13.c8
          have f8 := hM13.fr 8
          have HM13 := hid hM13
          have HO13 := hid hO13
          have HSG : Hid (∀ i, g ≠ (⟨C, i, none⟩ : Addr).block) := hid (fun i => by have := HGC.out; show g ≠ C; omega)
          clear hie hpe hM13 hO13 HPW2 HPE HM12 HO12
          go_wp2_with (first
            | ((with_reducible refine wpList_st ⟨C, 8, none⟩ (parF false C) c8 f8 ?_ ?_ ?_ ?_); exact ⟨rfl, rfl⟩; kernel_rfl; rfl; intro W7 hW7
               have hM16 : Mk W7 C k m L N r (.slice (some ⟨g, 0, none⟩) N N) T K (parF false C) Value.nilFunc := by rw [hW7]; exact HM13.out.s8 _
               have hF16 : Fix w1 T K C W7 := by rw [hW7]; exact HF12.out.set (a := ⟨C, 8, none⟩) (Nat.le_refl _) _
               have hO16 := HO13.out.setOther (HSG.out 8) (parF false C)
               rw [← hW7] at hO16
               have c9 := hM16.c9
               have f9 := hM16.fr 9
               have HM16 := hid hM16
               have HF16 := hid hF16
               have HO16 := hid hO16
               clear hW7 hM16 hF16 hO16 c8 f8)
            | ((with_reducible refine wpList_st ⟨C, 9, none⟩ (givF false C) c9 f9 ?_ ?_ ?_ ?_); exact ⟨rfl, rfl⟩; kernel_rfl; rfl; intro W8 hW8
               have hM17 : Mk W8 C k m L N r (.slice (some ⟨g, 0, none⟩) N N) T K (parF false C) (givF false C) := by rw [hW8]; exact HM16.out.s9 _
               have hF17 : Fix w1 T K C W8 := by rw [hW8]; exact HF16.out.set (a := ⟨C, 9, none⟩) (Nat.le_refl _) _
               have hO17 := HO16.out.setOther (HSG.out 9) (givF false C)
               rw [← hW8] at hO17
               have c8' := hM17.c8
               have f8' := hM17.fr 8
               have HM17 := hid hM17
               have HF17 := hid hF17
               have HO17 := hid hO17
               clear hW8 hM17 hF17 hO17 c9 f9))
          have hown : Own W8 81 C (cdCells false C k m r g T K) [] := by
            have h1 := HCD.out g T K
            unfold Mk at HM17
            have h2 := HM17.out
            rw [← h1]
            exact h2
          have hws : Own W8 88 g (nv .u16 (els N)) [] := by
            have h2 := HO17.out
            rw [Nat.sub_self] at h2
            exact h2
          have hcd : Cd W8 false C k m (mu (p2 m + k)) g T K := by
            rw [HLL.out, HEE.out, ← HRE.out]
            exact ⟨HPRM.out, by rw [HRE.out, HLL.out, HEE.out], hown, by rw [HNN.out]; exact hws, HF17.out.tab, HF17.out.kern⟩
          have HCDD := hid hcd
          clear hown hws hcd HCD
          go_ret2
          unfold NewPost
          exact ⟨C, g, T, K, rfl, HCDD.out, HF17.out.hC, by have := HF17.out.hC; have := HGC.out; omega, HT0.out, Nat.le_trans HT0.out HTK.out, HF17.out.chg⟩
set_option maxRecDepth 100000 in
set_option maxHeartbeats 6400000 in
theorem fNew_fast (k m : Nat) (h : prm k (m : Int)) (w : World) :
    Calls Tryz.prog 34 #[.int .i64 4, .int .i64 (k : Int), .int .i64 (m : Int)] w (NewPost true k m w) := by
  have HP := hid (Params_yes k m h w)
  have HPRM := hid h
  obtain ⟨h1, h2, h3, h4, h5⟩ := h
  rw [Int.toNat_natCast] at h5
  have HPW := hid (fun w => Pow2_yes m (by omega) (by omega) w)
  have hL1 := p2_pos m
  go_enter Tryz.func34, Tryz.ntmps34
  go_wp2_with fail
  refine HP.out.mono ?_
  rintro e w1 ⟨rfl, rfl⟩
  go_wp2_with fail
  refine (New_calls w1).mono ?_
  rintro e w2 ⟨rfl, hT, hC⟩
  have HT := hid hT
  have HC := hid hC
  clear hT hC
  go_wp2_with fail
  refine (pNew_calls w2).mono ?_
  rintro e w3 ⟨rfl, hK, hC3⟩
  have HK := hid hK
  have HC3 := hid (HC.out.trans hC3)
  have HT3 := hid (HT.out.keptNo hC3)
  clear hK hC3 HT
  go_wp2_with fail
  have hM : Mk (w3.alloc (.cells #[.int .i64 (k : Int), .int .i64 (m : Int), .int .i64 0, .int .i64 1, .int .i64 0, .slice none 0 0, .pointer (some ⟨w1.heap.size, 0, none⟩), .pointer (some ⟨w2.heap.size, 0, none⟩), Value.nilFunc, Value.nilFunc] 81)) w3.heap.size k m 0 1 0 (.slice none 0 0) w1.heap.size w2.heap.size Value.nilFunc Value.nilFunc := heap_alloc_new w3 _
  obtain ⟨w4, hw4⟩ : ∃ w4, w4 = (w3.alloc (.cells #[.int .i64 (k : Int), .int .i64 (m : Int), .int .i64 0, .int .i64 1, .int .i64 0, .slice none 0 0, .pointer (some ⟨w1.heap.size, 0, none⟩), .pointer (some ⟨w2.heap.size, 0, none⟩), Value.nilFunc, Value.nilFunc] 81)) := ⟨_, rfl⟩
  rw [← hw4] at hM ⊢
  have hF4 : Fix w1 w1.heap.size w2.heap.size w3.heap.size w4 := by
    rw [hw4]
    exact ⟨HT3.out.keptNo ((Chg.refl _ _).alloc _), ((Chg.refl No w3).alloc _).kept HK.out id, HC3.out.alloc _, TabAt.lt HT3.out, (Array.getElem?_eq_some_iff.1 HK.out).1, HC3.out.size, by simp⟩
  have HF4 := hid hF4
  have HTK : Hid (w1.heap.size ≤ w2.heap.size) := hid HC.out.size
  clear hw4 hF4 HK HC3 HT3 HC
  have HT0 : Hid (w1.heap.size ≤ w1.heap.size) := hid (Nat.le_refl _)
  obtain ⟨T, hT⟩ : ∃ T, w1.heap.size = T := ⟨_, rfl⟩
  have HT0 : Hid (w1.heap.size ≤ T) := hid (Nat.le_of_eq hT)
  rw [hT] at hM HF4 HTK ⊢
  clear hT
  generalize w2.heap.size = K at *
  generalize w3.heap.size = C at *
  refine (HPW.out _).mono ?_
  rintro e w5 ⟨rfl, rfl⟩
  have c2 := hM.c2
  have f2 := hM.fr 2
  have HM := hid hM
  clear hM
  generalize (Value.agg _ : Value) = v30
  go_wp2_with fail
  obtain ⟨w6, hw6⟩ : ∃ w6, w6 = w5.setCell ⟨C, 2, none⟩ (.int .i64 (p2 m : Int)) := ⟨_, rfl⟩
  rw [← hw6]
  have hM6 : Mk w6 C k m (p2 m) 1 0 (.slice none 0 0) T K Value.nilFunc Value.nilFunc := by rw [hw6]; exact HM.out.s2 _
  have hF6 : Fix w1 T K C w6 := by rw [hw6]; exact HF4.out.set (a := ⟨C, 2, none⟩) (Nat.le_refl _) _
  have HF6 := hid hF6
  clear hw6 c2 f2 HM hF6 HF4
  have hS16 : p2 m + k ≤ 65536 := h5
  have HMU := hid (fun t => @mu_iff (p2 m + k) t)
  have HM16 := hid (mu_le16 (m := p2 m + k) h5)
  generalize hee : mu (p2 m + k) = ee at *
  have HEE := hid hee
  have HL := hid (show p2 m = p2 m from rfl)
  clear hee h5
  go_loopw [50] (fun c wr => ∃ r : Nat, r ≤ ee ∧ Mk wr C k m (p2 m) (2 ^ r) r (.slice none 0 0) T K Value.nilFunc Value.nilFunc ∧ Fix w1 T K C wr) (fun _ wr => 131072 - natAt wr ⟨C, 3, none⟩)
  case atStart => exact ⟨0, by omega, hM6, HF6.out⟩
  case round =>
    obtain ⟨r, hr, hM, hF⟩ := hrel
    obtain ⟨w7, rfl⟩ : ∃ w7 : World, w7 = wr := ⟨_, rfl⟩
    have HM7 := hid hM
    have HF7 := hid hF
    have c3 := hM.c3
    have c2 := hM.c2
    have c4 := hM.c4
    have f3 := hM.fr 3
    clear hM6 hM hF
    have hb : 2 ^ r ≤ 2 ^ 16 := Nat.pow_le_pow_right (by omega) (by have := HM16.out; omega)
    have h1' : 1 ≤ 2 ^ r := Nat.one_le_two_pow
    have hi := HMU.out r
    have HS := hid (show 2 ^ (r + 1) = 2 ^ r * 2 from Nat.pow_succ 2 r)
    have hr17 : r ≤ 16 := by have := HM16.out; omega
    have HNA := hid (natAt_of c3)
    by_cases hlt : r < ee
    · have hlt2 : 2 ^ r < p2 m + k := by omega
      generalize 2 ^ r = N at *
      generalize p2 m = L at *
      have d1 : decide ((N : Int) < (L : Int) + (k : Int)) = true := by simp; omega
      have d2 : decide (N < L + k) = true := by simp; omega
      have e1 : IntKind.i64.wrap ((L : Int) + (k : Int)) = (L : Int) + (k : Int) := IntWalk.i64_in _ (by omega)
      clear hi hlt2
      go_wp2_with fail
      go_quiet (fail)
      obtain ⟨w8, hw8⟩ : ∃ w8, w8 = w7.drewN nq := ⟨_, rfl⟩
      rw [← hw8]
      have hM8 : Mk w8 C k m L N r (.slice none 0 0) T K Value.nilFunc Value.nilFunc := by rw [hw8]; exact HM7.out
      have hF8 : Fix w1 T K C w8 := by rw [hw8]; exact HF7.out.no ((Chg.refl _ _).drewN _)
      have c3 := hM8.c3
      have f3 := hM8.fr 3
      have HM8 := hid hM8
      have HF8 := hid hF8
      clear hw8 hM8 hF8 HM7 HF7 c2 c4
      go_wp2_with (first
        | ((with_reducible refine wpList_st ⟨C, 3, none⟩ (.int .i64 ((N : Int) * 2)) c3 f3 ?_ ?_ ?_ ?_); exact ⟨rfl, rfl⟩; kernel_rfl; rfl; intro W1 hW1
           have hM9 : Mk W1 C k m L (N * 2) r (.slice none 0 0) T K Value.nilFunc Value.nilFunc := by
             rw [hW1]
             have := HM8.out.s3 (N * 2)
             simpa using this
           have hF9 : Fix w1 T K C W1 := by rw [hW1]; exact HF8.out.set (a := ⟨C, 3, none⟩) (Nat.le_refl _) _
           have c4 := hM9.c4
           have f4 := hM9.fr 4
           have HM9 := hid hM9
           have HF9 := hid hF9
           clear hW1 hM9 hF9 c3 f3)
        | ((with_reducible refine wpList_st ⟨C, 4, none⟩ (.int .i64 ((r : Int) + 1)) c4 f4 ?_ ?_ ?_ ?_); exact ⟨rfl, rfl⟩; kernel_rfl; rfl; intro W2 hW2
           have hM10 : Mk W2 C k m L (N * 2) (r + 1) (.slice none 0 0) T K Value.nilFunc Value.nilFunc := by
             rw [hW2]
             have := HM9.out.s4 (r + 1)
             simpa using this
           have hF10 : Fix w1 T K C W2 := by rw [hW2]; exact HF9.out.set (a := ⟨C, 4, none⟩) (Nat.le_refl _) _
           have HM10 := hid hM10
           have HF10 := hid hF10
           clear hW2 hM10 hF10 c4 f4))
      have HNB := hid (natAt_of HM10.out.c3)
      go_roundw
      case rel => exact ⟨r + 1, by omega, by rw [HS.out]; exact HM10.out, HF10.out⟩
      case measure => rw [HNA.out, HNB.out]; omega
    · have hre : r = ee := by omega
      have hge : p2 m + k ≤ 2 ^ r := by
        have := hi.1 (by omega); exact this
      have HRE := hid hre
      have hr16 : r ≤ 16 := by have := HM16.out; omega
      have HPW2 := hid (fun (i : Nat) (h : i < r) => (show 2 * 2 ^ i ≤ 2 ^ r from by
        rw [← Nat.pow_succ']; exact Nat.pow_le_pow_right (by omega) h))
      have HPE := hid (fun (i : Nat) (h : i = r) => (show 2 ^ i = 2 ^ r by rw [h]))
      have HCD := hid (mk_cd true C k m r)
      generalize hNN : 2 ^ r = N at *
      have HNN := hid hNN
      generalize hLL : p2 m = L at *
      have d1 : decide ((N : Int) < (L : Int) + (k : Int)) = false := by simp; omega
      have d2 : decide (N < L + k) = false := by simp; omega
      have e1 : IntKind.i64.wrap ((L : Int) + (k : Int)) = (L : Int) + (k : Int) := IntWalk.i64_in _ (by omega)
      have HLL := hid hLL
      clear hi hre hNN hLL hlt HNA
      go_wp2_with fail
      go_quiet (fail)
      obtain ⟨w8, hw8⟩ : ∃ w8, w8 = w7.drewN nq := ⟨_, rfl⟩
      rw [← hw8]
      have hM8 : Mk w8 C k m L N r (.slice none 0 0) T K Value.nilFunc Value.nilFunc := by rw [hw8]; exact HM7.out
      have hF8 : Fix w1 T K C w8 := by rw [hw8]; exact HF7.out.no ((Chg.refl _ _).drewN _)
      have c3 := hM8.c3
      have HM8 := hid hM8
      have HF8 := hid hF8
      clear hw8 hM8 hF8 HM7 HF7 c2 c4 f3
      go_wp2_with (first
        | (at_make; go_must ((with_reducible refine wpList_mk1 88 (.int .u16 0) 2 1 N ?_ ?_ ?_ ?_ ?_ ?_ ?_ ?_); exact ⟨rfl, rfl⟩; exact Tryz.underlying58; kernel_rfl; rfl; omega; omega; (unfold maxLen; omega); intro W1 hO1 hC1 hs1)
           have hM9 := HM8.out.kept hC1 id
           have hF9 := HF8.out.no hC1
           have c5 := hM9.c5
           have f5 := hM9.fr 5
           have HO9 := hid hO1
           have HM9 := hid hM9
           have HF9 := hid hF9
           clear hO1 hC1 hM9 hF9 hs1)
        | ((with_reducible refine wpList_st ⟨C, 5, none⟩ (.slice (some ⟨w8.heap.size, 0, none⟩) 1 N) c5 f5 ?_ ?_ ?_ ?_); exact ⟨rfl, rfl⟩; kernel_rfl; rfl; intro W2 hW2
           have hM10 : Mk W2 C k m L N r (.slice (some ⟨w8.heap.size, 0, none⟩) 1 N) T K Value.nilFunc Value.nilFunc := by rw [hW2]; exact HM9.out.s5 _
           have hF10 : Fix w1 T K C W2 := by rw [hW2]; exact HF9.out.set (a := ⟨C, 5, none⟩) (Nat.le_refl _) _
           have hO10 : Own W2 88 w8.heap.size (nv .u16 (els 1)) (List.replicate (N - 1) (.int .u16 0)) := by
             rw [hW2]; exact HO9.out.setOther (a := ⟨C, 5, none⟩) (by have := HF8.out.lt; show w8.heap.size ≠ C; omega) _
           have hgC : C < w8.heap.size := HF8.out.lt
           have HM10 := hid hM10
           have HF10 := hid hF10
           have HO10 := hid hO10
           clear hW2 hM10 hF10 hO10 c5 f5))
      generalize w8.heap.size = g at *
      have r0 : (0 : Int) ≤ (r : Int) := by omega
      have r1 : (r : Int) ≤ 16 := by omega
      have c4 := HM10.out.c4
      go_region_held3 (fun w' => w'.cell? ⟨C, 4, none⟩ = some (.int .i64 (r : Int)))
        (first
          | go_keep
          | (exact hCB.cell (by assumption) id))
        (first | (go_at_call 62; refine (Basis_full _).mono ?_; rintro e w11 ⟨gb, capb, restb, hcb, rfl, hOB, hgb, hCB⟩; have hcb2 : (r : Int) ≤ (capb : Int) := (by omega); have HCB := hid hcb; clear hcb))
      have hM11 := (HM10.out.kept ((Chg.refl No W2).drew) id).kept hCB id
      have hF11 := (HF10.out.no ((Chg.refl No W2).drew)).no hCB
      have hO11 := (HO10.out.drew).keptNo hCB
      have hgb2 : g < gb := Nat.lt_of_lt_of_le HO10.out.lt hgb
      have HOB := hid hOB
      have HM11 := hid hM11
      have HF11 := hid hF11
      have HO11 := hid hO11
      have HGC : Hid (C < g) := hid hgC
      clear hM11 hF11 hO11 hOB hCB hgb c4 c3 HM10 HF10 HO10 HM9 HF9 HO9 HM8 HF8
      have hN16 : N ≤ 65536 := hb
      go_wp2_with fail
      go_loopw [80] (fun i wr => ∃ i' : Nat, i' ≤ r ∧ i = .int .i64 (i' : Int) ∧ Mk wr C k m L N r (.slice (some ⟨g, 0, none⟩) (2 ^ i') N) T K Value.nilFunc Value.nilFunc ∧ Fix w1 T K C wr ∧ Own wr 88 g (nv .u16 (els (2 ^ i'))) (List.replicate (N - 2 ^ i') (.int .u16 0)) ∧ Own wr 88 gb (nv .u16 basisList) restb) (fun i _ => r - (intOf i).toNat)
      case atStart => exact ⟨0, by omega, rfl, HM11.out, HF11.out, HO11.out, HOB.out⟩
      case round =>
        clear HM11 HF11 HO11 HOB
        obtain ⟨i, hi, rfl, hM12, hF12, hO12, hOB⟩ := hrel
        obtain ⟨w12, rfl⟩ : ∃ w12 : World, w12 = wr := ⟨_, rfl⟩
        have HM12 := hid hM12
        have HF12 := hid hF12
        have HO12 := hid hO12
        have HOB := hid hOB
        clear hM12 hF12 hO12 hOB
        by_cases hir : i < r
        · have hpw := HPW2.out i hir
          have HT := hid (fun j (h : j < 2 ^ i) => el_top (i := i) h (by omega))
          have hM0 : 1 ≤ 2 ^ i := Nat.one_le_two_pow
          have HPS : Hid (2 ^ (i + 1) = 2 * 2 ^ i) := hid (by rw [Nat.pow_succ]; omega)
          have hbc := HOB.out.nat (i := i) (by simp [basisList]; omega)
          have hgn : gn basisList i = bas i := rfl
          have HGN := hid hgn
          rw [hgn] at hbc
          have hbl := bas_lt i
          clear hgn
          generalize bas i = bk at *
          obtain ⟨Mi, hMi⟩ : ∃ Mi, 2 ^ i = Mi := ⟨_, rfl⟩
          rw [hMi] at hpw HT hM0 HPS HM12 HO12
          have HMI := hid hMi
          clear hMi
          have c5 := HM12.out.c5
          have mi0 : (0 : Int) ≤ (Mi : Int) := by omega
          have mi1 : (Mi : Int) ≤ (N : Int) := by omega
          go_wp2_with fail
          go_quiet (fail)
          go_wp2_with fail
          obtain ⟨w13, hw13⟩ : ∃ w13, w13 = w12.drewN nq := ⟨_, rfl⟩
          rw [← hw13]
          have hM13 : Mk w13 C k m L N r (.slice (some ⟨g, 0, none⟩) Mi N) T K Value.nilFunc Value.nilFunc := by rw [hw13]; exact HM12.out
          have hF13 : Fix w1 T K C w13 := by rw [hw13]; exact HF12.out.no ((Chg.refl _ _).drewN _)
          have hO13 : Own w13 88 g (nv .u16 (els Mi)) (List.replicate (N - Mi) (.int .u16 0)) := by rw [hw13]; exact HO12.out.drewN _
          have hB13 : Own w13 88 gb (nv .u16 basisList) restb := by rw [hw13]; exact HOB.out.drewN _
          have HM13 := hid hM13
          have HF13 := hid hF13
          have HO13 := hid hO13
          have HB13 := hid hB13
          clear hw13 hM13 hF13 hO13 hB13 HM12 HF12 HO12 HOB c5 hbc
          go_loopw [100] (fun i wr => ∃ j : Nat, j ≤ Mi ∧ i = .int .i64 (j : Int) ∧ Mk wr C k m L N r (.slice (some ⟨g, 0, none⟩) (Mi + j) N) T K Value.nilFunc Value.nilFunc ∧ Fix w1 T K C wr ∧ Own wr 88 g (nv .u16 (els (Mi + j))) (List.replicate (N - (Mi + j)) (.int .u16 0)) ∧ Own wr 88 gb (nv .u16 basisList) restb) (fun i _ => Mi - (intOf i).toNat)
          case atStart => exact ⟨0, by omega, rfl, HM13.out, HF13.out, HO13.out, HB13.out⟩
          case round =>
            clear HM13 HF13 HO13 HB13
            obtain ⟨j, hj, rfl, hM14, hF14, hO14, hB14⟩ := hrel
            obtain ⟨w14, rfl⟩ : ∃ w14 : World, w14 = wr := ⟨_, rfl⟩
            have HM14 := hid hM14
            have HF14 := hid hF14
            have HO14 := hid hO14
            have HB14 := hid hB14
            clear hM14 hF14 hO14 hB14
            by_cases hjl : j < Mi
            · have hcj := HO14.out.nat (i := j) (by rw [els_length]; omega)
              rw [gn_els _ _ (by omega)] at hcj
              have hel := HT.out j hjl
              have hes := els_succ (Mi + j)
              rw [hel] at hes
              have hlx := el_lt j
              have HES := hid hes
              clear hel hes
              generalize el j = x at *
              have hxor := Go.u16_xor_nat bk x hbl hlx
              have HXC : Hid (bk ^^^ x = x ^^^ bk) := hid (Nat.xor_comm _ _)
              have c5 := HM14.out.c5
              go_wp2_with (first
                | (at_builtin; go_must ((with_reducible refine wpList_appRoom (HO14.out.alloc (.cells #[.int .u16 ((bk ^^^ x : Nat) : Int)] 88)) ⟨w14.heap.size, 0, none⟩ [.int .u16 ((bk ^^^ x : Nat) : Int)] ?_ (Mi + j) N 1 1 ?_ ?_ ?_ ?_ ?_ ?_ ?_ ?_ ?_); exact (Own.lit1 w14 88 (.int .u16 ((bk ^^^ x : Nat) : Int))).addCell; exact ⟨rfl, rfl⟩; (simp [els_length]); rfl; (simp; omega); (simp; omega); exact Tryz.underlying58; kernel_rfl; (intro u hu; simp at hu; subst hu; rfl); intro W6 hO6 hC6)
                   have hCA : Chg (AtC C) w14 W6 := (Chg.refl (AtC C) w14).allocOnly (.inl (Nat.le_of_lt HGC.out)) hC6
                   have hCG : Chg (Only g) w14 W6 := (Chg.refl (Only g) w14).allocOnly (.inl rfl) hC6
                   have hM15 := HM14.out.kept hCG (by have := HGC.out; simp only [Only]; omega)
                   have hB15 := HB14.out.kept hCG (by simp only [Only]; omega)
                   have hF15 := HF14.out.step hCA
                   have c5' := hM15.c5
                   have f5' := hM15.fr 5
                   have HO15 := hid hO6
                   have HM15 := hid hM15
                   have HB15 := hid hB15
                   have HF15 := hid hF15
                   clear hO6 hC6 hCA hCG hM15 hB15 hF15 c5)
                | ((with_reducible refine wpList_st ⟨C, 5, none⟩ (.slice (some ⟨g, 0, none⟩) (Mi + j + 1) N) c5' f5' ?_ ?_ ?_ ?_); exact ⟨rfl, rfl⟩; kernel_rfl; rfl; intro W7 hW7
                   have hM16 : Mk W7 C k m L N r (.slice (some ⟨g, 0, none⟩) (Mi + (j + 1)) N) T K Value.nilFunc Value.nilFunc := by rw [hW7]; exact HM15.out.s5 _
                   have hF16 : Fix w1 T K C W7 := by rw [hW7]; exact HF15.out.set (a := ⟨C, 5, none⟩) (Nat.le_refl _) _
                   have hB16 : Own W7 88 gb (nv .u16 basisList) restb := by rw [hW7]; exact HB15.out.setOther (a := ⟨C, 5, none⟩) (by have := HGC.out; show gb ≠ C; omega) _
                   have hO16 : Own W7 88 g (nv .u16 (els (Mi + (j + 1)))) (List.replicate (N - (Mi + (j + 1))) (.int .u16 0)) := by
                     rw [hW7, show Mi + (j + 1) = Mi + j + 1 from rfl, HES.out, ← HXC.out]
                     refine (HO15.out.gw ?_).setOther (a := ⟨C, 5, none⟩) (by have := HGC.out; show g ≠ C; omega) _
                     rw [nv_append, List.drop_replicate, show N - (Mi + j) - 1 = N - (Mi + j + 1) from by omega]
                     rfl
                   have HM16 := hid hM16
                   have HF16 := hid hF16
                   have HB16 := hid hB16
                   have HO16 := hid hO16
                   clear hW7 hM16 hF16 hB16 hO16 c5' f5'))
              go_roundw
              case rel => exact ⟨j + 1, by omega, by go_num, HM16.out, HF16.out, HO16.out, HB16.out⟩
              case measure => simp [intOf]; omega
            · have hje : Mi + j = 2 * Mi := by omega
              have hM15 : Mk w14 C k m L N r (.slice (some ⟨g, 0, none⟩) (2 ^ (i + 1)) N) T K Value.nilFunc Value.nilFunc := by rw [HPS.out, ← hje]; exact HM14.out
              have hO15 : Own w14 88 g (nv .u16 (els (2 ^ (i + 1)))) (List.replicate (N - 2 ^ (i + 1)) (.int .u16 0)) := by rw [HPS.out, ← hje]; exact HO14.out
              have HM15 := hid hM15
              have HO15 := hid hO15
              clear hM15 hO15 hje
              go_wp2_with fail
              go_roundw
              case rel => exact ⟨i + 1, by omega, by go_num, HM15.out, HF14.out, HO15.out, HB14.out⟩
              case measure => simp [intOf]; omega
        · have hie : i = r := by omega
          have hpe := HPE.out i hie
          have hM13 := HM12.out
          have hO13 := HO12.out
          rw [hpe] at hM13 hO13
          have c8 := hM13.c8
          have f8 := hM13.fr 8
          have HM13 := hid hM13
          have HO13 := hid hO13
          have HSG : Hid (∀ i, g ≠ (⟨C, i, none⟩ : Addr).block) := hid (fun i => by have := HGC.out; show g ≠ C; omega)
          clear hie hpe hM13 hO13 HPW2 HPE HM12 HO12
          go_wp2_with (first
            | ((with_reducible refine wpList_st ⟨C, 8, none⟩ (parF false C) c8 f8 ?_ ?_ ?_ ?_); exact ⟨rfl, rfl⟩; kernel_rfl; rfl; intro W7 hW7
               have hM16 : Mk W7 C k m L N r (.slice (some ⟨g, 0, none⟩) N N) T K (parF false C) Value.nilFunc := by rw [hW7]; exact HM13.out.s8 _
               have hF16 : Fix w1 T K C W7 := by rw [hW7]; exact HF12.out.set (a := ⟨C, 8, none⟩) (Nat.le_refl _) _
               have hO16 := HO13.out.setOther (HSG.out 8) (parF false C)
               rw [← hW7] at hO16
               have c9 := hM16.c9
               have f9 := hM16.fr 9
               have HM16 := hid hM16
               have HF16 := hid hF16
               have HO16 := hid hO16
               clear hW7 hM16 hF16 hO16 c8 f8)
            | ((with_reducible refine wpList_st ⟨C, 9, none⟩ (givF false C) c9 f9 ?_ ?_ ?_ ?_); exact ⟨rfl, rfl⟩; kernel_rfl; rfl; intro W8 hW8
               have hM17 : Mk W8 C k m L N r (.slice (some ⟨g, 0, none⟩) N N) T K (parF false C) (givF false C) := by rw [hW8]; exact HM16.out.s9 _
               have hF17 : Fix w1 T K C W8 := by rw [hW8]; exact HF16.out.set (a := ⟨C, 9, none⟩) (Nat.le_refl _) _
               have hO17 := HO16.out.setOther (HSG.out 9) (givF false C)
               rw [← hW8] at hO17
               have c8' := hM17.c8
               have f8' := hM17.fr 8
               have HM17 := hid hM17
               have HF17 := hid hF17
               have HO17 := hid hO17
               clear hW8 hM17 hF17 hO17 c9 f9)
            | ((with_reducible refine wpList_st ⟨C, 8, none⟩ (parF true C) c8' f8' ?_ ?_ ?_ ?_); exact ⟨rfl, rfl⟩; kernel_rfl; rfl; intro W9 hW9
               have hM18 : Mk W9 C k m L N r (.slice (some ⟨g, 0, none⟩) N N) T K (parF true C) (givF false C) := by rw [hW9]; exact HM17.out.s8 _
               have hF18 : Fix w1 T K C W9 := by rw [hW9]; exact HF17.out.set (a := ⟨C, 8, none⟩) (Nat.le_refl _) _
               have hO18 := HO17.out.setOther (HSG.out 8) (parF true C)
               rw [← hW9] at hO18
               have c9' := hM18.c9
               have f9' := hM18.fr 9
               have HM18 := hid hM18
               have HF18 := hid hF18
               have HO18 := hid hO18
               clear hW9 hM18 hF18 hO18 c8' f8')
            | ((with_reducible refine wpList_st ⟨C, 9, none⟩ (givF true C) c9' f9' ?_ ?_ ?_ ?_); exact ⟨rfl, rfl⟩; kernel_rfl; rfl; intro W10 hW10
               have hM19 : Mk W10 C k m L N r (.slice (some ⟨g, 0, none⟩) N N) T K (parF true C) (givF true C) := by rw [hW10]; exact HM18.out.s9 _
               have hF19 : Fix w1 T K C W10 := by rw [hW10]; exact HF18.out.set (a := ⟨C, 9, none⟩) (Nat.le_refl _) _
               have hO19 := HO18.out.setOther (HSG.out 9) (givF true C)
               rw [← hW10] at hO19
               have HM19 := hid hM19
               have HF19 := hid hF19
               have HO19 := hid hO19
               clear hW10 hM19 hF19 hO19 c9' f9'))
          have hown : Own W10 81 C (cdCells true C k m r g T K) [] := by
            have h1 := HCD.out g T K
            unfold Mk at HM19
            have h2 := HM19.out
            rw [← h1]
            exact h2
          have hws : Own W10 88 g (nv .u16 (els N)) [] := by
            have h2 := HO19.out
            rw [Nat.sub_self] at h2
            exact h2
          have hcd : Cd W10 true C k m (mu (p2 m + k)) g T K := by
            rw [HLL.out, HEE.out, ← HRE.out]
            exact ⟨HPRM.out, by rw [HRE.out, HLL.out, HEE.out], hown, by rw [HNN.out]; exact hws, HF19.out.tab, HF19.out.kern⟩
          have HCDD := hid hcd
          clear hown hws hcd HCD
          go_ret2
          unfold NewPost
          exact ⟨C, g, T, K, rfl, HCDD.out, HF19.out.hC, by have := HF19.out.hC; have := HGC.out; omega, HT0.out, Nat.le_trans HT0.out HTK.out, HF19.out.chg⟩
end Go.Proofs.YtpnmmedjamkmeaaGreat
