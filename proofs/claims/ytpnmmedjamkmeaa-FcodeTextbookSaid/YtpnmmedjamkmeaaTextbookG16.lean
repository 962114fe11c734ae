/- Walks of Interpolate and Word. -/
import Derived.Maps.OwnOps
import Derived.Maps.Views
import Derived.ArgAppend
import Derived.Test.YtpnmmedjamkmeaaTextbookG15
import Derived.Test.YtpnmmedjamkmeaaTextbookG8
import Derived.Test.YtpnmmedjamkmeaaTextbookG12
import Derived.Test.YtpnmmedjamkmeaaTextbookG4
set_option linter.unusedSimpArgs false
set_option linter.unusedVariables false
set_option linter.unusedSimpArgs false
namespace Go.Proofs.Ytpnmmedjamkmeaa
open Go.RowKit Go.Maps

theorem klaw : Keyed Try.prog 32 := int_keyed Try.underlying32
theorem zeroI (w : World) : (zeroValue 3).run Try.prog w = .ok (.int .i64 0) w := by kernel_rfl
/-- A number as a key. -/
def ky (n : Nat) : Lit := .int .u16 (n : Int)
/-- The map of the first k numbers, each seen once. -/
def seen (xs : List Nat) (k : Nat) : DataW Unit := setOf (.lit (.int .i64 1)) ((xs.take k).map ky)
theorem ky_inj {a b : Nat} (h : ky a = ky b) : a = b := by
  unfold ky at h
  injection h with _ h2
  omega
theorem ky_is (n : Nat) : WideAt.IsKeyLit (ky n) := by
  unfold ky; trivial
theorem seen_zero (xs : List Nat) : seen xs 0 = .map [] := rfl
theorem seen_succ {xs : List Nat} {k : Nat} (h : k < xs.length) : seen xs (k + 1) = (seen xs k).put (ky (gn xs k)) (.lit (.int .i64 1)) := by
  unfold seen
  rw [List.take_add_one, List.getElem?_eq_getElem h, List.map_append, gn_get xs k h]
  exact setOf_snoc _ _ _
theorem seen_not {xs : List Nat} {k : Nat} (hd : ∀ i j, i < xs.length → j < xs.length → i ≠ j → gn xs i ≠ gn xs j) (h : k < xs.length) : has (seen xs k) (ky (gn xs k)) = false := by
  unfold seen
  rw [has_setOf _ _ _ (by intro x hx; obtain ⟨n, _, rfl⟩ := List.mem_map.1 hx; exact ky_is n)]
  rw [List.any_eq_false]
  intro x hx
  obtain ⟨n, hn, rfl⟩ := List.mem_map.1 hx
  obtain ⟨i, hi, rfl⟩ := List.getElem_of_mem hn
  rw [List.length_take] at hi
  rw [List.getElem_take, ← gn_get xs i (by omega)]
  rw [sameKey_ne (fun e => hd i k (by omega) h (by omega) (ky_inj e))]
  simp
theorem seen_isMap (xs : List Nat) (k : Nat) : IsMap (seen xs k) := (tidy_setOf _ _ (by intro x hx; obtain ⟨n, _, rfl⟩ := List.mem_map.1 hx; exact ky_is n)).isMap
theorem lit_inj {a b : Int} (h : (DataW.lit (.int .i64 a) : DataW Unit) = .lit (.int .i64 b)) : a = b := by
  injection h with h; injection h

def IntPost (xs vs : List Nat) (n : Nat) (w : World) (e : Ending) (w' : World) : Prop :=
  ∃ q z cap, e = .returned (.tuple #[.slice q z cap, .int .i64 0]) ∧ Trm (nwt xs vs n) z ∧ Rn w' .u16 q ((nwt xs vs n).take z) ∧ Chg No w w'
set_option maxRecDepth 100000 in
set_option maxHeartbeats 3200000 in
theorem Interpolate_calls (R n c d : Nat) (p q : Option Addr) (xs vs : List Nat) (w : World) (hR : Rng w R) (hx : Rn w .u16 p xs) (hv : Rn w .u16 q vs) (hnx : xs.length = n) (hnv : vs.length = n) (h1 : 1 ≤ n) (hm : n ≤ 1024)
    (hxb : ∀ i, gn xs i < 65536) (hvb : ∀ i, gn vs i < 65536) (hdist : ∀ i j, i < n → j < n → i ≠ j → gn xs i ≠ gn xs j) :
    Calls Try.prog 43 #[.pointer (some ⟨R, 0, none⟩), .slice p n c, .slice q n d] w (IntPost xs vs n w) := by
  have HX := hid hx
  have HNX := hid hnx
  have HRF := hid (fun G w h => prefuses_calls R G n n c d p q w h hm hm)
  have HNW := hid (fun w' (h : Chg No w w') => newton_calls R n c d p q xs vs w' (hR.keptNo h) (hx.keptNo h) (hv.keptNo h) hnx hnv h1 hm hxb hvb hdist)
  have HS0 := hid (fun k (h : k < n) => seen_succ (xs := xs) (k := k) (by omega))
  have HSN := hid (fun k (h : k < n) => seen_not (xs := xs) (k := k) (by rw [hnx]; exact hdist) (by omega))
  have HXB := hid hxb
  unfold NwtPost at HNW
  have hmm := @run_makeMap Try.prog
  clear hR hx hv hnx hnv hxb hvb hdist
  go_enter Try.func43, Try.ntmps43
  go_wp2_with fail
  refine (HRF.out _ _ (heap_alloc_new w _)).mono ?_
  rintro e w1 ⟨rfl, hw1⟩
  have hC1 : Chg No w w1 := by rw [hw1]; exact (Chg.refl _ _).alloc _
  have HC1 := hid hC1
  clear hw1 hC1 HRF
  go_wp2_with fail
  go_loopw [28] (fun i wr => ∃ k : Nat, k ≤ n ∧ i = .int .i64 (k : Int) ∧ wr.ownsMap Try.prog 32 (plainElem Try.prog 3) w1.heap.size k (seen xs k) ∧ Chg No w1 wr) (fun i _ => n - (intOf i).toNat)
  case atStart => exact ⟨0, Nat.zero_le _, rfl, World.ownsMap_made _ _ _ _, (Chg.refl _ _).alloc _⟩
  case round =>
    obtain ⟨k, hk, rfl, hown, hC⟩ := hrel
    obtain ⟨w2, rfl⟩ : ∃ w2 : World, w2 = wr := ⟨_, rfl⟩
    have HC := hid hC
    clear hC
    by_cases hlt : k < n
    · obtain ⟨b, off, rfl, hc⟩ := (HX.out.keptNo (HC1.out.trans HC.out)) k (by rw [HNX.out]; exact hlt)
      have hss := HS0.out k hlt
      have hsn := HSN.out k hlt
      have hb := HXB.out k
      have him := seen_isMap xs k
      have HSS := hid hss
      have HSNk := hid hsn
      have HIM := hid him
      have hkey : keyOf Try.prog 32 (.int .u16 (gn xs k : Int)) = some (ky (gn xs k)) := keyOf_int_mk Try.underlying32 (by
        generalize gn xs k = v at hb
        have h0 : (Lit.int .u16 (v : Int)).wf = true := by
          have e1 : IntKind.u16.min = 0 := by decide
          have e2 : IntKind.u16.max = 65535 := by decide
          simp [Lit.wf, e1, e2]
          omega
        exact h0)
      clear hss hsn him
      generalize gn xs k = v at *
      go_wp2_with (first
        | (at_lookup; refine wpList_lookup_own_int _ rfl _ _ 124 rfl 32 3 .i64 klaw Try.underlying124 Try.underlying3 (zeroI _) w1.heap.size (k + 1) _ rfl hown1 _ _ rfl hkey ?_; intro c2 hat2 hwc2; (have hc2 : c2 = 1 := lit_inj ((hat2.symm.trans (atKey_put_same HIM.out (ky_is _) _ _)))); subst hc2)
        | (at_lookup; refine wpList_lookup_own_int _ rfl _ _ 124 rfl 32 3 .i64 klaw Try.underlying124 Try.underlying3 (zeroI _) w1.heap.size k _ rfl hown _ _ rfl hkey ?_; intro c1 hat1 hwc1; (have hc1 : c1 = 0 := lit_inj (hat1.symm.trans (atKey_of_not_has HSNk.out _))); subst hc1)
        | (at_mapUpdate; refine wpList_mapUpdate_own _ rfl _ _ _ 124 rfl 32 3 klaw Try.underlying124 _ w1.heap.size k _ rfl hown (by unfold maxLen; omega) _ _ _ rfl rfl hkey _ [] (plainElem_int Try.underlying3 (by decide : (Lit.int .i64 1).wf = true)) ?_; intro w3 hown1 hgrow1))
      have hC3 : Chg No w1 w3 := HC.out.grown hgrow1 (fun j hj => by cases hj; exact .inr (Nat.le_refl _))
      go_roundw
      case rel => exact ⟨k + 1, by omega, by go_num, by rw [HSS.out]; exact hown1, hC3⟩
      case measure => simp [intOf]; omega
    · clear hown
      go_wp2_with fail
      refine (HNW.out _ (HC1.out.trans HC.out)).mono ?_
      rintro e w4 ⟨q', z, cap, rfl, hT, hRn, hC4⟩
      have hC5 : Chg No w w4 := (HC1.out.trans HC.out).trans hC4
      go_wp2_with fail
      go_ret2
      exact ⟨q', z, cap, rfl, hT, hRn, hC5⟩

theorem Word_calls (p : Option Addr) (n c t : Nat) (l : List Nat) (w : World) (hl : Rn w .u8 p l) (hn : l.length = n) (hm : n ≤ 4194304) (hb : ∀ i, gn l i < 256) (ht : 2 * t + 1 < n) :
    Calls Try.prog 42 #[.slice p n c, .int .i64 (t : Int)] w fun e w' => e = .returned (.int .u16 (wdAt l t : Int)) ∧ ∃ N, w' = w.drewN N := by
  obtain ⟨b, off, rfl, h0⟩ := hl (2 * t) (by omega)
  obtain ⟨b2, off2, he, h1⟩ := hl (2 * t + 1) (by omega)
  obtain ⟨rfl, rfl⟩ : b = b2 ∧ off = off2 := by simpa using he
  have hv : wdAt l t = wd (gn l (2 * t)) (gn l (2 * t + 1)) := rfl
  have b0 := hb (2 * t)
  have b1 := hb (2 * t + 1)
  rw [hv]
  obtain ⟨u, hu⟩ : ∃ u, u = 2 * t := ⟨_, rfl⟩
  rw [← hu] at h0 h1 b0 b1 ⊢
  generalize gn l u = x at *
  generalize gn l (u + 1) = y at *
  have hor : bits BinOp.or IntKind.u16 (x : Int) ((y : Int) * 256) = ((wd x y : Nat) : Int) := by
    have e : ((y : Int) * 256) = ((y * 256 : Nat) : Int) := by omega
    rw [e, Go.u16_or_nat x (y * 256) (by omega) (by omega)]
    unfold wd
    have := Nat.two_pow_add_eq_or_of_lt (i := 8) (show x < 2 ^ 8 by omega) y
    rw [show (2 : Nat) ^ 8 * y = y * 256 from by omega] at this
    rw [Nat.or_comm, ← this]
    congr 1; omega
  have e1 : IntKind.i64.wrap (2 * (t : Int)) = (u : Int) := by rw [IntWalk.i64_in _ (by omega)]; omega
  have e2 : IntKind.i64.wrap ((u : Int) + 1) = ((u + 1 : Nat) : Int) := by rw [IntWalk.i64_in _ (by omega)]; omega
  have n1 : u < n := by omega
  have n2 : u + 1 < n := by omega
  have n3 : (u : Int) < (n : Int) := by omega
  have n4 : (u : Int) + 1 < (n : Int) := by omega
  clear hl hb hn hu hv he ht
  go_enter Try.func42, Try.ntmps42
  go_wp2_with fail
  go_quiet (fail)
  go_wp2_with fail
  go_ret
  exact ⟨rfl, _, rfl⟩
end Go.Proofs.Ytpnmmedjamkmeaa

/- The parity is the textbook polynomial's values. -/
set_option linter.unusedVariables false
set_option linter.unusedSimpArgs false
namespace Go.Proofs.Ytpnmmedjamkmeaa

/-- The points and the values, i of them. -/
def ptl (m i : Nat) : List Nat := (List.range i).map fun i => el (p2 m + i)
def vtl (k t : Nat) (ds : List (List Nat)) (i : Nat) : List Nat := (List.range i).map fun i => if i < k then wdAt (gl ds i) t else 0
@[simp] theorem ptl_length (m i : Nat) : (ptl m i).length = i := by simp [ptl]
@[simp] theorem vtl_length (k t : Nat) (ds : List (List Nat)) (i : Nat) : (vtl k t ds i).length = i := by simp [vtl]
theorem ptl_succ (m i : Nat) : ptl m (i + 1) = ptl m i ++ [el (p2 m + i)] := by simp [ptl, List.range_succ]
theorem vtl_succ (k t : Nat) (ds : List (List Nat)) (i : Nat) : vtl k t ds (i + 1) = vtl k t ds i ++ [if i < k then wdAt (gl ds i) t else 0] := by simp [vtl, List.range_succ]
theorem gn_ptl (m n i : Nat) (h : i < n) : gn (ptl m n) i = el (p2 m + i) := by rw [gn_get _ _ (by simpa using h)]; simp [ptl]
theorem gn_vtl (k t : Nat) (ds : List (List Nat)) (n i : Nat) (h : i < n) : gn (vtl k t ds n) i = if i < k then wdAt (gl ds i) t else 0 := by rw [gn_get _ _ (by simpa using h)]; simp [vtl]
theorem ptl_lt (m n i : Nat) : gn (ptl m n) i < 65536 := by
  by_cases h : i < n
  · rw [gn_ptl _ _ _ h]; exact el_lt _
  · rw [gn_out _ _ (by rw [ptl_length]; omega)]; omega
theorem vtl_lt {k n : Nat} {ds : List (List Nat)} (hd : Ds k n ds) (t N i : Nat) : gn (vtl k t ds N) i < 65536 := by
  by_cases h : i < N
  · rw [gn_vtl _ _ _ _ _ h]
    split
    · exact wdAt_lt (hd.lb i) t
    · omega
  · rw [gn_out _ _ (by rw [vtl_length]; omega)]; omega
theorem ptl_dist {m N : Nat} (h : p2 m + N ≤ 65536) : ∀ i j, i < N → j < N → i ≠ j → gn (ptl m N) i ≠ gn (ptl m N) j := by
  intro i j hi hj hne e
  rw [gn_ptl _ _ _ hi, gn_ptl _ _ _ hj] at e
  have := el_inj (by omega) (by omega) e
  omega
theorem nwt_lt (xs vs : List Nat) (n i : Nat) : gn (nwt xs vs n) i < 65536 := hN_lt _ _ _ _ _
/-- The textbook's polynomial at a parity's place. -/
theorem book {k m n t j R N : Nat} {ds : List (List Nat)} (hp : prm k (m : Int)) (hj : j < m) (hd : Ds k n ds) (ht : 2 * t < n) (hR : R = mu (p2 m + k)) (hNN : N = 2 ^ R - p2 m) :
    evn (nwt (ptl m N) (vtl k t ds N) N) (el j) = wdAt (parTo m n ds j k) t := by
  obtain ⟨h1, h2, h3, h4, h5⟩ := hp
  rw [Int.toNat_natCast] at h5
  have hle := le_p2 (p2 m + k)
  have hmp := le_p2 m
  have hR16 : R ≤ 16 := by rw [hR]; exact mu_le16 h5
  have hle2 : p2 m + k ≤ 2 ^ R := by rw [hR]; exact hle
  have hr : mu m ≤ R := mu_le (by omega)
  have hR2 : 2 ^ R ≤ 2 ^ 16 := Nat.pow_le_pow_right (by omega) hR16
  have hkN : k ≤ N := by omega
  have hf : Po N (evl (hn (fx (ptl m N)) (fd (ptl m N) (vtl k t ds N)) N N)) := Po_hn _ _ _
  have hev : evn (nwt (ptl m N) (vtl k t ds N) N) (el j) = (evl (hn (fx (ptl m N)) (fd (ptl m N) (vtl k t ds N)) N N) (gw j)).v := by
    unfold evn nwt hN
    rw [map_gf_v, gf_el]
  have hxg : ∀ i, i < N → fx (ptl m N) i = gw (p2 m + i) := fun i hi => by unfold fx; rw [gn_ptl _ _ _ hi, gf_el]
  have hxd : ∀ i j, i < N → j < N → i ≠ j → fx (ptl m N) i ≠ fx (ptl m N) j := fun i j hi hj hne e => by
    rw [hxg i hi, hxg j hj] at e
    have := gw_inj (by omega) (by omega) e
    omega
  have hat : ∀ i, i < N → evl (hn (fx (ptl m N)) (fd (ptl m N) (vtl k t ds N)) N N) (gw (p2 m + i)) = if i < k then we (gl ds i) t else 0 := fun i hi => by
    have := hn_at (fx (ptl m N)) (fx (vtl k t ds N)) N hxd i hi
    rw [hxg i hi] at this
    rw [show fd (ptl m N) (vtl k t ds N) = fun k_1 => dd (fx (ptl m N)) (fx (vtl k t ds N)) k_1 0 from rfl, this]
    unfold fx
    rw [gn_vtl _ _ _ _ _ hi]
    split
    · rfl
    · rfl
  rw [hev]
  have hb := textbook (r := mu m) (R := R) (j := j) hr hR16 (by show j < p2 m; omega) (f := evl (hn (fx (ptl m N)) (fd (ptl m N) (vtl k t ds N)) N N)) (by rw [hNN] at hf ⊢; exact hf)
  rw [hb]
  have h6 : (we (parTo m n ds j k) t).v = wdAt (parTo m n ds j k) t := gf_v (wdAt_lt (parTo_lt m n ds j k) t)
  rw [← h6, we_parTo hd.even hd.lb j t ht k]
  congr 1
  rw [show 2 ^ R - 2 ^ mu m = N from hNN.symm]
  rw [sm_more hkN (fun i hi hi2 => by
    show evl _ (gw (p2 m + i)) * _ = 0
    rw [hat i hi2, if_neg (by omega), GF.zero_mul])]
  refine sm_congr fun i hi => ?_
  show evl _ (gw (p2 m + i)) * _ = _
  rw [hat i (by omega), if_pos hi, GF.mul_comm]
  rfl
end Go.Proofs.Ytpnmmedjamkmeaa

/- TwoL lists that grow by appends, side by side. -/
set_option linter.unusedSimpArgs false
set_option linter.unusedVariables false
set_option linter.unusedSimpArgs false
namespace Go.Proofs.Ytpnmmedjamkmeaa
open Go.RowKit

/-- append in general: the block is the slice's own or a new one. -/
theorem wpList_appG {P : Program} {w : World} {ops : Array Oper} {tl : List Oper} {a : Act} {Q : Exit → Act → World → Prop} {s x : Operand} {t ty : TypeId} {d : Tmp} {pos : String} {after : Array Edge}
    {base : Nat} {e : TypeId} {v : Value} {n : Nat} {xs : List Value} (hown : w.ownsRow base e 1 v n xs) (ad : Addr) (ys : List Value) (hys : ∀ j u, ys[j]? = some u → w.cell? (ad.add j) = some u)
    (z : Value) (m c by_ : Nat) (he : a.eval s = v ∧ a.eval x = .slice (some ad) m c) (hm : ys.length = m) (hm1 : 0 < m)
    (ht : P.underlying t = some (.slice e)) (hi : (P.info? e).map (fun i => (i.zero, i.size, i.bytes)) = some (some z, 1, by_)) (hz : z.cells.size = 1) (h1 : ∀ u ∈ ys, u.oneCell' = true)
    (h63 : n + m ≤ maxLen) (hbytes : (n + m) * by_ ≤ 140737488355328) (hbase : base ≤ w.heap.size)
    (hK : ∀ g rest W, Own W e g (xs ++ ys) rest → n + m + rest.length ≤ maxLen → base ≤ g → (v.ownBlock = some g ∨ w.heap.size ≤ g) → Chg (fun i => v.ownBlock = some i) w W → wpList P ops Q tl (a.put (some d) (.slice (some ⟨g, 0, none⟩) (n + m) (n + m + rest.length))) W) :
    wpList P ops Q ({ dst := some d, op := .call { callee := .builtin .append, args := #[s, x], argTypes := #[t, t] }, type := ty, pos := pos, after := after, guard := none } :: tl) a w := by
  obtain ⟨i, hi', hz0, hs, hb⟩ : ∃ i, P.info? e = some i ∧ i.zero = some z ∧ i.size = 1 ∧ i.bytes = by_ := by
    cases hx : P.info? e with
    | none => simp [hx] at hi
    | some i => simp [hx] at hi; exact ⟨i, rfl, hi.1, hi.2.1, hi.2.2⟩
  have fresh : ∀ v' W, W.ownsRow w.heap.size e 1 v' (n + m) (xs ++ ys) → w.grownBy W none → wpList P ops Q tl (a.put (some d) v') W := by
    intro v' W h2 h3
    rcases own_of_ownsRow h2 with ⟨_, h0, _⟩ | ⟨g, cap, rest, rfl, hg, hO, hl, hc, hmx⟩
    · omega
    · have h := hK g rest W hO (by omega) (by omega) (.inr hg) ((Chg.refl _ w).grown h3 (fun k hk => by cases hk))
      rw [hc] at h
      exact h
  rcases own_of_ownsRow hown with ⟨rfl, rfl, rfl⟩ | ⟨g, cap, rest, rfl, hg, hO, hl, hc, hmx⟩
  · exact wpList_append_grows w rfl s x t rfl e i z 1 by_ ht hi' hz0 hs hb hz (by omega) none 0 0 [] he.1 (fun _ => ⟨rfl, rfl⟩) rfl (fun b h => by cases h) ad m c ys he.2 (by omega) hys h1 (by omega) h63 hbytes fresh
  · by_cases hr : m ≤ rest.length
    · refine wpList_appRoom hO ad ys hys n cap m c he hl hm hc.symm hr ht (by rw [hi']; simp [hs]) h1 fun W hOW hCW => ?_
      have h := hK g (rest.drop m) W hOW (by rw [List.length_drop]; omega) hg (.inl rfl) (hCW.mono fun i _ e => by
        show some g = some i
        rw [show i = g from e])
      rw [List.length_drop, show n + m + (rest.length - m) = cap from by omega] at h
      exact h
    · exact wpList_append_grows w rfl s x t rfl e i z 1 by_ ht hi' hz0 hs hb hz (by omega) (some ⟨g, 0, none⟩) n cap xs he.1 (fun h => by cases h) (by omega) (fun b h j u hj => by
        cases h; exact hO.addCell j u hj) ad m c ys he.2 (by omega) hys h1 (by omega) h63 hbytes fresh

/-- TwoL slices that the code has made since base, in blocks of their own. -/
structure TwoL (w : World) (e : TypeId) (base : Nat) (v1 v2 : Value) (n1 n2 : Nat) (l1 l2 : List Value) : Prop where
  o1 : w.ownsRow base e 1 v1 n1 l1
  o2 : w.ownsRow base e 1 v2 n2 l2
  ap : ∀ g, v1.ownBlock = some g → v2.ownBlock ≠ some g
section
variable {w W : World} {e : TypeId} {base : Nat} {v1 v2 : Value} {n1 n2 : Nat} {l1 l2 : List Value}
theorem ownsRow_kept {S : Nat → Prop} {v : Value} {n : Nat} {l : List Value} (h : w.ownsRow base e 1 v n l) (hc : Chg S w W) (hs : ∀ g, v.ownBlock = some g → ¬ S g) : W.ownsRow base e 1 v n l := by
  rcases own_of_ownsRow h with ⟨rfl, rfl, rfl⟩ | ⟨g, cap, rest, rfl, hg, hO, hl, hcp, hmx⟩
  · exact ⟨rfl, .inl ⟨rfl, rfl⟩⟩
  · exact ownsRow_of_own (hO.kept hc (hs g rfl)) hg hl hcp hmx
theorem TwoL.keptNo (h : TwoL w e base v1 v2 n1 n2 l1 l2) (hc : Chg No w W) : TwoL W e base v1 v2 n1 n2 l1 l2 :=
  ⟨ownsRow_kept h.o1 hc fun _ _ => id, ownsRow_kept h.o2 hc fun _ _ => id, h.ap⟩
theorem TwoL.nils (w : World) (e : TypeId) : TwoL w e w.heap.size (.slice none 0 0) (.slice none 0 0) 0 0 [] [] := ⟨⟨rfl, .inl ⟨rfl, rfl⟩⟩, ⟨rfl, .inl ⟨rfl, rfl⟩⟩, fun g h => by simp [Value.ownBlock] at h⟩
theorem ownsRow_lt {v : Value} {n : Nat} {l : List Value} (h : w.ownsRow base e 1 v n l) {g : Nat} (hg : v.ownBlock = some g) : base ≤ g ∧ g < w.heap.size := by
  rcases own_of_ownsRow h with ⟨rfl, rfl, rfl⟩ | ⟨g', cap, rest, rfl, hb, hO, hl, hcp, hmx⟩
  · simp [Value.ownBlock] at hg
  · simp only [Value.ownBlock, Option.some.injEq] at hg
    subst hg; exact ⟨hb, hO.lt⟩
/-- The first has grown. -/
theorem TwoL.grow1 (h : TwoL w e base v1 v2 n1 n2 l1 l2) {g n : Nat} {ys rest : List Value} (hn : (l1 ++ ys).length = n) (hO : Own W e g (l1 ++ ys) rest) (hm : n + rest.length ≤ maxLen) (hb : base ≤ g)
    (hg : v1.ownBlock = some g ∨ w.heap.size ≤ g) (hc : Chg (fun i => v1.ownBlock = some i) w W) : TwoL W e base (.slice (some ⟨g, 0, none⟩) n (n + rest.length)) v2 n n2 (l1 ++ ys) l2 :=
  ⟨ownsRow_of_own hO hb hn rfl hm, ownsRow_kept h.o2 hc (fun i hi hs => h.ap i hs hi), fun i hi hi2 => by
    simp only [Value.ownBlock, Option.some.injEq] at hi
    subst hi
    rcases hg with hg | hg
    · exact h.ap _ hg hi2
    · have := (ownsRow_lt h.o2 hi2).2; omega⟩
/-- The second has grown. -/
theorem TwoL.grow2 (h : TwoL w e base v1 v2 n1 n2 l1 l2) {g n : Nat} {ys rest : List Value} (hn : (l2 ++ ys).length = n) (hO : Own W e g (l2 ++ ys) rest) (hm : n + rest.length ≤ maxLen) (hb : base ≤ g)
    (hg : v2.ownBlock = some g ∨ w.heap.size ≤ g) (hc : Chg (fun i => v2.ownBlock = some i) w W) : TwoL W e base v1 (.slice (some ⟨g, 0, none⟩) n (n + rest.length)) n1 n l1 (l2 ++ ys) :=
  ⟨ownsRow_kept h.o1 hc (fun i hi hs => h.ap i hi hs), ownsRow_of_own hO hb hn rfl hm, fun i hi hi2 => by
    simp only [Value.ownBlock, Option.some.injEq] at hi2
    subst hi2
    rcases hg with hg | hg
    · exact h.ap _ hi hg
    · have := (ownsRow_lt h.o1 hi).2; omega⟩
/-- What has changed since base. -/
theorem Chg.own1 {w0 : World} (hc : Chg No w0 w) {v : Value} {n : Nat} {l : List Value} (h : w.ownsRow base e 1 v n l) (hb : w0.heap.size ≤ base) (k : Chg (fun i => v.ownBlock = some i) w W) : Chg No w0 W :=
  hc.trans' k fun i hi hs => by have := (ownsRow_lt h hs).1; omega
end
end Go.Proofs.Ytpnmmedjamkmeaa
