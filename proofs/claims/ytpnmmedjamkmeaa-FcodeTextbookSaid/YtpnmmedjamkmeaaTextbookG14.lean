/- Arguments of the laws of layer 18, opened: rows of bytes, hits, shards with their numbers. -/
import Derived.Lib.SmallJoins
import Derived.Deep.Matrix
import Derived.Deep.Fields
import Derived.SizedLaws
import Derived.OpenShut
import Derived.Test.YtpnmmedjamkmeaaTextbookG13
import Derived.Test.YtpnmmedjamkmeaaTextbookG8
import Derived.Test.YtpnmmedjamkmeaaTextbookG5
set_option linter.unusedSimpArgs false
set_option linter.unusedVariables false
set_option linter.unusedSimpArgs false
namespace Go.Proofs.Ytpnmmedjamkmeaa
open Go.RowKit Go.ChangeShapes Go.WideShapes Go.Deep Go.Joins

section
variable {H : Type} {enc : TypeId × Value → H} {P : Program}
theorem weightsAll_mem {e : TypeId} : ∀ {l : List (DataW H)} {d : DataW H}, d ∈ l → ∀ n ∈ d.weights P e, n ∈ DataW.weightsAll P e l
  | d' :: r, d, hd, n, hn => by
    simp only [DataW.weightsAll, List.mem_append]
    rcases List.mem_cons.1 hd with rfl | h
    · exact Or.inl hn
    · exact Or.inr (weightsAll_mem h n hn)
/-- The reach of a slice, and of a row inside a slice of slices. -/
theorem slice_weight {t e : TypeId} {elems spare : List (DataW H)} (hu : P.underlying t = some (.slice e)) : (elems.length + spare.length) * P.bytesOf e ∈ (DataW.slice elems spare).weights P t := by
  simp [DataW.weights, hu]
theorem row_weight {t e q : TypeId} {elems spare e' sp' : List (DataW H)} (hu : P.underlying t = some (.slice e)) (hu2 : P.underlying e = some (.slice q)) (hx : DataW.slice e' sp' ∈ elems) :
    (e'.length + sp'.length) * P.bytesOf q ∈ (DataW.slice elems spare).weights P t := by
  simp only [DataW.weights, hu, List.mem_cons, List.mem_append]
  exact Or.inr (Or.inl (weightsAll_mem hx _ (slice_weight hu2)))
end
theorem u8_wf {n : Int} (h : (Lit.int .u8 n).wf = true) : 0 ≤ n ∧ n < 256 := by
  have := bounds_u8 h
  omega
theorem plain_addr {w : World} {a : Addr} {v : Value} (h : w.cell? (a.add 0) = some v) : ∃ b off, a = ⟨b, off, none⟩ := by
  obtain ⟨b, off, key⟩ := a
  cases key with
  | none => exact ⟨b, off, rfl⟩
  | some k =>
    simp only [Addr.add, if_true, World.cell?, Option.isSome_some] at h
    split at h <;> simp at h
theorem add_zero' (a : Addr) : a.add 0 = a := by unfold Addr.add; rw [if_pos rfl]
theorem add_plain (b off i : Nat) : (⟨b, off, none⟩ : Addr).add i = ⟨b, off + i, none⟩ := by unfold Addr.add; split <;> simp_all
theorem reach_eq : reachBytes = 140737488351232 := rfl
theorem bytes42 : Try.prog.bytesOf 42 = 24 := by kernel_rfl
theorem bytes5 : Try.prog.bytesOf 5 = 1 := by kernel_rfl
theorem cells42 : Try.prog.cellsOf 42 = 1 := by kernel_rfl
theorem cells5 : Try.prog.cellsOf 5 = 1 := by kernel_rfl

section
variable {H : Type} {enc : TypeId × Value → H} {w : World} {base : Nat}
/-- Rows of bytes that came in: what they read as. -/
theorem open_rows {fuel : Nat} {cs : List Value} {x : DataW H × List MemPlace} (h : DataW.trod enc Try.prog w base (fun _ => true) true fuel 38 cs = some x)
    (hw : ∀ n ∈ x.1.weights Try.prog 38, n ≤ reachBytes) :
    ∃ (p : Option Addr) (len cap : Nat) (ds : List (List Nat)), cs = [.slice p len cap] ∧ Lr w .u8 p ds ∧ ds.length = len ∧ Byt ds ∧ len * 24 ≤ 140737488351232 ∧ len ≤ cap := by
  rcases open_int_rows Try.underlying38 Try.underlying42 Try.underlying5 cells42 cells5 h with ⟨rfl, rfl⟩ | ⟨a, len, cap, A, L, C, Z, rfl, hb, hlc, hcm, rfl, hr⟩
  · exact ⟨none, 0, 0, [], rfl, fun i hi => by simp at hi, rfl, fun i b => by simp [gl, gn], by omega, Nat.le_refl _⟩
  · have hlen : len * 24 ≤ 140737488351232 := by
      have := hw _ (slice_weight Try.underlying38)
      rw [bytes42] at this
      simp only [List.length_map, List.length_range, reach_eq] at this
      omega
    have hrow : ∀ r, r < len → L r ≤ 140737488351232 := by
      intro r hr'
      cases hA : A r with
      | none =>
        obtain ⟨_, h1, h2, _, _, h5, _⟩ := hr r (by omega)
        have := h5 hA
        omega
      | some a' =>
        obtain ⟨_, h1, h2, h3, _, _, _⟩ := hr r (by omega)
        have hx : DataW.slice (lits .u8 ((Z r).take (L r))) (lits .u8 ((Z r).drop (L r))) ∈ (List.range len).map fun r => (intRow .u8 (A r) (L r) (Z r) : DataW H) := by
          refine List.mem_map.2 ⟨r, List.mem_range.2 hr', ?_⟩
          rw [hA]; rfl
        have := hw _ (row_weight (sp' := lits .u8 ((Z r).drop (L r))) (spare := (List.range (cap - len)).map fun j => intRow .u8 (A (len + j)) (L (len + j)) (Z (len + j))) Try.underlying38 Try.underlying42 hx)
        rw [bytes5] at this
        simp only [lits, List.length_map, List.length_take, List.length_drop, reach_eq] at this
        omega
    refine ⟨some a, len, cap, (List.range len).map fun r => ((Z r).take (L r)).map Int.toNat, rfl, ?_, by simp, ?_, hlen, hlc⟩
    · intro i hi
      have hi' : i < len := by simpa using hi
      obtain ⟨h0, h1, h2, h3, h4, h5, h6⟩ := hr i (by omega)
      have hg : gl ((List.range len).map fun r => ((Z r).take (L r)).map Int.toNat) i = ((Z i).take (L i)).map Int.toNat := by
        rw [gl_get _ _ hi]; simp
      have hgl : (((Z i).take (L i)).map Int.toNat).length = L i := by simp; omega
      obtain ⟨b, off, rfl⟩ : ∃ b off, a = ⟨b, off, none⟩ := plain_addr (hr 0 (by omega)).1
      rw [add_plain] at h0
      refine ⟨b, off, A i, C i, rfl, by rw [hg, hgl]; exact h0, ?_, by rw [hg, hgl]; have := hrow i hi'; omega, by rw [hg, hgl]; exact h1⟩
      rw [hg]
      intro j hj
      rw [hgl] at hj
      cases hA : A i with
      | none => have := h5 hA; omega
      | some a' =>
        obtain ⟨hb', hc⟩ := h6 a' hA
        have hcj := hc j (by omega)
        obtain ⟨b', off', rfl⟩ : ∃ b off, a' = ⟨b, off, none⟩ := plain_addr (hc 0 (by omega))
        rw [add_plain] at hcj
        refine ⟨b', off', rfl, ?_⟩
        rw [hcj]
        have hz : j < (Z i).length := by omega
        have hwf := h4 ((Z i)[j]) (List.getElem_mem hz)
        have hrng := u8_wf hwf
        have : gn (((Z i).take (L i)).map Int.toNat) j = ((Z i)[j]).toNat := by
          rw [gn_get _ _ (by rw [hgl]; exact hj)]
          simp
        rw [this]
        simp only [List.getD_eq_getElem?_getD, List.getElem?_eq_getElem hz, Option.getD_some]
        congr 2
        omega
    · intro i x
      by_cases hi : i < len
      · obtain ⟨h0, h1, h2, h3, h4, h5, h6⟩ := hr i (by omega)
        rw [gl_get _ _ (by simpa using hi)]
        simp only [List.getElem_map, List.getElem_range]
        by_cases hx : x < (((Z i).take (L i)).map Int.toNat).length
        · rw [gn_get _ _ hx]
          simp only [List.getElem_map, List.getElem_take]
          have hz : x < (Z i).length := by simp at hx; omega
          have hwf := h4 ((Z i)[x]) (List.getElem_mem hz)
          have := u8_wf hwf
          omega
        · rw [gn_out _ _ (by omega)]; omega
      · rw [gl_out _ _ (by simpa using hi)]; simp [gn]
set_option maxRecDepth 100000 in
/-- A list of hits that came in. -/
theorem open_hits {fuel : Nat} {cs : List Value} {x : DataW H × List MemPlace} (h : DataW.trod enc Try.prog w base (fun _ => true) true fuel 41 cs = some x)
    (hw : ∀ n ∈ x.1.weights Try.prog 41, n ≤ reachBytes) :
    ∃ (p : Option Addr) (len cap : Nat), cs = [.slice p len cap] ∧ Ht w p len ∧ len * 24 ≤ 140737488351232 := by
  have hb51 : Try.prog.bytesOf 51 = 24 := by kernel_rfl
  have hc51 : Try.prog.cellsOf 51 = 3 := by kernel_rfl
  have hc3 : Try.prog.cellsOf 3 = 1 := by kernel_rfl
  rcases open_slice Try.underlying41 h with ⟨rfl, rfl⟩ | ⟨a, len, cap, m, n, D, Pl, rfl, hb, hl, hm, hmm, rfl, hi⟩
  · exact ⟨none, 0, 0, rfl, fun i hi => by omega, by omega⟩
  · have hlen : len * 24 ≤ 140737488351232 := by
      have := hw _ (slice_weight Try.underlying41)
      rw [hb51] at this
      simp only [List.length_map, List.length_range, reach_eq] at this
      omega
    simp only [if_true] at hmm
    subst hmm
    refine ⟨some a, len, m, rfl, fun i hil => ?_, hlen⟩
    have each : ∀ i, i < m → ∃ x y z : Int, w.cell? (a.add (i * 3)) = some (.int .i64 x) ∧ w.cell? ((a.add (i * 3)).add 1) = some (.int .i64 y) ∧ w.cell? ((a.add (i * 3)).add 2) = some (.int .u8 z) ∧ (Lit.int .u8 z).wf = true := by
      intro i him
      obtain ⟨cs', hc, ht'⟩ := hi i him
      rw [hc51] at hc
      obtain ⟨_, hcl, hat⟩ := World.cells?_some hc
      obtain ⟨y0, y1, y2, n', _, _, h0, h1, h2⟩ := trod_struct3 Try.underlying51 ht'
      match cs', hcl with
      | [c0, c1, c2], _ =>
        simp only [hc3, cells5, List.drop_zero, List.drop_succ_cons, List.take_succ_cons, List.take_zero] at h0 h1 h2
        obtain ⟨k0, e0, _, _⟩ := DataW.trod_int Try.underlying3 h0
        obtain ⟨k1, e1, _, _⟩ := DataW.trod_int Try.underlying3 h1
        obtain ⟨k2, e2, _, w2⟩ := DataW.trod_int Try.underlying5 h2
        simp only [List.cons.injEq, and_true] at e0 e1 e2
        have g0 := hat 0 (by omega)
        have g1 := hat 1 (by omega)
        have g2 := hat 2 (by omega)
        rw [add_zero'] at g0
        exact ⟨k0, k1, k2, by rw [g0, ← e0]; rfl, by rw [g1, ← e1]; rfl, by rw [g2, ← e2]; rfl, w2⟩
    obtain ⟨x0, _, _, hz, _, _, _⟩ := each 0 (by omega)
    rw [Nat.zero_mul] at hz
    obtain ⟨b, off, rfl⟩ := plain_addr hz
    obtain ⟨x, y, z, h0, h1, h2, hz⟩ := each i (by omega)
    simp only [add_plain] at h0 h1 h2
    have hzz := u8_wf hz
    refine ⟨b, off, x, y, z.toNat, rfl, h0, h1, ?_, by omega⟩
    rw [h2]
    congr 2
    omega
end
set_option maxRecDepth 100000 in
/-- The law's shards, with their numbers, as they come in. -/
theorem open_data {H : Type} {enc : TypeId × Value → H} {w : World} {base b0 : Nat} {r : Reach} {v : Value} {d : DataW H} {p : List MemPlace}
    (hv : Value.okWide Try.prog w r b0 40 v) (h : DataW.Trod enc Try.prog w base (fun _ => true) true 40 v d p)
    (hw : ∀ n ∈ d.weights Try.prog 40, n ≤ reachBytes) :
    ∃ (m : Int) (q q2 : Option Addr) (k c ll lc : Nat) (ds : List (List Nat)), v = .agg #[.int .i64 m, .slice q k c, .slice q2 ll lc] ∧ Lr w .u8 q ds ∧ ds.length = k ∧ Byt ds ∧ k * 24 ≤ 140737488351232 := by
  obtain ⟨v0, v1, v2, y0, y1, y2, n, rfl, rfl, rfl, h0, h1, h2⟩ := open_agg3 Try.underlying40 (by kernel_rfl) (by kernel_rfl) hv h
  obtain ⟨m, e0, _, _⟩ := DataW.trod_int Try.underlying3 h0
  obtain ⟨q, k, c, ds, e1, hl, hlk, hb, hk, _⟩ := open_rows h1 (fun n hn => hw n (by
    simp only [DataW.weights, Try.underlying40]
    exact DataW.weights_mem_each (j := 1) rfl rfl n hn))
  simp only [List.cons.injEq, and_true] at e0 e1
  subst e0 e1
  rcases open_slice Try.underlying22 h2 with ⟨e2, _⟩ | ⟨a, len, cap, _, _, _, _, e2, _⟩
  · simp only [List.cons.injEq, and_true] at e2
    subst e2
    exact ⟨m, q, none, k, c, 0, 0, ds, rfl, hl, hlk, hb, hk⟩
  · simp only [List.cons.injEq, and_true] at e2
    subst e2
    exact ⟨m, q, some a, k, c, len, cap, ds, rfl, hl, hlk, hb, hk⟩
end Go.Proofs.Ytpnmmedjamkmeaa

/- Polynomials as lists of coefficients; sums over the first elements; the value at a parity's place of a polynomial that is known at the others. -/
set_option linter.unusedVariables false
set_option linter.unusedSimpArgs false
namespace Go.Proofs.Ytpnmmedjamkmeaa

/-- The value of a list of coefficients, the lowest first. -/
def evl : List GF → GF → GF
  | [], _ => 0
  | c :: l, y => c + y * evl l y
/-- The function h has d coefficients. -/
def Po (d : Nat) (h : GF → GF) : Prop := ∃ l : List GF, l.length = d ∧ ∀ y, h y = evl l y
theorem Po.congr {d : Nat} {f g : GF → GF} (h : Po d f) (e : ∀ y, g y = f y) : Po d g := by
  obtain ⟨l, hl, he⟩ := h
  exact ⟨l, hl, fun y => (e y).trans (he y)⟩
theorem Po.nil {h : GF → GF} (hp : Po 0 h) (y : GF) : h y = 0 := by
  obtain ⟨l, hl, he⟩ := hp
  obtain rfl := List.eq_nil_of_length_eq_zero hl
  exact he y
theorem Po.cons {d : Nat} {h : GF → GF} (hp : Po d h) (c : GF) : Po (d + 1) (fun y => c + y * h y) := by
  obtain ⟨l, hl, he⟩ := hp
  exact ⟨c :: l, by simp [hl], fun y => by show c + y * h y = c + y * evl l y; rw [he]⟩
theorem Po.uncons {d : Nat} {h : GF → GF} (hp : Po (d + 1) h) : ∃ c g, Po d g ∧ ∀ y, h y = c + y * g y := by
  obtain ⟨l, hl, he⟩ := hp
  match l, hl with
  | c :: l, hl => exact ⟨c, evl l, ⟨l, by simpa using hl, fun _ => rfl⟩, he⟩
theorem Po.none (d : Nat) : Po d (fun _ => 0) := by
  induction d with
  | zero => exact ⟨[], rfl, fun _ => rfl⟩
  | succ d ih => exact (ih.cons 0).congr fun y => by rw [GF.mul_zero, GF.add_zero]
theorem Po.more {d e : Nat} {h : GF → GF} (hp : Po d h) (hde : d ≤ e) : Po e h := by
  induction d generalizing e h with
  | zero => exact (Po.none e).congr fun y => hp.nil y
  | succ d ih =>
    obtain ⟨c, g, hg, he⟩ := hp.uncons
    obtain ⟨e', rfl⟩ : ∃ e', e = e' + 1 := ⟨e - 1, by omega⟩
    exact ((ih hg (by omega)).cons c).congr he
theorem Po.mulX {d : Nat} {h : GF → GF} (hp : Po d h) : Po (d + 1) (fun y => y * h y) := (hp.cons 0).congr fun y => (GF.zero_add _).symm
theorem Po.add {d : Nat} {f g : GF → GF} (hf : Po d f) (hg : Po d g) : Po d (fun y => f y + g y) := by
  induction d generalizing f g with
  | zero => exact (Po.none 0).congr fun y => by rw [hf.nil, hg.nil, GF.zero_add]
  | succ d ih =>
    obtain ⟨a, f', hf', ef⟩ := hf.uncons
    obtain ⟨b, g', hg', eg⟩ := hg.uncons
    exact ((ih hf' hg').cons (a + b)).congr fun y => by rw [ef, eg, GF.mul_add]; ac_rfl
theorem Po.smul {d : Nat} {f : GF → GF} (hf : Po d f) (c : GF) : Po d (fun y => c * f y) := by
  induction d generalizing f with
  | zero => exact (Po.none 0).congr fun y => by rw [hf.nil, GF.mul_zero]
  | succ d ih =>
    obtain ⟨a, f', hf', ef⟩ := hf.uncons
    exact ((ih hf').cons (c * a)).congr fun y => by rw [ef, GF.mul_add]; ac_rfl
theorem Po.mul {a b : Nat} {f g : GF → GF} (hf : Po a f) (hg : Po (b + 1) g) : Po (a + b) (fun y => f y * g y) := by
  induction a generalizing f with
  | zero => exact (Po.none _).congr fun y => by rw [hf.nil, GF.zero_mul]
  | succ a ih =>
    obtain ⟨c, f', hf', ef⟩ := hf.uncons
    have h1 : Po (a + 1 + b) (fun y => c * g y) := (hg.smul c).more (by omega)
    have h2 : Po (a + 1 + b) (fun y => y * (f' y * g y)) := ((ih hf').mulX).more (by omega)
    exact (h1.add h2).congr fun y => by rw [ef, GF.add_mul, GF.mul_assoc]
theorem Po.shift {d : Nat} {f : GF → GF} (hf : Po d f) (a : GF) : Po d (fun y => f (y + a)) := by
  induction d generalizing f with
  | zero => exact (Po.none 0).congr fun y => hf.nil _
  | succ d ih =>
    obtain ⟨c, f', hf', ef⟩ := hf.uncons
    have h1 := (ih hf').cons c
    have h2 := ((ih hf').smul a).more (show d ≤ d + 1 by omega)
    exact (h1.add h2).congr fun y => by rw [ef, GF.add_mul, GF.add_assoc]
theorem Po.const (c : GF) : Po 1 (fun _ => c) := ((Po.none 0).cons c).congr fun y => by rw [GF.mul_zero, GF.add_zero]
theorem Po.id : Po 2 (fun y => y) := ((Po.const 1).mulX).congr fun y => (GF.mul_one y).symm

/-- In powers of y * y + y. -/
theorem Po.split (D : Nat) : ∀ h : GF → GF, Po (2 * D + 1) h → ∃ A B, Po (D + 1) A ∧ Po D B ∧ ∀ y, h y = A (y * y + y) + y * B (y * y + y) := by
  induction D with
  | zero =>
    intro h hp
    obtain ⟨c, g, hg, he⟩ := hp.uncons
    exact ⟨fun _ => c, fun _ => 0, Po.const c, Po.none 0, fun y => by rw [he, hg.nil]⟩
  | succ D ih =>
    intro h hp
    obtain ⟨c, g, hg, he⟩ := (show Po (2 * D + 1 + 1 + 1) h from hp).uncons
    obtain ⟨c', g', hg', he'⟩ := hg.uncons
    obtain ⟨A, B, hA, hB, hAB⟩ := ih g' hg'
    refine ⟨fun s => c + s * (A s + B s), fun s => (c' + s * B s) + (A s + B s), ?_, ?_, ?_⟩
    · exact ((hA.add (hB.more (by omega))).cons c)
    · exact (hB.cons c').add (hA.add (hB.more (by omega)))
    · intro y
      show h y = c + (y * y + y) * (A (y * y + y) + B (y * y + y)) + y * (c' + (y * y + y) * B (y * y + y) + (A (y * y + y) + B (y * y + y)))
      rw [he, he', hAB]
      generalize A (y * y + y) = a
      generalize B (y * y + y) = b
      have e : c + (y * y + y) * (a + b) + y * (c' + (y * y + y) * b + (a + b)) = c + y * (c' + y * (a + y * b)) + (y * a + y * a) + (y * b + y * b) + (y * (y * b) + y * (y * b)) := by
        simp only [GF.mul_add, GF.add_mul, GF.mul_assoc]; ac_rfl
      rw [e, GF.add_self, GF.add_self, GF.add_self, GF.add_zero, GF.add_zero, GF.add_zero]
/-- The values of a polynomial of fewer than n - 1 coefficients at the first n elements cancel out. -/
theorem Po.sum (R : Nat) : R ≤ 16 → ∀ h : GF → GF, Po (2 ^ R - 1) h → sm (2 ^ R) (fun l => h (gw l)) = 0 := by
  induction R with
  | zero => intro _ h hp; exact (congrArg (0 + ·) (Po.nil hp _)).trans (GF.add_zero _)
  | succ R ih =>
    intro hR h hp
    have hp2 := Nat.two_pow_pos R
    have hle : 2 ^ R ≤ 2 ^ 15 := Nat.pow_le_pow_right (by omega) (by omega)
    obtain ⟨A, B, _, hB, hAB⟩ := Po.split (2 ^ R - 1) h (by rw [show 2 * (2 ^ R - 1) + 1 = 2 ^ (R + 1) - 1 from by rw [Nat.pow_succ]; omega]; exact hp)
    rw [Nat.pow_succ, sm_blocks]
    refine Eq.trans (sm_congr fun q hq => ?_) (ih (by omega) B hB)
    show 0 + h (gw (q * 2 + 0)) + h (gw (q * 2 + 1)) = B (gw q)
    have h1 : gw (q * 2 + 1) = gw (q * 2) + 1 := gw_next (by omega)
    have h2 : gw q = gw (q * 2) * gw (q * 2) + gw (q * 2) := by
      have := gw_half (i := q * 2) (by omega)
      rwa [Nat.mul_div_cancel _ (by omega)] at this
    rw [Nat.add_zero, h1, hAB, hAB, GF.zero_add]
    generalize gw (q * 2) = y at *
    have h3 : (y + 1) * (y + 1) + (y + 1) = y * y + y := by
      have : (y + 1) * (y + 1) + (y + 1) = y * y + y + (y + y) + (1 + 1) := by
        simp only [GF.mul_add, GF.add_mul, GF.mul_one, GF.one_mul]; ac_rfl
      rw [this, GF.add_self, GF.add_self, GF.add_zero, GF.add_zero]
    rw [h3, ← h2]
    generalize A (gw q) = a
    generalize B (gw q) = b
    have : a + y * b + (a + (y + 1) * b) = (a + a) + (y * b + y * b) + b := by
      simp only [GF.add_mul, GF.one_mul]; ac_rfl
    rw [this, GF.add_self, GF.add_self, GF.zero_add, GF.zero_add]

/-- The polynomial that is 0 at the first 2^r elements. -/
def St : Nat → GF → GF
  | 0, y => y
  | r + 1, y => St r y * St r y + St r y
/-- The same without the factor y. -/
def Tt : Nat → GF → GF
  | 0, _ => 1
  | r + 1, y => Tt r y * (St r y + 1)
theorem St_Tt (r : Nat) (y : GF) : St r y = y * Tt r y := by
  induction r with
  | zero => exact (GF.mul_one y).symm
  | succ r ih =>
    show St r y * St r y + St r y = y * (Tt r y * (St r y + 1))
    rw [← GF.mul_assoc, ← ih, GF.mul_add, GF.mul_one]
theorem Tt_zero (r : Nat) : Tt r 0 = 1 := by
  induction r with
  | zero => rfl
  | succ r ih =>
    show Tt r 0 * (St r 0 + 1) = 1
    rw [ih, St_Tt, GF.zero_mul, GF.zero_add, GF.mul_one]
theorem St_gw (r : Nat) {i : Nat} (h : i < 65536) : St r (gw i) = gw (i / 2 ^ r) := by
  induction r with
  | zero => rw [Nat.pow_zero, Nat.div_one]; rfl
  | succ r ih =>
    show St r (gw i) * St r (gw i) + St r (gw i) = _
    rw [ih, div_half, gw_half (Nat.lt_of_le_of_lt (Nat.div_le_self _ _) h)]
theorem Po_Tt (r : Nat) : Po (2 ^ r) (Tt r) := by
  induction r with
  | zero => exact Po.const 1
  | succ r ih =>
    have hS : Po (2 ^ r + 1) (fun y => St r y + 1) := by
      have h1 : Po (2 ^ r + 1) (St r) := ih.mulX.congr fun y => St_Tt r y
      exact h1.add ((Po.const 1).more (Nat.le_add_left 1 _))
    have := ih.mul hS
    rw [show 2 ^ (r + 1) = 2 ^ r + 2 ^ r from by rw [Nat.pow_succ]; omega]
    exact this
theorem xor_high {l j r : Nat} (h : j < 2 ^ r) : (l ^^^ j) / 2 ^ r = l / 2 ^ r := by
  apply Nat.eq_of_testBit_eq
  intro i
  rw [Nat.testBit_div_two_pow, Nat.testBit_div_two_pow, Nat.testBit_xor, Nat.testBit_lt_two_pow (Nat.lt_of_lt_of_le h (Nat.pow_le_pow_right (by omega) (by omega))), Bool.xor_false]
/-- The value at a place below 2^r of a polynomial that is known at the places from there to 2^R. -/
theorem textbook {r R j : Nat} (hr : r ≤ R) (hR : R ≤ 16) (hj : j < 2 ^ r) {f : GF → GF} (hf : Po (2 ^ R - 2 ^ r) f) :
    f (gw j) = sm (2 ^ R - 2 ^ r) (fun i => f (gw (2 ^ r + i)) * (gw ((2 ^ r + i) / 2 ^ r) * (gw j + gw (2 ^ r + i)).inv)) := by
  have hrp := Nat.two_pow_pos r
  have hrR : 2 ^ r ≤ 2 ^ R := Nat.pow_le_pow_right (by omega) hr
  have hR16 : 2 ^ R ≤ 2 ^ 16 := Nat.pow_le_pow_right (by omega) hR
  have hT : Po (2 ^ r - 1 + 1) (fun y => Tt r (y + gw j)) := by
    rw [show 2 ^ r - 1 + 1 = 2 ^ r from by omega]; exact (Po_Tt r).shift _
  have hh := hf.mul hT
  rw [show 2 ^ R - 2 ^ r + (2 ^ r - 1) = 2 ^ R - 1 from by omega] at hh
  have hs := Po.sum R hR _ hh
  rw [show 2 ^ R = 2 ^ r + (2 ^ R - 2 ^ r) from by omega, sm_split] at hs
  have h1 : sm (2 ^ r) (fun l => f (gw l) * Tt r (gw l + gw j)) = f (gw j) := by
    rw [sm_one _ _ j hj (fun l hl hne => ?_)]
    · rw [GF.add_self, Tt_zero, GF.mul_one]
    · have h2 : gw l + gw j ≠ 0 := gw_ne (by omega) (by omega) hne
      have h3 : (gw l + gw j) * Tt r (gw l + gw j) = 0 := by
        rw [← St_Tt, ← gw_xor, St_gw r (xor_lt16 (by omega) (by omega)), xor_high hj, Nat.div_eq_of_lt hl, gw_zero]
      rcases GF.mul_eq_zero h3 with h4 | h4
      · exact absurd h4 h2
      · rw [h4, GF.mul_zero]
  rw [h1] at hs
  refine (GF.add_eq_zero hs).trans ?_
  refine sm_congr fun i hi => ?_
  show f (gw (2 ^ r + i)) * Tt r (gw (2 ^ r + i) + gw j) = _
  have h2 : gw (2 ^ r + i) + gw j ≠ 0 := gw_ne (by omega) (by omega) (by omega)
  have h3 : (gw (2 ^ r + i) + gw j) * Tt r (gw (2 ^ r + i) + gw j) = gw ((2 ^ r + i) / 2 ^ r) := by
    rw [← St_Tt, ← gw_xor, St_gw r (xor_lt16 (by omega) (by omega)), xor_high hj]
  rw [← h3, GF.add_comm (gw j)]
  congr 1
  rw [GF.mul_comm, ← GF.mul_assoc, GF.inv_mul h2, GF.one_mul]
end Go.Proofs.Ytpnmmedjamkmeaa

/- Newton's divided differences; the nested products multiplied out. -/
set_option linter.unusedVariables false
set_option linter.unusedSimpArgs false
namespace Go.Proofs.Ytpnmmedjamkmeaa

/-- The divided difference over the k + 1 places from a on. -/
def dd (x v : Nat → GF) : Nat → Nat → GF
  | 0, a => v a
  | k + 1, a => (dd x v k (a + 1) + dd x v k a) * (x (a + k + 1) + x a).inv
/-- The product of y less the k places from a on. -/
def pr (x : Nat → GF) (a : Nat) : Nat → GF → GF
  | 0, _ => 1
  | k + 1, y => pr x a k y * (y + x (a + k))
theorem pr_first (x : Nat → GF) (a k : Nat) (y : GF) : pr x a (k + 1) y = (y + x a) * pr x (a + 1) k y := by
  induction k with
  | zero => show 1 * (y + x (a + 0)) = (y + x a) * 1; rw [GF.one_mul, GF.mul_one]; rfl
  | succ k ih =>
    rw [pr, ih, pr, GF.mul_assoc, show a + (k + 1) = a + 1 + k from by omega]
theorem sm_first (n : Nat) (f : Nat → GF) : sm (n + 1) f = f 0 + sm n (fun i => f (i + 1)) := by
  rw [show n + 1 = 1 + n from by omega, sm_split]
  congr 1
  · exact GF.zero_add _
  · exact sm_congr fun i _ => by rw [Nat.add_comm]
theorem sm_tele (n : Nat) (u : Nat → GF) : sm n (fun k => u (k + 1) + u k) = u n + u 0 := by
  induction n with
  | zero => exact (GF.add_self _).symm
  | succ n ih =>
    rw [sm, ih]
    have : u n + u 0 + (u (n + 1) + u n) = u (n + 1) + u 0 + (u n + u n) := by ac_rfl
    rw [this, GF.add_self, GF.add_zero]
/-- Newton's form has the given values. -/
theorem newton_at (x v : Nat → GF) (b : Nat) : ∀ a, (∀ i j, i ≤ a + b → j ≤ a + b → i ≠ j → x i ≠ x j) → sm (b + 1) (fun k => dd x v k a * pr x a k (x (a + b))) = v (a + b) := by
  induction b with
  | zero => intro a _; show 0 + v a * 1 = v a; rw [GF.mul_one, GF.zero_add]
  | succ b ih =>
    intro a hx
    have h := ih (a + 1) (fun i j hi hj hne => hx i j (by omega) (by omega) hne)
    rw [show a + 1 + b = a + (b + 1) from by omega] at h
    rw [← h, sm_first]
    have h1 : sm (b + 1) (fun k => dd x v k (a + 1) * pr x (a + 1) k (x (a + (b + 1)))) =
        sm (b + 1) (fun k => dd x v (k + 1) a * pr x a (k + 1) (x (a + (b + 1)))) + sm (b + 1) (fun k => dd x v (k + 1) a * pr x (a + 1) (k + 1) (x (a + (b + 1))) + dd x v k a * pr x (a + 1) k (x (a + (b + 1)))) := by
      rw [← sm_add]
      refine sm_congr fun k hk => ?_
      have hne : x (a + k + 1) + x a ≠ 0 := GF.add_ne_zero (hx _ _ (by omega) (by omega) (by omega))
      have hd : dd x v k (a + 1) = dd x v (k + 1) a * (x (a + k + 1) + x a) + dd x v k a := by
        rw [dd, GF.mul_assoc, GF.inv_mul hne, GF.mul_one, GF.add_assoc, GF.add_self, GF.add_zero]
      rw [hd, pr_first, pr, show a + 1 + k = a + k + 1 from by omega]
      generalize dd x v (k + 1) a = p
      generalize dd x v k a = q
      generalize pr x (a + 1) k (x (a + (b + 1))) = c
      generalize x (a + (b + 1)) = X
      generalize x (a + k + 1) = Y
      generalize x a = Z
      have e : p * ((X + Z) * c) + (p * (c * (X + Y)) + q * c) = (p * (Y + Z) + q) * c + (p * (X * c) + p * (X * c)) := by
        simp only [GF.mul_add, GF.add_mul, GF.mul_assoc]
        rw [GF.mul_comm c X, GF.mul_comm c Y]; ac_rfl
      rw [e, GF.add_self, GF.add_zero]
    rw [h1, sm_tele (b + 1) (fun k => dd x v k a * pr x (a + 1) k (x (a + (b + 1))))]
    have h2 : pr x (a + 1) (b + 1) (x (a + (b + 1))) = 0 := by
      rw [pr, show a + 1 + b = a + (b + 1) from by omega, GF.add_self, GF.mul_zero]
    show dd x v 0 a * 1 + _ = _ + (dd x v (b + 1) a * pr x (a + 1) (b + 1) (x (a + (b + 1))) + dd x v 0 a * 1)
    rw [h2, GF.mul_zero, GF.zero_add]
    exact GF.add_comm _ _
theorem pr_root (x : Nat → GF) (b : Nat) : ∀ k, b < k → pr x 0 k (x b) = 0 := by
  intro k
  induction k with
  | zero => intro h; omega
  | succ k ih =>
    intro h
    rw [pr]
    by_cases e : b = k
    · subst e; rw [Nat.zero_add, GF.add_self, GF.mul_zero]
    · rw [ih (by omega), GF.zero_mul]
theorem newton_all (x v : Nat → GF) (n : Nat) (hx : ∀ i j, i < n → j < n → i ≠ j → x i ≠ x j) (b : Nat) (hb : b < n) : sm n (fun k => dd x v k 0 * pr x 0 k (x b)) = v b := by
  have h := newton_at x v b 0 (fun i j hi hj hne => hx i j (by omega) (by omega) hne)
  rw [Nat.zero_add] at h
  rw [← h]
  exact sm_more (by omega) fun k hk _ => by rw [pr_root x b k (by omega), GF.mul_zero]

/-- A list of coefficients times X + x, and c. -/
def mx (x : GF) : GF → List GF → List GF
  | c, [] => [c]
  | c, a :: l => (a * x + c) :: mx x a l
theorem evl_mx (x y : GF) : ∀ (l : List GF) (c : GF), evl (mx x c l) y = c + (y + x) * evl l y := by
  intro l
  induction l with
  | nil => intro c; show c + y * 0 = c + (y + x) * 0; rw [GF.mul_zero, GF.mul_zero]
  | cons a l ih =>
    intro c
    show a * x + c + y * evl (mx x a l) y = c + (y + x) * (a + y * evl l y)
    rw [ih]
    simp only [GF.mul_add, GF.add_mul, GF.mul_assoc]
    rw [GF.mul_comm a x, GF.mul_left_comm y x]; ac_rfl
theorem mx_length (x : GF) : ∀ (l : List GF) (c : GF), (mx x c l).length = l.length + 1 := by
  intro l
  induction l with
  | nil => intro c; rfl
  | cons a l ih => intro c; show (mx x a l).length + 1 = l.length + 1 + 1; rw [ih]
/-- The nested products, multiplied out from the last on: s steps done. -/
def hn (x d : Nat → GF) (n : Nat) : Nat → List GF
  | 0 => []
  | s + 1 => mx (x (n - 1 - s)) (d (n - 1 - s)) (hn x d n s)
theorem hn_length (x d : Nat → GF) (n s : Nat) : (hn x d n s).length = s := by
  induction s with
  | zero => rfl
  | succ s ih => rw [hn, mx_length, ih]
theorem hn_part (x d : Nat → GF) (n : Nat) (y : GF) (s : Nat) : s ≤ n → sm (n - s) (fun k => d k * pr x 0 k y) + pr x 0 (n - s) y * evl (hn x d n s) y = sm n (fun k => d k * pr x 0 k y) := by
  induction s with
  | zero => intro _; show _ + _ * 0 = _; rw [GF.mul_zero, GF.add_zero]; rfl
  | succ s ih =>
    intro hs
    have h := ih (by omega)
    rw [← h, hn, evl_mx, show n - s = (n - (s + 1)) + 1 from by omega, sm, pr, Nat.zero_add, show n - 1 - s = n - (s + 1) from by omega]
    simp only [GF.mul_add, GF.add_mul, GF.mul_assoc]
    rw [GF.mul_comm (d (n - (s + 1)))]; ac_rfl
/-- Newton's polynomial has the given values. -/
theorem hn_at (x v : Nat → GF) (n : Nat) (hx : ∀ i j, i < n → j < n → i ≠ j → x i ≠ x j) (b : Nat) (hb : b < n) : evl (hn x (fun k => dd x v k 0) n n) (x b) = v b := by
  have h := hn_part x (fun k => dd x v k 0) n (x b) n (Nat.le_refl _)
  rw [newton_all x v n hx b hb, Nat.sub_self] at h
  have h2 : (0 : GF) + 1 * evl (hn x (fun k => dd x v k 0) n n) (x b) = v b := h
  rwa [GF.zero_add, GF.one_mul] at h2
theorem Po_hn (x d : Nat → GF) (n : Nat) : Po n (evl (hn x d n n)) := ⟨_, hn_length x d n n, fun _ => rfl⟩
/-- Zeros at the end count for nothing. -/
theorem evl_zeros (l z : List GF) (hz : ∀ c ∈ z, c = 0) (y : GF) : evl (l ++ z) y = evl l y := by
  induction l with
  | nil =>
    show evl z y = 0
    induction z with
    | nil => rfl
    | cons c z ih =>
      show c + y * evl z y = 0
      rw [hz c (by simp), ih (fun c hc => hz c (by simp [hc])), GF.mul_zero, GF.add_zero]
  | cons a l ih => show a + y * evl (l ++ z) y = a + y * evl l y; rw [ih]
end Go.Proofs.Ytpnmmedjamkmeaa

/- Walks of layer 4: Over16, degree, copied, refuses, Eval. -/
set_option linter.unusedSimpArgs false
set_option linter.unusedVariables false
set_option linter.unusedSimpArgs false
namespace Go.Proofs.Ytpnmmedjamkmeaa
open Go.RowKit

def rgCells : List Value := [.func (Fn.func 72) #[] #[], .func (Fn.func 73) #[] #[]]
/-- A ring lies at R. -/
def Rng (w : World) (R : Nat) : Prop := Own w 122 R rgCells []
theorem Rng.keptNo {w w' : World} {R : Nat} (h : Rng w R) (hc : Chg No w w') : Rng w' R := Own.keptNo h hc
theorem Rng.kept {w w' : World} {S : Nat → Prop} {R : Nat} (h : Rng w R) (hc : Chg S w w') (hs : ¬ S R) : Rng w' R := Own.kept h hc hs
theorem Rng.c0 {w : World} {R : Nat} (h : Rng w R) : w.cell? ⟨R, 0, none⟩ = some (.func (Fn.func 72) #[] #[]) := Own.cell (i := 0) h (by simp [rgCells])
theorem Rng.c1 {w : World} {R : Nat} (h : Rng w R) : w.cell? ⟨R, 1, none⟩ = some (.func (Fn.func 73) #[] #[]) := Own.cell (i := 1) h (by simp [rgCells])
theorem Over16_calls (w : World) : Calls Try.prog 41 #[] w fun e w' => e = .returned (.pointer (some ⟨w.heap.size, 0, none⟩)) ∧ Rng w' w.heap.size ∧ Chg No w w' := by
  go_enter Try.func41, Try.ntmps41
  go_wp2_with fail
  go_ret
  exact ⟨rfl, heap_alloc_new w _, (Chg.refl _ _).alloc _⟩

/-- From z on the list holds zeros. -/
def Trm (l : List Nat) (z : Nat) : Prop := z ≤ l.length ∧ ∀ j, z ≤ j → j < l.length → gn l j = 0
def DegPost (l : List Nat) (w : World) (e : Ending) (w' : World) : Prop := ∃ z : Nat, e = .returned (.int .i64 ((z : Int) - 1)) ∧ Trm l z ∧ w' = w
theorem degree_calls (p : Option Addr) (n c : Nat) (l : List Nat) (w : World) (hl : Rn w .u16 p l) (hn : l.length = n) (hm : n ≤ 65536) :
    Calls Try.prog 109 #[.slice p n c] w (DegPost l w) := by
  have HL := hid hl
  have HN := hid hn
  clear hl hn
  go_enter Try.func109, Try.ntmps109
  go_wp2_with fail
  go_loop [3] (fun i => ∃ z : Nat, z ≤ n ∧ i = .int .i64 ((z : Int) - 1) ∧ ∀ j, z ≤ j → j < n → gn l j = 0) (fun i => (intOf i + 1).toNat)
  case atStart => exact ⟨n, Nat.le_refl _, rfl, fun j h1 h2 => by omega⟩
  case round =>
    obtain ⟨z, hz, rfl, h0⟩ := hrel
    have HZ := hid h0
    clear h0
    cases z with
    | zero =>
      rw [show (((0 : Nat) : Int) - 1) = -1 from rfl]
      go_wp2_with fail
      go_ret
      exact ⟨0, rfl, ⟨Nat.zero_le _, fun j h1 h2 => HZ.out j h1 (by rw [← HN.out]; exact h2)⟩, rfl⟩
    | succ y =>
      rw [show (((y + 1 : Nat) : Int) - 1) = (y : Int) from by omega]
      obtain ⟨b, off, rfl, hc⟩ := HL.out y (by rw [HN.out]; omega)
      by_cases hv : gn l y = 0
      · have HV := hid hv
        rw [hv] at hc
        clear hv
        go_wp2_with fail
        go_round
        case rel => exact ⟨y, by omega, rfl, fun j h1 h2 => by
          by_cases e : j = y
          · rw [e]; exact HV.out
          · exact HZ.out j (by omega) h2⟩
        case measure => simp [intOf]
      · have hv2 : ((gn l y : Int) == 0) = false := by simpa using hv
        clear hv
        generalize gn l y = v at *
        go_wp2_with fail
        go_ret
        exact ⟨y + 1, by show Ending.returned (Value.int .i64 (y : Int)) = _; rw [show (((y + 1 : Nat) : Int) - 1) = (y : Int) from by omega], ⟨by rw [HN.out]; exact hz, fun j h1 h2 => HZ.out j h1 (by rw [← HN.out]; exact h2)⟩, rfl⟩

def CopPost (l : List Nat) (w : World) (e : Ending) (w' : World) : Prop := ∃ q z cap, e = .returned (.slice q z cap) ∧ Trm l z ∧ Rn w' .u16 q (l.take z) ∧ Chg No w w'
theorem Rn.addCell {w : World} {k : IntKind} {b off : Nat} {l : List Nat} (h : Rn w k (some ⟨b, off, none⟩) l) : ∀ jj u, (nv k l)[jj]? = some u → w.cell? ((⟨b, off, none⟩ : Addr).add jj) = some u := by
  intro jj u hu
  have hadd : (⟨b, off, none⟩ : Addr).add jj = ⟨b, off + jj, none⟩ := by unfold Addr.add; split <;> simp_all
  have hjl : jj < l.length := by
    have := (List.getElem?_eq_some_iff.1 hu).1
    simpa using this
  obtain ⟨b2, off2, he, hc2⟩ := h jj hjl
  obtain ⟨rfl, rfl⟩ : b = b2 ∧ off = off2 := by simpa using he
  rw [hadd, hc2, ← nv_get? _ _ _ hjl, hu]
theorem gn_take' (l : List Nat) (k i : Nat) (h : i < k) : gn (l.take k) i = gn l i := by
  simp only [gn, List.getD_eq_getElem?_getD]
  rw [List.getElem?_take, if_pos h]
theorem Rn.take {w : World} {kk : IntKind} {p : Option Addr} {l : List Nat} (h : Rn w kk p l) (k : Nat) : Rn w kk p (l.take k) := by
  intro i hi
  rw [List.length_take] at hi
  rw [gn_take' _ _ _ (by omega)]
  exact h i (by omega)
theorem nilOwns (w : World) (e : TypeId) : w.ownsRow w.heap.size e 1 (.slice none 0 0) 0 [] := ⟨rfl, .inl ⟨rfl, rfl⟩⟩
set_option maxRecDepth 20000 in
theorem copied_calls (p : Option Addr) (n c : Nat) (l : List Nat) (w : World) (hl : Rn w .u16 p l) (hn : l.length = n) (hm : n ≤ 65536) (hc : n ≤ c) :
    Calls Try.prog 98 #[.slice p n c] w (CopPost l w) := by
  have HL := hid hl
  have HN := hid hn
  have HDG := hid (degree_calls p n c l w hl hn hm)
  unfold DegPost at HDG
  clear hl hn
  go_enter Try.func98, Try.ntmps98
  go_wp2_with fail
  refine HDG.out.mono ?_
  rintro e w1 ⟨z, rfl, hT, rfl⟩
  have hzn : z ≤ n := by have := hT.1; rwa [HN.out] at this
  have HT := hid hT
  have hz1 : (z : Int) - 1 + 1 = (z : Int) := by omega
  clear hT
  by_cases h0 : z = 0
  · subst h0
    go_wp2_with (at_builtin; (with_reducible refine wpList_appNone 32 none p 0 0 c ?_ (Nat.le_refl _) ?_ ?_ ?_); exact ⟨rfl, rfl⟩; exact Try.underlying24; kernel_rfl)
    go_ret
    exact ⟨none, 0, 0, rfl, HT.out, fun i hi => by simp at hi, Chg.refl _ _⟩
  · obtain ⟨b, off, rfl, _⟩ := HL.out 0 (by rw [HN.out]; omega)
    have HRC := hid (HL.out.take z).addCell
    have HTL : Hid ((nv .u16 (l.take z)).length = z) := hid (by rw [nv_length, List.length_take, HN.out]; omega)
    have HOW := hid (nilOwns w1 32)
    go_wp2_with (at_builtin; (with_reducible refine wpList_app HOW.out ⟨b, off, none⟩ (nv .u16 (l.take z)) ?_ (.int .u16 0) z c 2 ?_ ?_ ?_ ?_ ?_ ?_ ?_ ?_ ?_ ?_); exact HRC.out; exact ⟨rfl, rfl⟩; exact HTL.out; exact Try.underlying24; kernel_rfl; rfl; exact nv_one; (unfold maxLen; omega); omega; exact Nat.le_refl _; intro v2 W2 hO2 hg2)
    rcases own_of_ownsRow hO2 with ⟨_, h0, _⟩ | ⟨g2, cap2, rest2, hv2, hb2, hOg, hlg, hcg, hmg⟩
    · exact absurd h0 (by omega)
    subst hv2
    rw [List.nil_append] at hOg
    rw [Nat.zero_add]
    have hC2 : Chg No w1 W2 := (Chg.refl No w1).grown hg2 (fun k hk => by simp [Value.ownBlock] at hk)
    go_ret
    exact ⟨_, z, cap2, rfl, HT.out, hOg.rn, hC2⟩

theorem prefuses_calls (R G n m c d : Nat) (p q : Option Addr) (w : World) (hO : Own w 24 G [.slice p n c, .slice q m d] []) (hn : n ≤ 1024) (hm : m ≤ 1024) :
    Calls Try.prog 74 #[.pointer (some ⟨R, 0, none⟩), .slice (some ⟨G, 0, none⟩) 2 2] w fun e w' => e = .returned (.int .i64 0) ∧ w' = w := by
  have c0 : w.cell? ⟨G, 0, none⟩ = some (.slice p n c) := hO.cell (i := 0) (by simp)
  have c1 : w.cell? ⟨G, 1, none⟩ = some (.slice q m d) := hO.cell (i := 1) (by simp)
  clear hO
  go_enter Try.func74, Try.ntmps74
  go_wp2_with fail
  go_loop [11] (fun i => ∃ j : Nat, j ≤ 2 ∧ i = .int .i64 (j : Int)) (fun i => 2 - (intOf i).toNat)
  case atStart => exact ⟨0, by omega, rfl⟩
  case round =>
    obtain ⟨j, hj, rfl⟩ := hrel
    have d1 : decide (1024 < (n : Int)) = false := by simp; omega
    have d2 : decide (1024 < (m : Int)) = false := by simp; omega
    have h3 : j = 0 ∨ j = 1 ∨ j = 2 := by omega
    rcases h3 with rfl | rfl | rfl
    · go_wp2_with fail
      go_round
      case rel => exact ⟨1, by omega, rfl⟩
      case measure => simp [intOf]
    · go_wp2_with fail
      go_round
      case rel => exact ⟨2, by omega, rfl⟩
      case measure => simp [intOf]
    · go_wp2_with fail
      go_ret
      exact ⟨rfl, rfl⟩

/-- The value of a list of numbers, as coefficients. -/
def evn (l : List Nat) (x : Nat) : Nat := (evl (l.map gf) (gf x)).v
theorem evn_lt (l : List Nat) (x : Nat) : evn l x < 65536 := GF.v_lt _
theorem evn_nil (x : Nat) : evn [] x = 0 := rfl
theorem evn_drop (l : List Nat) (x y : Nat) (hy : y < l.length) (hl : gn l y < 65536) (hx : x < 65536) : gmul (evn (l.drop (y + 1)) x) x ^^^ gn l y = evn (l.drop y) x := by
  rw [List.drop_eq_getElem_cons hy, ← gn_get l y hy]
  unfold evn
  rw [List.map_cons]
  show _ = (gf (gn l y) + gf x * evl _ (gf x)).v
  rw [GF.v_add, GF.v_mul, gf_v hl, gf_v hx, gmul_comm hx (GF.v_lt _), Nat.xor_comm]
set_option maxRecDepth 20000 in
theorem pEval_calls (R n c x : Nat) (p : Option Addr) (l : List Nat) (w : World) (hR : Rng w R) (hl : Rn w .u16 p l) (hn : l.length = n) (hm : n ≤ 65536) (hb : ∀ i, gn l i < 65536) (hx : x < 65536) :
    Calls Try.prog 44 #[.pointer (some ⟨R, 0, none⟩), .slice p n c, .int .u16 (x : Int)] w fun e w' => e = .returned (.int .u16 (evn l x : Int)) ∧ ∃ N, w' = w.drewN N := by
  have HR := hid hR
  have HL := hid hl
  have HN := hid hn
  have HB := hid hb
  have HM := hid (fun a b ha hb w => gMul_calls a b ha hb w)
  have HE := hid (fun y (h1 : y < l.length) => evn_drop l x y h1 (hb y) hx)
  clear hR hl hn hb
  go_enter Try.func44, Try.ntmps44
  go_wp2_with fail
  go_loopw [7, 8] (fun v i wr => ∃ z : Nat, z ≤ n ∧ i = .int .i64 ((z : Int) - 1) ∧ v = .int .u16 (evn (l.drop z) x : Int) ∧ ∃ N, wr = w.drewN N) (fun _ i _ => (intOf i + 1).toNat)
  case atStart => exact ⟨n, Nat.le_refl _, rfl, by rw [← HN.out, List.drop_length]; rfl, 0, rfl⟩
  case round =>
    obtain ⟨z, hz, rfl, rfl, N, hN⟩ := hrel
    obtain ⟨w1, rfl⟩ : ∃ w1 : World, w1 = wr := ⟨_, rfl⟩
    have hC : Chg No w w1 := by rw [hN]; exact (Chg.refl _ _).drewN _
    have c0 := (HR.out.keptNo hC).c0
    have HNW := hid hN
    clear hN
    cases z with
    | zero =>
      rw [show (((0 : Nat) : Int) - 1) = -1 from rfl]
      rw [List.drop_zero]
      go_wp2_with fail
      go_ret
      exact ⟨rfl, N, HNW.out⟩
    | succ y =>
      rw [show (((y + 1 : Nat) : Int) - 1) = (y : Int) from by omega]
      obtain ⟨b, off, rfl, hc⟩ := (HL.out.keptNo hC) y (by rw [HN.out]; omega)
      have HEV := hid (HE.out y (by rw [HN.out]; omega))
      have HV := hid (evn_lt (l.drop (y + 1)) x)
      have HG := hid (HB.out y)
      clear hC
      generalize evn (l.drop (y + 1)) x = v at *
      generalize gn l y = a at *
      go_wp2_with fail
      go_quiet ((go_at_call 72; exact Calls.quiet_of_same (HM.out _ _ HV.out hx _)))
      go_wp2_with fail
      go_roundw
      case rel => exact ⟨y, by omega, rfl, by rw [← HEV.out, Go.u16_xor_nat _ _ (gmul_lt HV.out _) HG.out], N + nq, by rw [HNW.out, World.drewN_drewN]⟩
      case measure => simp [intOf]
end Go.Proofs.Ytpnmmedjamkmeaa

/- The states of Newton's interpolation, as lists of numbers. -/
set_option linter.unusedVariables false
set_option linter.unusedSimpArgs false
namespace Go.Proofs.Ytpnmmedjamkmeaa

/-- Entry j after k passes. -/
def dat (x v : Nat → GF) (k j : Nat) : Nat := (dd x v (min k j) (j - min k j)).v
theorem dat_lt (x v : Nat → GF) (k j : Nat) : dat x v k j < 65536 := GF.v_lt _
/-- The list within pass k: from t on it is done. -/
def dst (x v : Nat → GF) (n k t : Nat) : List Nat := (List.range n).map fun j => if t ≤ j then dat x v k j else dat x v (k - 1) j
@[simp] theorem dst_length (x v : Nat → GF) (n k t : Nat) : (dst x v n k t).length = n := by simp [dst]
theorem gn_dst (x v : Nat → GF) (n k t j : Nat) (h : j < n) : gn (dst x v n k t) j = if t ≤ j then dat x v k j else dat x v (k - 1) j := by
  rw [gn_get _ _ (by simpa using h)]; simp [dst]
theorem dst_lt (x v : Nat → GF) (n k t j : Nat) : gn (dst x v n k t) j < 65536 := by
  by_cases h : j < n
  · rw [gn_dst _ _ _ _ _ _ h]; split <;> exact dat_lt _ _ _ _
  · rw [gn_out _ _ (by rw [dst_length]; omega)]; omega
theorem dst_start (x : Nat → GF) {n : Nat} {vs : List Nat} (hn : vs.length = n) (hb : ∀ i, gn vs i < 65536) : dst x (fun i => gf (gn vs i)) n 1 n = vs := by
  refine ext_gn (by rw [dst_length, hn]) fun j hj => ?_
  rw [dst_length] at hj
  rw [gn_dst _ _ _ _ _ _ hj, if_neg (by omega)]
  show (dd x _ (min 0 j) (j - min 0 j)).v = _
  rw [Nat.zero_min]
  exact gf_v (hb j)
theorem dst_next (x v : Nat → GF) (n k : Nat) : dst x v n k k = dst x v n (k + 1) n := by
  refine ext_gn (by simp) fun j hj => ?_
  rw [dst_length] at hj
  rw [gn_dst _ _ _ _ _ _ hj, gn_dst _ _ _ _ _ _ hj, if_neg (show ¬ n ≤ j by omega), Nat.add_sub_cancel]
  split
  · rfl
  · unfold dat
    rw [Nat.min_eq_right (show j ≤ k - 1 by omega), Nat.min_eq_right (show j ≤ k by omega)]
theorem dst_set (x v : Nat → GF) (n k y : Nat) (hy : y < n) : (dst x v n k (y + 1)).set y (dat x v k y) = dst x v n k y := by
  refine ext_gn (by simp) fun j hj => ?_
  rw [List.length_set, dst_length] at hj
  rw [gn_set _ _ _ _ (by simpa using hy), gn_dst _ _ _ _ _ _ hj, gn_dst _ _ _ _ _ _ hj]
  by_cases c : j = y
  · subst c; rw [if_pos rfl, if_pos (Nat.le_refl _)]
  · rw [if_neg c]
    by_cases c2 : y ≤ j
    · rw [if_pos c2, if_pos (by omega)]
    · rw [if_neg c2, if_neg (by omega)]
theorem gn_dst_y (x v : Nat → GF) (n k y : Nat) (hy : y < n) : gn (dst x v n k (y + 1)) y = dat x v (k - 1) y := by
  rw [gn_dst _ _ _ _ _ _ hy, if_neg (by omega)]
theorem gn_dst_p (x v : Nat → GF) (n k y : Nat) (hy : y < n) : gn (dst x v n k (y + 1)) (y - 1) = dat x v (k - 1) (y - 1) := by
  rw [gn_dst _ _ _ _ _ _ (by omega), if_neg (by omega)]
theorem dat_step {xs : List Nat} (hb : ∀ i, gn xs i < 65536) (v : Nat → GF) (k y : Nat) (h1 : 1 ≤ k) (h2 : k ≤ y) :
    gmul (dat (fun i => gf (gn xs i)) v (k - 1) y ^^^ dat (fun i => gf (gn xs i)) v (k - 1) (y - 1)) (ginv (gn xs y ^^^ gn xs (y - k))) = dat (fun i => gf (gn xs i)) v k y := by
  obtain ⟨k, rfl⟩ : ∃ q, k = q + 1 := ⟨k - 1, by omega⟩
  obtain ⟨a, rfl⟩ : ∃ a, y = a + (k + 1) := ⟨y - (k + 1), by omega⟩
  unfold dat
  rw [show a + (k + 1) - 1 = a + k from by omega, show k + 1 - 1 = k from rfl, Nat.min_eq_left (show k + 1 ≤ a + (k + 1) by omega), Nat.min_eq_left (show k ≤ a + (k + 1) by omega), Nat.min_eq_left (show k ≤ a + k by omega),
    show a + (k + 1) - k = a + 1 from by omega, show a + k - k = a from by omega, show a + (k + 1) - (k + 1) = a from by omega]
  show _ = ((dd _ v k (a + 1) + dd _ v k a) * (gf (gn xs (a + k + 1)) + gf (gn xs a)).inv).v
  rw [GF.v_mul, GF.v_add, GF.v_inv, GF.v_add, gf_v (hb _), gf_v (hb _)]
  rfl
theorem dat_last (x v : Nat → GF) (n j : Nat) (h : j < n) : dat x v (n - 1) j = (dd x v j 0).v := by
  unfold dat
  rw [Nat.min_eq_right (by omega), Nat.sub_self]

/-- The coefficients, s steps done. -/
def hN (x d : Nat → GF) (n s : Nat) : List Nat := (hn x d n s).map GF.v
@[simp] theorem hN_length (x d : Nat → GF) (n s : Nat) : (hN x d n s).length = s := by simp [hN, hn_length]
theorem hN_lt (x d : Nat → GF) (n s j : Nat) : gn (hN x d n s) j < 65536 := by
  by_cases h : j < s
  · rw [gn_get _ _ (by simpa using h)]; simp only [hN, List.getElem_map]; exact GF.v_lt _
  · rw [gn_out _ _ (by rw [hN_length]; omega)]; omega
theorem gn_mx (x : GF) : ∀ (l : List GF) (c : GF) (j : Nat), gn ((mx x c l).map GF.v) j = gmul (gn (l.map GF.v) j) x.v ^^^ (if j = 0 then c.v else gn (l.map GF.v) (j - 1)) := by
  intro l
  induction l with
  | nil =>
    intro c j
    have h0 : ∀ i, gn (([] : List GF).map GF.v) i = 0 := fun i => by simp [gn]
    rw [h0, h0, zero_gmul, Nat.zero_xor]
    cases j with
    | zero => rfl
    | succ j => rw [if_neg (by omega)]; simp [mx, gn]
  | cons a l ih =>
    intro c j
    cases j with
    | zero =>
      rw [if_pos rfl]
      show (a * x + c).v = _
      rw [GF.v_add, GF.v_mul]; rfl
    | succ j =>
      rw [if_neg (by omega)]
      have e1 : gn ((mx x c (a :: l)).map GF.v) (j + 1) = gn ((mx x a l).map GF.v) j := by simp [mx, gn]
      have e2 : gn ((a :: l).map GF.v) (j + 1) = gn (l.map GF.v) j := by simp [gn]
      rw [e1, e2, ih, Nat.add_sub_cancel]
      congr 1
      cases j with
      | zero => rfl
      | succ j => rw [if_neg (by omega)]; simp [gn]
theorem gn_hN (x d : Nat → GF) (n s j : Nat) : gn (hN x d n (s + 1)) j = gmul (gn (hN x d n s) j) (x (n - 1 - s)).v ^^^ (if j = 0 then (d (n - 1 - s)).v else gn (hN x d n s) (j - 1)) := gn_mx _ _ _ _
/-- The list within a step: from t on it is done. -/
def hst (x d : Nat → GF) (n s t : Nat) : List Nat := (List.range (s + 1)).map fun j => if t ≤ j then gn (hN x d n (s + 1)) j else gn (hN x d n s) j
@[simp] theorem hst_length (x d : Nat → GF) (n s t : Nat) : (hst x d n s t).length = s + 1 := by simp [hst]
theorem gn_hst (x d : Nat → GF) (n s t j : Nat) (h : j < s + 1) : gn (hst x d n s t) j = if t ≤ j then gn (hN x d n (s + 1)) j else gn (hN x d n s) j := by
  rw [gn_get _ _ (by simpa using h)]; simp [hst]
theorem hst_lt (x d : Nat → GF) (n s t j : Nat) : gn (hst x d n s t) j < 65536 := by
  by_cases h : j < s + 1
  · rw [gn_hst _ _ _ _ _ _ h]; split <;> exact hN_lt _ _ _ _ _
  · rw [gn_out _ _ (by rw [hst_length]; omega)]; omega
theorem hst_start (x d : Nat → GF) (n s : Nat) : hst x d n s (s + 1) = hN x d n s ++ [0] := by
  refine ext_gn (by simp) fun j hj => ?_
  rw [hst_length] at hj
  rw [gn_hst _ _ _ _ _ _ hj, if_neg (by omega)]
  by_cases h : j < s
  · simp only [gn, List.getD_eq_getElem?_getD]
    rw [List.getElem?_append_left (by simpa using h)]
  · obtain rfl : j = s := by omega
    rw [gn_out _ _ (by rw [hN_length]; omega)]
    simp only [gn, List.getD_eq_getElem?_getD]
    rw [List.getElem?_append_right (by simp), hN_length, Nat.sub_self]; rfl
theorem hst_set (x d : Nat → GF) (n s y : Nat) (hy : y < s + 1) : (hst x d n s (y + 1)).set y (gn (hN x d n (s + 1)) y) = hst x d n s y := by
  refine ext_gn (by simp) fun j hj => ?_
  rw [List.length_set, hst_length] at hj
  rw [gn_set _ _ _ _ (by simpa using hy), gn_hst _ _ _ _ _ _ hj, gn_hst _ _ _ _ _ _ hj]
  by_cases c : j = y
  · subst c; rw [if_pos rfl, if_pos (Nat.le_refl _)]
  · rw [if_neg c]
    by_cases c2 : y ≤ j
    · rw [if_pos c2, if_pos (by omega)]
    · rw [if_neg c2, if_neg (by omega)]
theorem gn_hst_y (x d : Nat → GF) (n s y : Nat) (hy : y < s + 1) : gn (hst x d n s (y + 1)) y = gn (hN x d n s) y := by
  rw [gn_hst _ _ _ _ _ _ hy, if_neg (by omega)]
theorem gn_hst_p (x d : Nat → GF) (n s y : Nat) (hy : y < s + 1) : gn (hst x d n s (y + 1)) (y - 1) = gn (hN x d n s) (y - 1) := by
  rw [gn_hst _ _ _ _ _ _ (by omega), if_neg (by omega)]
theorem hst_last (x d : Nat → GF) (n s : Nat) : hst x d n s 0 = hN x d n (s + 1) := by
  refine ext_gn (by simp) fun j hj => ?_
  rw [hst_length] at hj
  rw [gn_hst _ _ _ _ _ _ hj, if_pos (by omega)]
theorem map_gf_v (l : List GF) : (l.map GF.v).map gf = l := by
  rw [List.map_map]
  conv => rhs; rw [← List.map_id l]
  exact List.map_congr_left fun a _ => v_gf a
/-- Trimmed lists have the same values. -/
theorem evn_trim {l : List Nat} {z : Nat} (h : Trm l z) (y : Nat) : evn (l.take z) y = evn l y := by
  unfold evn
  conv => rhs; rw [← List.take_append_drop z l]
  rw [List.map_append, evl_zeros]
  intro c hc
  obtain ⟨a, ha, rfl⟩ := List.mem_map.1 hc
  obtain ⟨i, hi, rfl⟩ := List.getElem_of_mem ha
  rw [List.length_drop] at hi
  rw [List.getElem_drop, ← gn_get l (z + i) (by omega), h.2 (z + i) (by omega) (by omega)]
  rfl
end Go.Proofs.Ytpnmmedjamkmeaa
