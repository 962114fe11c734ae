/- Arguments of the laws of layer 18, opened: rows of bytes, hits, shards with their numbers. -/
import Derived.Lib.SmallJoins
import Derived.Deep.Matrix
import Derived.Deep.Fields
import Derived.SizedLaws
import Derived.OpenShut
import Derived.Test.YtpnmmedjamkmeaaTellsG13
set_option linter.unusedSimpArgs false
set_option linter.unusedVariables false
set_option linter.unusedSimpArgs false
namespace Go.Proofs.Ytpnmmedjamkmeaa
open Go.RowKit Go.ChangeShapes Go.WideShapes Go.Deep Go.Joins

section
variable {H : Type} {enc : TypeId × Value → H} {P : Program}
theorem weightsAll_mem {e : TypeId} : ∀ {l : List (DataW H)} {d : DataW H}, d ∈ l → ∀ n ∈ d.weights P e, n ∈ DataW.weightsAll P e l
  | d' :: r, d, hd, n, hn => by
    simp only [DataW.weightsAll, List.mem_append]
    rcases List.mem_cons.1 hd with rfl | h
    · exact Or.inl hn
    · exact Or.inr (weightsAll_mem h n hn)
/-- The reach of a slice, and of a row inside a slice of slices. -/
theorem slice_weight {t e : TypeId} {elems spare : List (DataW H)} (hu : P.underlying t = some (.slice e)) : (elems.length + spare.length) * P.bytesOf e ∈ (DataW.slice elems spare).weights P t := by
  simp [DataW.weights, hu]
theorem row_weight {t e q : TypeId} {elems spare e' sp' : List (DataW H)} (hu : P.underlying t = some (.slice e)) (hu2 : P.underlying e = some (.slice q)) (hx : DataW.slice e' sp' ∈ elems) :
    (e'.length + sp'.length) * P.bytesOf q ∈ (DataW.slice elems spare).weights P t := by
  simp only [DataW.weights, hu, List.mem_cons, List.mem_append]
  exact Or.inr (Or.inl (weightsAll_mem hx _ (slice_weight hu2)))
end
theorem u8_wf {n : Int} (h : (Lit.int .u8 n).wf = true) : 0 ≤ n ∧ n < 256 := by
  have := bounds_u8 h
  omega
theorem plain_addr {w : World} {a : Addr} {v : Value} (h : w.cell? (a.add 0) = some v) : ∃ b off, a = ⟨b, off, none⟩ := by
  obtain ⟨b, off, key⟩ := a
  cases key with
  | none => exact ⟨b, off, rfl⟩
  | some k =>
    simp only [Addr.add, if_true, World.cell?, Option.isSome_some] at h
    split at h <;> simp at h
theorem add_zero' (a : Addr) : a.add 0 = a := by unfold Addr.add; rw [if_pos rfl]
theorem add_plain (b off i : Nat) : (⟨b, off, none⟩ : Addr).add i = ⟨b, off + i, none⟩ := by unfold Addr.add; split <;> simp_all
theorem reach_eq : reachBytes = 140737488351232 := rfl
theorem bytes42 : Try.prog.bytesOf 42 = 24 := by kernel_rfl
theorem bytes5 : Try.prog.bytesOf 5 = 1 := by kernel_rfl
theorem cells42 : Try.prog.cellsOf 42 = 1 := by kernel_rfl
theorem cells5 : Try.prog.cellsOf 5 = 1 := by kernel_rfl

section
variable {H : Type} {enc : TypeId × Value → H} {w : World} {base : Nat}
/-- Rows of bytes that came in: what they read as. -/
theorem open_rows {fuel : Nat} {cs : List Value} {x : DataW H × List MemPlace} (h : DataW.trod enc Try.prog w base (fun _ => true) true fuel 38 cs = some x)
    (hw : ∀ n ∈ x.1.weights Try.prog 38, n ≤ reachBytes) :
    ∃ (p : Option Addr) (len cap : Nat) (ds : List (List Nat)), cs = [.slice p len cap] ∧ Lr w .u8 p ds ∧ ds.length = len ∧ Byt ds ∧ len * 24 ≤ 140737488351232 ∧ len ≤ cap := by
  rcases open_int_rows Try.underlying38 Try.underlying42 Try.underlying5 cells42 cells5 h with ⟨rfl, rfl⟩ | ⟨a, len, cap, A, L, C, Z, rfl, hb, hlc, hcm, rfl, hr⟩
  · exact ⟨none, 0, 0, [], rfl, fun i hi => by simp at hi, rfl, fun i b => by simp [gl, gn], by omega, Nat.le_refl _⟩
  · have hlen : len * 24 ≤ 140737488351232 := by
      have := hw _ (slice_weight Try.underlying38)
      rw [bytes42] at this
      simp only [List.length_map, List.length_range, reach_eq] at this
      omega
    have hrow : ∀ r, r < len → L r ≤ 140737488351232 := by
      intro r hr'
      cases hA : A r with
      | none =>
        obtain ⟨_, h1, h2, _, _, h5, _⟩ := hr r (by omega)
        have := h5 hA
        omega
      | some a' =>
        obtain ⟨_, h1, h2, h3, _, _, _⟩ := hr r (by omega)
        have hx : DataW.slice (lits .u8 ((Z r).take (L r))) (lits .u8 ((Z r).drop (L r))) ∈ (List.range len).map fun r => (intRow .u8 (A r) (L r) (Z r) : DataW H) := by
          refine List.mem_map.2 ⟨r, List.mem_range.2 hr', ?_⟩
          rw [hA]; rfl
        have := hw _ (row_weight (sp' := lits .u8 ((Z r).drop (L r))) (spare := (List.range (cap - len)).map fun j => intRow .u8 (A (len + j)) (L (len + j)) (Z (len + j))) Try.underlying38 Try.underlying42 hx)
        rw [bytes5] at this
        simp only [lits, List.length_map, List.length_take, List.length_drop, reach_eq] at this
        omega
    refine ⟨some a, len, cap, (List.range len).map fun r => ((Z r).take (L r)).map Int.toNat, rfl, ?_, by simp, ?_, hlen, hlc⟩
    · intro i hi
      have hi' : i < len := by simpa using hi
      obtain ⟨h0, h1, h2, h3, h4, h5, h6⟩ := hr i (by omega)
      have hg : gl ((List.range len).map fun r => ((Z r).take (L r)).map Int.toNat) i = ((Z i).take (L i)).map Int.toNat := by
        rw [gl_get _ _ hi]; simp
      have hgl : (((Z i).take (L i)).map Int.toNat).length = L i := by simp; omega
      obtain ⟨b, off, rfl⟩ : ∃ b off, a = ⟨b, off, none⟩ := plain_addr (hr 0 (by omega)).1
      rw [add_plain] at h0
      refine ⟨b, off, A i, C i, rfl, by rw [hg, hgl]; exact h0, ?_, by rw [hg, hgl]; have := hrow i hi'; omega, by rw [hg, hgl]; exact h1⟩
      rw [hg]
      intro j hj
      rw [hgl] at hj
      cases hA : A i with
      | none => have := h5 hA; omega
      | some a' =>
        obtain ⟨hb', hc⟩ := h6 a' hA
        have hcj := hc j (by omega)
        obtain ⟨b', off', rfl⟩ : ∃ b off, a' = ⟨b, off, none⟩ := plain_addr (hc 0 (by omega))
        rw [add_plain] at hcj
        refine ⟨b', off', rfl, ?_⟩
        rw [hcj]
        have hz : j < (Z i).length := by omega
        have hwf := h4 ((Z i)[j]) (List.getElem_mem hz)
        have hrng := u8_wf hwf
        have : gn (((Z i).take (L i)).map Int.toNat) j = ((Z i)[j]).toNat := by
          rw [gn_get _ _ (by rw [hgl]; exact hj)]
          simp
        rw [this]
        simp only [List.getD_eq_getElem?_getD, List.getElem?_eq_getElem hz, Option.getD_some]
        congr 2
        omega
    · intro i x
      by_cases hi : i < len
      · obtain ⟨h0, h1, h2, h3, h4, h5, h6⟩ := hr i (by omega)
        rw [gl_get _ _ (by simpa using hi)]
        simp only [List.getElem_map, List.getElem_range]
        by_cases hx : x < (((Z i).take (L i)).map Int.toNat).length
        · rw [gn_get _ _ hx]
          simp only [List.getElem_map, List.getElem_take]
          have hz : x < (Z i).length := by simp at hx; omega
          have hwf := h4 ((Z i)[x]) (List.getElem_mem hz)
          have := u8_wf hwf
          omega
        · rw [gn_out _ _ (by omega)]; omega
      · rw [gl_out _ _ (by simpa using hi)]; simp [gn]
set_option maxRecDepth 100000 in
/-- A list of hits that came in. -/
theorem open_hits {fuel : Nat} {cs : List Value} {x : DataW H × List MemPlace} (h : DataW.trod enc Try.prog w base (fun _ => true) true fuel 41 cs = some x)
    (hw : ∀ n ∈ x.1.weights Try.prog 41, n ≤ reachBytes) :
    ∃ (p : Option Addr) (len cap : Nat), cs = [.slice p len cap] ∧ Ht w p len ∧ len * 24 ≤ 140737488351232 := by
  have hb51 : Try.prog.bytesOf 51 = 24 := by kernel_rfl
  have hc51 : Try.prog.cellsOf 51 = 3 := by kernel_rfl
  have hc3 : Try.prog.cellsOf 3 = 1 := by kernel_rfl
  rcases open_slice Try.underlying41 h with ⟨rfl, rfl⟩ | ⟨a, len, cap, m, n, D, Pl, rfl, hb, hl, hm, hmm, rfl, hi⟩
  · exact ⟨none, 0, 0, rfl, fun i hi => by omega, by omega⟩
  · have hlen : len * 24 ≤ 140737488351232 := by
      have := hw _ (slice_weight Try.underlying41)
      rw [hb51] at this
      simp only [List.length_map, List.length_range, reach_eq] at this
      omega
    simp only [if_true] at hmm
    subst hmm
    refine ⟨some a, len, m, rfl, fun i hil => ?_, hlen⟩
    have each : ∀ i, i < m → ∃ x y z : Int, w.cell? (a.add (i * 3)) = some (.int .i64 x) ∧ w.cell? ((a.add (i * 3)).add 1) = some (.int .i64 y) ∧ w.cell? ((a.add (i * 3)).add 2) = some (.int .u8 z) ∧ (Lit.int .u8 z).wf = true := by
      intro i him
      obtain ⟨cs', hc, ht'⟩ := hi i him
      rw [hc51] at hc
      obtain ⟨_, hcl, hat⟩ := World.cells?_some hc
      obtain ⟨y0, y1, y2, n', _, _, h0, h1, h2⟩ := trod_struct3 Try.underlying51 ht'
      match cs', hcl with
      | [c0, c1, c2], _ =>
        simp only [hc3, cells5, List.drop_zero, List.drop_succ_cons, List.take_succ_cons, List.take_zero] at h0 h1 h2
        obtain ⟨k0, e0, _, _⟩ := DataW.trod_int Try.underlying3 h0
        obtain ⟨k1, e1, _, _⟩ := DataW.trod_int Try.underlying3 h1
        obtain ⟨k2, e2, _, w2⟩ := DataW.trod_int Try.underlying5 h2
        simp only [List.cons.injEq, and_true] at e0 e1 e2
        have g0 := hat 0 (by omega)
        have g1 := hat 1 (by omega)
        have g2 := hat 2 (by omega)
        rw [add_zero'] at g0
        exact ⟨k0, k1, k2, by rw [g0, ← e0]; rfl, by rw [g1, ← e1]; rfl, by rw [g2, ← e2]; rfl, w2⟩
    obtain ⟨x0, _, _, hz, _, _, _⟩ := each 0 (by omega)
    rw [Nat.zero_mul] at hz
    obtain ⟨b, off, rfl⟩ := plain_addr hz
    obtain ⟨x, y, z, h0, h1, h2, hz⟩ := each i (by omega)
    simp only [add_plain] at h0 h1 h2
    have hzz := u8_wf hz
    refine ⟨b, off, x, y, z.toNat, rfl, h0, h1, ?_, by omega⟩
    rw [h2]
    congr 2
    omega
end
set_option maxRecDepth 100000 in
/-- The law's shards, with their numbers, as they come in. -/
theorem open_data {H : Type} {enc : TypeId × Value → H} {w : World} {base b0 : Nat} {r : Reach} {v : Value} {d : DataW H} {p : List MemPlace}
    (hv : Value.okWide Try.prog w r b0 40 v) (h : DataW.Trod enc Try.prog w base (fun _ => true) true 40 v d p)
    (hw : ∀ n ∈ d.weights Try.prog 40, n ≤ reachBytes) :
    ∃ (m : Int) (q q2 : Option Addr) (k c ll lc : Nat) (ds : List (List Nat)), v = .agg #[.int .i64 m, .slice q k c, .slice q2 ll lc] ∧ Lr w .u8 q ds ∧ ds.length = k ∧ Byt ds ∧ k * 24 ≤ 140737488351232 := by
  obtain ⟨v0, v1, v2, y0, y1, y2, n, rfl, rfl, rfl, h0, h1, h2⟩ := open_agg3 Try.underlying40 (by kernel_rfl) (by kernel_rfl) hv h
  obtain ⟨m, e0, _, _⟩ := DataW.trod_int Try.underlying3 h0
  obtain ⟨q, k, c, ds, e1, hl, hlk, hb, hk, _⟩ := open_rows h1 (fun n hn => hw n (by
    simp only [DataW.weights, Try.underlying40]
    exact DataW.weights_mem_each (j := 1) rfl rfl n hn))
  simp only [List.cons.injEq, and_true] at e0 e1
  subst e0 e1
  rcases open_slice Try.underlying22 h2 with ⟨e2, _⟩ | ⟨a, len, cap, _, _, _, _, e2, _⟩
  · simp only [List.cons.injEq, and_true] at e2
    subst e2
    exact ⟨m, q, none, k, c, 0, 0, ds, rfl, hl, hlk, hb, hk⟩
  · simp only [List.cons.injEq, and_true] at e2
    subst e2
    exact ⟨m, q, some a, k, c, len, cap, ds, rfl, hl, hlk, hb, hk⟩
end Go.Proofs.Ytpnmmedjamkmeaa
