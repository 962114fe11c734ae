/- Arguments of the laws of layer 18, opened: rows of bytes, hits, shards with their numbers. -/
import Derived.Lib.SmallJoins
import Derived.Deep.Matrix
import Derived.Deep.Fields
import Derived.SizedLaws
import Derived.OpenShut
import Derived.WalkSpells
import Derived.Test.YtpnmmedjamkmeaaUpdatesG13
import Derived.Test.YtpnmmedjamkmeaaUpdatesG11
set_option linter.unusedSimpArgs false
set_option linter.unusedVariables false
set_option linter.unusedSimpArgs false
namespace Go.Proofs.Ytpnmmedjamkmeaa
open Go.RowKit Go.ChangeShapes Go.WideShapes Go.Deep Go.Joins

section
variable {H : Type} {enc : TypeId × Value → H} {P : Program}
theorem weightsAll_mem {e : TypeId} : ∀ {l : List (DataW H)} {d : DataW H}, d ∈ l → ∀ n ∈ d.weights P e, n ∈ DataW.weightsAll P e l
  | d' :: r, d, hd, n, hn => by
    simp only [DataW.weightsAll, List.mem_append]
    rcases List.mem_cons.1 hd with rfl | h
    · exact Or.inl hn
    · exact Or.inr (weightsAll_mem h n hn)
/-- The reach of a slice, and of a row inside a slice of slices. -/
theorem slice_weight {t e : TypeId} {elems spare : List (DataW H)} (hu : P.underlying t = some (.slice e)) : (elems.length + spare.length) * P.bytesOf e ∈ (DataW.slice elems spare).weights P t := by
  simp [DataW.weights, hu]
theorem row_weight {t e q : TypeId} {elems spare e' sp' : List (DataW H)} (hu : P.underlying t = some (.slice e)) (hu2 : P.underlying e = some (.slice q)) (hx : DataW.slice e' sp' ∈ elems) :
    (e'.length + sp'.length) * P.bytesOf q ∈ (DataW.slice elems spare).weights P t := by
  simp only [DataW.weights, hu, List.mem_cons, List.mem_append]
  exact Or.inr (Or.inl (weightsAll_mem hx _ (slice_weight hu2)))
end
theorem u8_wf {n : Int} (h : (Lit.int .u8 n).wf = true) : 0 ≤ n ∧ n < 256 := by
  have := bounds_u8 h
  omega
theorem plain_addr {w : World} {a : Addr} {v : Value} (h : w.cell? (a.add 0) = some v) : ∃ b off, a = ⟨b, off, none⟩ := by
  obtain ⟨b, off, key⟩ := a
  cases key with
  | none => exact ⟨b, off, rfl⟩
  | some k =>
    simp only [Addr.add, if_true, World.cell?, Option.isSome_some] at h
    split at h <;> simp at h
theorem add_zero' (a : Addr) : a.add 0 = a := by unfold Addr.add; rw [if_pos rfl]
theorem add_plain (b off i : Nat) : (⟨b, off, none⟩ : Addr).add i = ⟨b, off + i, none⟩ := by unfold Addr.add; split <;> simp_all
theorem reach_eq : reachBytes = 140737488351232 := rfl
theorem bytes42 : Try.prog.bytesOf 42 = 24 := by kernel_rfl
theorem bytes5 : Try.prog.bytesOf 5 = 1 := by kernel_rfl
theorem cells42 : Try.prog.cellsOf 42 = 1 := by kernel_rfl
theorem cells5 : Try.prog.cellsOf 5 = 1 := by kernel_rfl

section
variable {H : Type} {enc : TypeId × Value → H} {w : World} {base : Nat}
/-- Rows of bytes that came in: what they read as. -/
theorem open_rows {fuel : Nat} {cs : List Value} {x : DataW H × List MemPlace} (h : DataW.trod enc Try.prog w base (fun _ => true) true fuel 38 cs = some x)
    (hw : ∀ n ∈ x.1.weights Try.prog 38, n ≤ reachBytes) :
    ∃ (p : Option Addr) (len cap : Nat) (ds : List (List Nat)), cs = [.slice p len cap] ∧ Lr w .u8 p ds ∧ ds.length = len ∧ Byt ds ∧ len * 24 ≤ 140737488351232 ∧ len ≤ cap := by
  rcases open_int_rows Try.underlying38 Try.underlying42 Try.underlying5 cells42 cells5 h with ⟨rfl, rfl⟩ | ⟨a, len, cap, A, L, C, Z, rfl, hb, hlc, hcm, rfl, hr⟩
  · exact ⟨none, 0, 0, [], rfl, fun i hi => by simp at hi, rfl, fun i b => by simp [gl, gn], by omega, Nat.le_refl _⟩
  · have hlen : len * 24 ≤ 140737488351232 := by
      have := hw _ (slice_weight Try.underlying38)
      rw [bytes42] at this
      simp only [List.length_map, List.length_range, reach_eq] at this
      omega
    have hrow : ∀ r, r < len → L r ≤ 140737488351232 := by
      intro r hr'
      cases hA : A r with
      | none =>
        obtain ⟨_, h1, h2, _, _, h5, _⟩ := hr r (by omega)
        have := h5 hA
        omega
      | some a' =>
        obtain ⟨_, h1, h2, h3, _, _, _⟩ := hr r (by omega)
        have hx : DataW.slice (lits .u8 ((Z r).take (L r))) (lits .u8 ((Z r).drop (L r))) ∈ (List.range len).map fun r => (intRow .u8 (A r) (L r) (Z r) : DataW H) := by
          refine List.mem_map.2 ⟨r, List.mem_range.2 hr', ?_⟩
          rw [hA]; rfl
        have := hw _ (row_weight (sp' := lits .u8 ((Z r).drop (L r))) (spare := (List.range (cap - len)).map fun j => intRow .u8 (A (len + j)) (L (len + j)) (Z (len + j))) Try.underlying38 Try.underlying42 hx)
        rw [bytes5] at this
        simp only [lits, List.length_map, List.length_take, List.length_drop, reach_eq] at this
        omega
    refine ⟨some a, len, cap, (List.range len).map fun r => ((Z r).take (L r)).map Int.toNat, rfl, ?_, by simp, ?_, hlen, hlc⟩
    · intro i hi
      have hi' : i < len := by simpa using hi
      obtain ⟨h0, h1, h2, h3, h4, h5, h6⟩ := hr i (by omega)
      have hg : gl ((List.range len).map fun r => ((Z r).take (L r)).map Int.toNat) i = ((Z i).take (L i)).map Int.toNat := by
        rw [gl_get _ _ hi]; simp
      have hgl : (((Z i).take (L i)).map Int.toNat).length = L i := by simp; omega
      obtain ⟨b, off, rfl⟩ : ∃ b off, a = ⟨b, off, none⟩ := plain_addr (hr 0 (by omega)).1
      rw [add_plain] at h0
      refine ⟨b, off, A i, C i, rfl, by rw [hg, hgl]; exact h0, ?_, by rw [hg, hgl]; have := hrow i hi'; omega, by rw [hg, hgl]; exact h1⟩
      rw [hg]
      intro j hj
      rw [hgl] at hj
      cases hA : A i with
      | none => have := h5 hA; omega
      | some a' =>
        obtain ⟨hb', hc⟩ := h6 a' hA
        have hcj := hc j (by omega)
        obtain ⟨b', off', rfl⟩ : ∃ b off, a' = ⟨b, off, none⟩ := plain_addr (hc 0 (by omega))
        rw [add_plain] at hcj
        refine ⟨b', off', rfl, ?_⟩
        rw [hcj]
        have hz : j < (Z i).length := by omega
        have hwf := h4 ((Z i)[j]) (List.getElem_mem hz)
        have hrng := u8_wf hwf
        have : gn (((Z i).take (L i)).map Int.toNat) j = ((Z i)[j]).toNat := by
          rw [gn_get _ _ (by rw [hgl]; exact hj)]
          simp
        rw [this]
        simp only [List.getD_eq_getElem?_getD, List.getElem?_eq_getElem hz, Option.getD_some]
        congr 2
        omega
    · intro i x
      by_cases hi : i < len
      · obtain ⟨h0, h1, h2, h3, h4, h5, h6⟩ := hr i (by omega)
        rw [gl_get _ _ (by simpa using hi)]
        simp only [List.getElem_map, List.getElem_range]
        by_cases hx : x < (((Z i).take (L i)).map Int.toNat).length
        · rw [gn_get _ _ hx]
          simp only [List.getElem_map, List.getElem_take]
          have hz : x < (Z i).length := by simp at hx; omega
          have hwf := h4 ((Z i)[x]) (List.getElem_mem hz)
          have := u8_wf hwf
          omega
        · rw [gn_out _ _ (by omega)]; omega
      · rw [gl_out _ _ (by simpa using hi)]; simp [gn]
set_option maxRecDepth 100000 in
/-- A list of hits that came in. -/
theorem open_hits {fuel : Nat} {cs : List Value} {x : DataW H × List MemPlace} (h : DataW.trod enc Try.prog w base (fun _ => true) true fuel 41 cs = some x)
    (hw : ∀ n ∈ x.1.weights Try.prog 41, n ≤ reachBytes) :
    ∃ (p : Option Addr) (len cap : Nat), cs = [.slice p len cap] ∧ Ht w p len ∧ len * 24 ≤ 140737488351232 := by
  have hb51 : Try.prog.bytesOf 51 = 24 := by kernel_rfl
  have hc51 : Try.prog.cellsOf 51 = 3 := by kernel_rfl
  have hc3 : Try.prog.cellsOf 3 = 1 := by kernel_rfl
  rcases open_slice Try.underlying41 h with ⟨rfl, rfl⟩ | ⟨a, len, cap, m, n, D, Pl, rfl, hb, hl, hm, hmm, rfl, hi⟩
  · exact ⟨none, 0, 0, rfl, fun i hi => by omega, by omega⟩
  · have hlen : len * 24 ≤ 140737488351232 := by
      have := hw _ (slice_weight Try.underlying41)
      rw [hb51] at this
      simp only [List.length_map, List.length_range, reach_eq] at this
      omega
    simp only [if_true] at hmm
    subst hmm
    refine ⟨some a, len, m, rfl, fun i hil => ?_, hlen⟩
    have each : ∀ i, i < m → ∃ x y z : Int, w.cell? (a.add (i * 3)) = some (.int .i64 x) ∧ w.cell? ((a.add (i * 3)).add 1) = some (.int .i64 y) ∧ w.cell? ((a.add (i * 3)).add 2) = some (.int .u8 z) ∧ (Lit.int .u8 z).wf = true := by
      intro i him
      obtain ⟨cs', hc, ht'⟩ := hi i him
      rw [hc51] at hc
      obtain ⟨_, hcl, hat⟩ := World.cells?_some hc
      obtain ⟨y0, y1, y2, n', _, _, h0, h1, h2⟩ := trod_struct3 Try.underlying51 ht'
      match cs', hcl with
      | [c0, c1, c2], _ =>
        simp only [hc3, cells5, List.drop_zero, List.drop_succ_cons, List.take_succ_cons, List.take_zero] at h0 h1 h2
        obtain ⟨k0, e0, _, _⟩ := DataW.trod_int Try.underlying3 h0
        obtain ⟨k1, e1, _, _⟩ := DataW.trod_int Try.underlying3 h1
        obtain ⟨k2, e2, _, w2⟩ := DataW.trod_int Try.underlying5 h2
        simp only [List.cons.injEq, and_true] at e0 e1 e2
        have g0 := hat 0 (by omega)
        have g1 := hat 1 (by omega)
        have g2 := hat 2 (by omega)
        rw [add_zero'] at g0
        exact ⟨k0, k1, k2, by rw [g0, ← e0]; rfl, by rw [g1, ← e1]; rfl, by rw [g2, ← e2]; rfl, w2⟩
    obtain ⟨x0, _, _, hz, _, _, _⟩ := each 0 (by omega)
    rw [Nat.zero_mul] at hz
    obtain ⟨b, off, rfl⟩ := plain_addr hz
    obtain ⟨x, y, z, h0, h1, h2, hz⟩ := each i (by omega)
    simp only [add_plain] at h0 h1 h2
    have hzz := u8_wf hz
    refine ⟨b, off, x, y, z.toNat, rfl, h0, h1, ?_, by omega⟩
    rw [h2]
    congr 2
    omega
end
set_option maxRecDepth 100000 in
/-- The law's shards, with their numbers, as they come in. -/
theorem open_data {H : Type} {enc : TypeId × Value → H} {w : World} {base b0 : Nat} {r : Reach} {v : Value} {d : DataW H} {p : List MemPlace}
    (hv : Value.okWide Try.prog w r b0 40 v) (h : DataW.Trod enc Try.prog w base (fun _ => true) true 40 v d p)
    (hw : ∀ n ∈ d.weights Try.prog 40, n ≤ reachBytes) :
    ∃ (m : Int) (q q2 : Option Addr) (k c ll lc : Nat) (ds : List (List Nat)), v = .agg #[.int .i64 m, .slice q k c, .slice q2 ll lc] ∧ Lr w .u8 q ds ∧ ds.length = k ∧ Byt ds ∧ k * 24 ≤ 140737488351232 := by
  obtain ⟨v0, v1, v2, y0, y1, y2, n, rfl, rfl, rfl, h0, h1, h2⟩ := open_agg3 Try.underlying40 (by kernel_rfl) (by kernel_rfl) hv h
  obtain ⟨m, e0, _, _⟩ := DataW.trod_int Try.underlying3 h0
  obtain ⟨q, k, c, ds, e1, hl, hlk, hb, hk, _⟩ := open_rows h1 (fun n hn => hw n (by
    simp only [DataW.weights, Try.underlying40]
    exact DataW.weights_mem_each (j := 1) rfl rfl n hn))
  simp only [List.cons.injEq, and_true] at e0 e1
  subst e0 e1
  rcases open_slice Try.underlying22 h2 with ⟨e2, _⟩ | ⟨a, len, cap, _, _, _, _, e2, _⟩
  · simp only [List.cons.injEq, and_true] at e2
    subst e2
    exact ⟨m, q, none, k, c, 0, 0, ds, rfl, hl, hlk, hb, hk⟩
  · simp only [List.cons.injEq, and_true] at e2
    subst e2
    exact ⟨m, q, some a, k, c, len, cap, ds, rfl, hl, hlk, hb, hk⟩
end Go.Proofs.Ytpnmmedjamkmeaa

/- Walks of bytes.Clone, shape.Fresh, the codec's fresh. -/
set_option linter.unusedSimpArgs false
set_option linter.unusedVariables false
set_option linter.unusedSimpArgs false
namespace Go.Proofs.Ytpnmmedjamkmeaa
open Go.RowKit

/-- A row's cells, for a copy of it. -/
theorem Rn.src {w : World} {k : IntKind} {b off : Nat} {l : List Nat} (h : Rn w k (some ⟨b, off, none⟩) l) : ∀ j u, (nv k l)[j]? = some u → w.cell? ((⟨b, off, none⟩ : Addr).add j) = some u := by
  intro j u hu
  have hjl : j < l.length := by
    have := (List.getElem?_eq_some_iff.1 hu).1
    simpa using this
  obtain ⟨b2, off2, he, hc⟩ := h j hjl
  obtain ⟨rfl, rfl⟩ : b = b2 ∧ off = off2 := by simpa using he
  have hadd : (⟨b, off, none⟩ : Addr).add j = ⟨b, off + j, none⟩ := by unfold Addr.add; split <;> simp_all
  rw [hadd, hc, ← nv_get? _ _ _ hjl, hu]
/-- What a copy leaves. -/
def ClonePost (l : List Nat) (n : Nat) (w : World) (e : Ending) (w' : World) : Prop :=
  ∃ g rest, e = .returned (.slice (some ⟨g, 0, none⟩) n (n + rest.length)) ∧ Own w' 5 g (nv .u8 l) rest ∧ w.heap.size ≤ g ∧ Chg No w w'
set_option maxRecDepth 20000 in
theorem Clone_calls (p : Option Addr) (n c : Nat) (l : List Nat) (w : World) (hr : Rn w .u8 p l) (hl : l.length = n) (h0 : 0 < n) (hm : n ≤ 140737488355328) :
    Calls Try.prog 80 #[.slice p n c] w (ClonePost l n w) := by
  obtain ⟨b, off, rfl, _⟩ := hr.at0 (by omega)
  have HS := hid (fun (W : World) (h : Chg No w W) => (hr.keptNo h).src)
  have HER := hid (emptyRow w 5)
  have HL := hid hl
  have hnn : ∀ W, (binOp BinOp.eql 42 (Value.slice (some ⟨b, off, none⟩) n c) (.slice none 0 0)).run Try.prog W = .ok (.bool false) W := fun W => by
    have := Lib.run_eql_slice_nil (P := Try.prog) W 42 5 (some ⟨b, off, none⟩) n c 0 0 Try.underlying42
    simpa using this
  clear hr hl
  go_enter Try.func80, Try.ntmps80
  go_wp2_with (at_builtin; go_must ((with_reducible refine wpList_app HER.out ⟨b, off, none⟩ (nv .u8 l) ?_ (.int .u8 0) n c 1 ?_ ?_ ?_ ?_ ?_ ?_ ?_ ?_ ?_ ?_); exact HS.out _ ((Chg.refl _ _).alloc _); exact ⟨rfl, rfl⟩; (rw [nv_length]; exact HL.out); exact Try.underlying42; kernel_rfl; rfl; exact nv_one; (unfold maxLen; omega); omega; (simp); intro v2 W2 hO2 hg2))
  rcases own_of_ownsRow hO2 with ⟨_, h1, _⟩ | ⟨g2, cap2, rest2, hv2, hb2, hOg, hlg, hcg, hmg⟩
  · omega
  · subst hv2
    rw [List.nil_append] at hOg
    have hC2 : Chg No w W2 := ((Chg.refl No w).alloc (.cells #[] 5)).grown hg2 (fun k hk => .inr (by simp only [Value.ownBlock, Option.some.injEq] at hk; omega))
    rw [Nat.zero_add] at hcg ⊢
    subst hcg
    have HOG := hid hOg
    have HC2 := hid hC2
    have HB2 := hid hb2
    clear hO2 hg2 hOg hC2 hb2 hlg hmg
    go_wp2_with fail
    go_ret
    exact ⟨g2, rest2, rfl, HOG.out, HB2.out, HC2.out⟩
/-- A list of whole numbers that the code has made since base. -/
def IntsV (w : World) (base : Nat) (v : Value) (l : List Nat) : Prop := w.ownsRow base 3 1 v l.length (nv .i64 l)
theorem IntsV.nil (w : World) (base : Nat) : IntsV w base (.slice none 0 0) [] := ⟨rfl, .inl ⟨rfl, rfl⟩⟩
theorem IntsV.cases {w : World} {base : Nat} {v : Value} {l : List Nat} (h : IntsV w base v l) : (v = .slice none 0 0 ∧ l = []) ∨
    ∃ g rest, v = .slice (some ⟨g, 0, none⟩) l.length (l.length + rest.length) ∧ base ≤ g ∧ Own w 3 g (nv .i64 l) rest := by
  rcases own_of_ownsRow h with ⟨rfl, h0, _⟩ | ⟨g, cap, rest, rfl, hb, hO, _, hc, _⟩
  · exact .inl ⟨rfl, List.eq_nil_of_length_eq_zero h0⟩
  · exact .inr ⟨g, rest, by rw [hc], hb, hO⟩
theorem IntsV.keptNo {w w' : World} {base : Nat} {v : Value} {l : List Nat} (h : IntsV w base v l) (hc : Chg No w w') : IntsV w' base v l := by
  unfold IntsV at h ⊢
  rcases own_of_ownsRow h with ⟨rfl, h0, h1⟩ | ⟨g, cap, rest, rfl, hb, hO, h2, hc2, hm⟩
  · exact ⟨by simp, .inl ⟨rfl, h0⟩⟩
  · exact ownsRow_of_own (hO.keptNo hc) hb h2 hc2 hm
/-- Which of the fresh shards are there. -/
def givenL (i : Nat) (fs : List (List Nat)) : List Nat := pick i fun i => decide (0 < (gl fs i).length)
theorem givenL_succ (i : Nat) (fs : List (List Nat)) : givenL (i + 1) fs = givenL i fs ++ (if 0 < (gl fs i).length then [i] else []) := by
  unfold givenL; rw [pick_succ]; simp
theorem givenL_le (i : Nat) (fs : List (List Nat)) : (givenL i fs).length ≤ i := by
  have := cnt_not i (fun i => decide (0 < (gl fs i).length))
  unfold givenL; unfold cnt at this; omega
/-- Fresh shards: k of them, each empty or of the length n. -/
structure Fr (k n : Nat) (fs : List (List Nat)) : Prop where
  lk : fs.length = k
  ln : ∀ i, i < k → (gl fs i).length = 0 ∨ (gl fs i).length = n
  lb : Byt fs
/-- What Fresh tells. -/
def FreshPost (n : Nat) (l : List Nat) (w : World) (e : Ending) (w' : World) : Prop :=
  ∃ v, e = .returned (.tuple #[.int .i64 (n : Int), v, .int .i64 0]) ∧ IntsV w' w.heap.size v l ∧ Chg No w w'

set_option maxRecDepth 20000 in
set_option maxHeartbeats 1600000 in
theorem Fresh_yes (p q : Option Addr) (k m n c c2 t : Nat) (ls fs : List (List Nat)) (w : World) (hl : Lr w .u8 p ls) (ht : t = k + m) (hd : Ev t n ls) (hp : prm k (m : Int)) (hf : Lr w .u8 q fs) (hfr : Fr k n fs) :
    Calls Try.prog 79 #[.int .i64 2, .int .i64 (k : Int), .int .i64 (m : Int), .slice p t c, .slice q k c2] w (FreshPost n (givenL k fs) w) := by
  have H1 := hid (counted_yes k m t p c hp ht w)
  have H2 := hid (lengths_even p t n c ls w hl hd)
  have H3 := hid (odd_no n hd.even)
  have HF := hid hf
  have HR := hid hfr
  have hn := hd.small
  have hn1 := hd.pos
  have hk := hp.2.2.1
  clear hl hd hp ht hf hfr
  go_enter Try.func79, Try.ntmps79
  go_wp2_with fail
  refine H1.out.mono ?_
  rintro e w1 ⟨rfl, rfl⟩
  go_wp2_with fail
  refine H2.out.mono ?_
  rintro e w1 ⟨rfl, rfl⟩
  go_wp2_with fail
  go_loopw [17, 16, 43] (fun v ev i wr => ∃ i' : Nat, i' ≤ k ∧ i = .int .i64 (i' : Int) ∧ ev = .bool true ∧ IntsV wr w1.heap.size v (givenL i' fs) ∧ Chg No w1 wr) (fun _ _ i _ => k - (intOf i).toNat)
  case atStart => exact ⟨0, by omega, rfl, rfl, IntsV.nil _ _, Chg.refl _ _⟩
  case round =>
    obtain ⟨i, hi, rfl, rfl, hv, hC⟩ := hrel
    obtain ⟨w2, rfl⟩ : ∃ w2 : World, w2 = wr := ⟨_, rfl⟩
    have HV := hid hv
    have HC := hid hC
    clear hv hC
    by_cases hil : i < k
    · obtain ⟨b, o, q1, cc, rfl, hc1, _, _⟩ := (HF.out.keptNo HC.out) i (by rw [HR.out.lk]; exact hil)
      have hgs := givenL_succ i fs
      have hgl := givenL_le i fs
      rcases HR.out.ln i hil with h0 | h0
      · rw [h0] at hc1 hgs
        rw [if_neg (by omega), List.append_nil] at hgs
        have HG := hid hgs
        clear h0 hgs
        go_wp2_with fail
        go_roundw
        case rel => exact ⟨i + 1, by omega, by go_num, rfl, by rw [HG.out]; exact HV.out, HC.out⟩
        case measure => simp [intOf]; omega
      · rw [h0] at hc1 hgs
        rw [if_pos (by omega)] at hgs
        have HG := hid hgs
        have HVA := hid (HV.out.keptNo ((Chg.refl No w2).alloc (.cells #[.int .i64 (i : Int)] 3)))
        have hown := HVA.out
        unfold IntsV at hown
        have HOWN := hid hown
        have HSZ := hid HC.out.size
        have hnn : ((n : Int) == (n : Int)) = true := by simp
        obtain ⟨ln, hln⟩ : ∃ ln, (givenL i fs).length = ln := ⟨_, rfl⟩
        rw [hln] at HOWN hgl
        have HLN := hid hln
        clear h0 hgs hown hln
        go_wp2_with (at_builtin; go_must ((with_reducible refine wpList_app HOWN.out ⟨w2.heap.size, 0, none⟩ [.int .i64 (i : Int)] ?_ (.int .i64 0) 1 1 8 ?_ ?_ ?_ ?_ ?_ ?_ ?_ ?_ ?_ ?_); exact (Own.lit1 w2 3 _).addCell; exact ⟨rfl, rfl⟩; rfl; exact Try.underlying22; kernel_rfl; rfl; (intro u hu; simp at hu; subst hu; rfl); (unfold maxLen; omega); omega; (have := HSZ.out; simp; omega); intro v3 W3 hO3 hg3))
        have hv3 : IntsV W3 w1.heap.size v3 (givenL (i + 1) fs) := by
          unfold IntsV
          rw [HG.out, List.length_append, HLN.out, nv_append]
          exact hO3
        have hC3 : Chg No w1 W3 := (HC.out.alloc _).grown hg3 (fun x hx => by
          rcases HV.out.cases with ⟨e, _⟩ | ⟨g, rest, e, hb, _⟩
          · rw [e] at hx; simp [Value.ownBlock] at hx
          · rw [e] at hx; simp only [Value.ownBlock, Option.some.injEq] at hx; right; omega)
        have HV3 := hid hv3
        have HC3 := hid hC3
        clear hv3 hC3 hO3 hg3
        go_wp2_with fail
        go_roundw
        case rel => exact ⟨i + 1, by omega, by go_num, rfl, HV3.out, HC3.out⟩
        case measure => simp [intOf]; omega
    · obtain rfl : i = k := by omega
      go_wp2_with fail
      refine (H3.out _).mono ?_
      rintro e w3 ⟨rfl, rfl⟩
      go_wp2_with fail
      go_ret3
      exact ⟨_, rfl, HV.out, HC.out⟩
end Go.Proofs.Ytpnmmedjamkmeaa

/- Walks: the codec's fresh. -/
set_option linter.unusedSimpArgs false
set_option linter.unusedVariables false
set_option linter.unusedSimpArgs false
namespace Go.Proofs.Ytpnmmedjamkmeaa
open Go.RowKit

theorem IntsV.old {w : World} {a b : Nat} {v : Value} {l : List Nat} (h : IntsV w b v l) (hab : a ≤ b) : IntsV w a v l := by
  rcases own_of_ownsRow h with ⟨rfl, h0, h1⟩ | ⟨g, cap, rest, rfl, hb, hO, h2, hc2, hm⟩
  · exact ⟨by simp, .inl ⟨rfl, h0⟩⟩
  · exact ownsRow_of_own hO (by omega) h2 hc2 hm
set_option maxRecDepth 20000 in
theorem fresh_none (C k m r W T K n c c2 t : Nat) (fast : Bool) (p q : Option Addr) (ls fs : List (List Nat)) (w : World) (hc : Cd w fast C k m r W T K) (hl : Lr w .u8 p ls) (ht : t = k + m) (hd : Ev t n ls) (hf : Lr w .u8 q fs) (hfr : Fr k n fs) :
    Calls Try.prog 52 #[.pointer (some ⟨C, 0, none⟩), .slice p t c, .slice q k c2, .pointer none] w (FreshPost n (givenL k fs) w) := by
  have HW := hid (fun w h h2 => Fresh_yes p q k m n c c2 t ls fs w h ht hd hc.prm h2 hfr)
  unfold FreshPost at HW
  have HL := hid hl
  have HF := hid hf
  have c0 := hc.c0
  have c1 := hc.c1
  clear hc hl hd ht hf hfr
  go_enter Try.func52, Try.ntmps52
  go_wp2_with fail
  go_region_held3 (fun w' => Chg No w w' ∧ w'.cell? ⟨C, 0, none⟩ = some (.int .i64 (k : Int)) ∧ w'.cell? ⟨C, 1, none⟩ = some (.int .i64 (m : Int)))
    (first
      | exact ⟨(Chg.refl No w).drew, c0, c1⟩
      | assumption
      | exact ⟨((Chg.refl No w).drew).trans hC5, hC5.cell c0 id, hC5.cell c1 id⟩)
    (first | (go_at_call 79; refine (HW.out _ (HL.out.keptNo ((Chg.refl No w).drew)) (HF.out.keptNo ((Chg.refl No w).drew))).mono ?_; rintro e w5 ⟨v5, rfl, hV5, hC5⟩))
  have HV5 := hid hV5
  have HC5 := hid (((Chg.refl No w).drew).trans hC5)
  clear hV5 hC5 c0 c1
  go_wp2_with fail
  go_ret3
  exact ⟨v5, rfl, HV5.out, HC5.out⟩
set_option maxRecDepth 20000 in
theorem fresh_span (C k m r W T K n c c2 t S a b : Nat) (fast : Bool) (p q : Option Addr) (ls fs : List (List Nat)) (w : World) (hc : Cd w fast C k m r W T K) (hl : Lr w .u8 p ls) (ht : t = k + m) (hd : Ev t n ls) (hf : Lr w .u8 q fs) (hfr : Fr k n fs)
    (hs : Own w 57 S [.int .i64 (a : Int), .int .i64 (b : Int)] []) (hsp : Sp a b n) :
    Calls Try.prog 52 #[.pointer (some ⟨C, 0, none⟩), .slice p t c, .slice q k c2, .pointer (some ⟨S, 0, none⟩)] w (FreshPost n (givenL k fs) w) := by
  have HW := hid (fun w h h2 => Fresh_yes p q k m n c c2 t ls fs w h ht hd hc.prm h2 hfr)
  have HI := hid (within_yes a b n hsp hd.small)
  unfold FreshPost at HW
  have HL := hid hl
  have HF := hid hf
  have HS := hid hs
  have c0 := hc.c0
  have c1 := hc.c1
  clear hc hl hd ht hf hfr hs hsp
  go_enter Try.func52, Try.ntmps52
  go_wp2_with fail
  go_region_held3 (fun w' => Chg No w w' ∧ w'.cell? ⟨C, 0, none⟩ = some (.int .i64 (k : Int)) ∧ w'.cell? ⟨C, 1, none⟩ = some (.int .i64 (m : Int)))
    (first
      | exact ⟨(Chg.refl No w).drew, c0, c1⟩
      | assumption
      | exact ⟨((Chg.refl No w).drew).trans hC5, hC5.cell c0 id, hC5.cell c1 id⟩)
    (first | (go_at_call 79; refine (HW.out _ (HL.out.keptNo ((Chg.refl No w).drew)) (HF.out.keptNo ((Chg.refl No w).drew))).mono ?_; rintro e w5 ⟨v5, rfl, hV5, hC5⟩))
  have HV5 := hid hV5
  have HC5 := hid (((Chg.refl No w).drew).trans hC5)
  have hS5 := HS.out.keptNo HC5.out
  have s0 : w5.cell? ⟨S, 0, none⟩ = some (.int .i64 (a : Int)) := hS5.cell (i := 0) (by simp)
  have s1 : w5.cell? ⟨S, 1, none⟩ = some (.int .i64 (b : Int)) := hS5.cell (i := 1) (by simp)
  clear hV5 hC5 c0 c1 hS5
  unfold spanV at HI
  go_wp2_with fail
  refine (HI.out _).mono ?_
  rintro e w6 ⟨rfl, hC6⟩
  have HV6 := hid (HV5.out.keptNo hC6)
  have HC6 := hid (HC5.out.trans hC6)
  clear hC6
  go_wp2_with fail
  go_ret3
  exact ⟨v5, rfl, HV6.out, HC6.out⟩
end Go.Proofs.Ytpnmmedjamkmeaa

/- The plain part of UpdateSpan: differences, rows added to. -/
set_option linter.unusedSimpArgs false
set_option linter.unusedVariables false
set_option linter.unusedSimpArgs false
namespace Go.Proofs.Ytpnmmedjamkmeaa
open Go.RowKit

/-- A row's span. -/
def cut1 (a b : Nat) (l : List Nat) : List Nat := (l.drop a).take (b - a)
theorem cut1_length {a b : Nat} {l : List Nat} (h : b ≤ l.length) : (cut1 a b l).length = b - a := by
  unfold cut1; rw [List.length_take, List.length_drop]; omega
theorem gn_cut1 {a b : Nat} {l : List Nat} {i : Nat} (h : a + i < b) (hb : b ≤ l.length) : gn (cut1 a b l) i = gn l (a + i) := gn_cut h hb
/-- Two rows' sum. -/
def xl (x y : List Nat) : List Nat := (List.range x.length).map fun t => gn x t ^^^ gn y t
@[simp] theorem xl_length (x y : List Nat) : (xl x y).length = x.length := by simp [xl]
theorem gn_xl (x y : List Nat) (i : Nat) (h : i < x.length) : gn (xl x y) i = gn x i ^^^ gn y i := by
  rw [gn_get _ _ (by simpa using h)]; simp [xl]
theorem xl_lt {x y : List Nat} (hx : ∀ i, gn x i < 256) (hy : ∀ i, gn y i < 256) (i : Nat) : gn (xl x y) i < 256 := by
  by_cases h : i < x.length
  · rw [gn_xl _ _ _ h]; exact Nat.xor_lt_two_pow (n := 8) (hx i) (hy i)
  · rw [gn_out _ _ (by simpa using h)]; omega
/-- A row to which n bytes of p have been added from the place a on. -/
def rowX (a n : Nat) (d p : List Nat) : List Nat := (List.range d.length).map fun i => if a ≤ i ∧ i < a + n then gn d i ^^^ gn p (i - a) else gn d i
@[simp] theorem rowX_length (a n : Nat) (d p : List Nat) : (rowX a n d p).length = d.length := by simp [rowX]
theorem gn_rowX (a n : Nat) (d p : List Nat) (i : Nat) (h : i < d.length) : gn (rowX a n d p) i = if a ≤ i ∧ i < a + n then gn d i ^^^ gn p (i - a) else gn d i := by
  rw [gn_get _ _ (by simpa using h)]; simp [rowX]
theorem rowX_zero (a : Nat) (d p : List Nat) : rowX a 0 d p = d := by
  refine ext_gn (by simp) fun i hi => ?_
  rw [rowX_length] at hi
  rw [gn_rowX _ _ _ _ _ hi, if_neg (by omega)]
theorem rowX_set (a n : Nat) (d p : List Nat) (h : a + n < d.length) : (rowX a n d p).set (a + n) (gn d (a + n) ^^^ gn p n) = rowX a (n + 1) d p := by
  refine ext_gn (by simp) fun i hi => ?_
  rw [List.length_set, rowX_length] at hi
  rw [gn_set _ _ _ _ (by simpa using h), gn_rowX _ _ _ _ _ hi, gn_rowX _ _ _ _ _ hi]
  by_cases e : i = a + n
  · subst e; rw [if_pos rfl, if_pos (by omega), Nat.add_sub_cancel_left]
  · rw [if_neg e]
    by_cases c : a ≤ i ∧ i < a + n
    · rw [if_pos c, if_pos (by omega)]
    · rw [if_neg c, if_neg (by omega)]
theorem rowX_old (a n : Nat) (d p : List Nat) (h : a + n < d.length) : gn (rowX a n d p) (a + n) = gn d (a + n) := by
  rw [gn_rowX _ _ _ _ _ h, if_neg (by omega)]
theorem rowX_all (d p : List Nat) : rowX 0 d.length d p = xl d p := by
  refine ext_gn (by simp) fun i hi => ?_
  rw [rowX_length] at hi
  rw [gn_rowX _ _ _ _ _ hi, gn_xl _ _ _ hi, if_pos (by omega), Nat.sub_zero]
theorem rowX_spl {a b : Nat} {d p : List Nat} (hab : a ≤ b) (hb : b ≤ d.length) : rowX a (b - a) d p = spl a b (xl (cut1 a b d) p) d := by
  have hl : (xl (cut1 a b d) p).length = b - a := by rw [xl_length, cut1_length hb]
  refine ext_gn (by rw [rowX_length, spl_length hl hab hb]) fun i hi => ?_
  rw [rowX_length] at hi
  rw [gn_rowX _ _ _ _ _ hi, gn_spl hl hab hb]
  by_cases c : a ≤ i ∧ i < b
  · rw [if_pos (by omega), if_pos c, gn_xl _ _ _ (by rw [cut1_length hb]; omega), gn_cut1 (by omega) hb, show a + (i - a) = i from by omega]
  · rw [if_neg (by omega), if_neg c]
/-- The difference that a fresh shard makes within a span: none where it is empty. -/
def dif (a b : Nat) (ls fs : List (List Nat)) (i : Nat) : List Nat := if 0 < (gl fs i).length then xl (cut1 a b (gl ls i)) (cut1 a b (gl fs i)) else List.replicate (b - a) 0
def difs (k a b : Nat) (ls fs : List (List Nat)) : List (List Nat) := (List.range k).map (dif a b ls fs)
theorem gl_difs (k a b : Nat) (ls fs : List (List Nat)) (i : Nat) (h : i < k) : gl (difs k a b ls fs) i = dif a b ls fs i := by
  rw [gl_get _ _ (by simpa [difs] using h)]; simp [difs]
theorem cut1_lt {a b : Nat} {l : List Nat} (h : ∀ i, gn l i < 256) (i : Nat) : gn (cut1 a b l) i < 256 := gn_take_lt h a (b - a) i
theorem zeros_lt (n i : Nat) : gn (List.replicate n 0) i < 256 := by
  by_cases h : i < n
  · simp [gn, h]
  · rw [gn_out _ _ (by simpa using h)]; omega
theorem dif_lt {a b : Nat} {ls fs : List (List Nat)} (hl : Byt ls) (hf : Byt fs) (i x : Nat) : gn (dif a b ls fs i) x < 256 := by
  unfold dif
  split
  · exact xl_lt (cut1_lt (hl i)) (cut1_lt (hf i)) x
  · exact zeros_lt _ _
theorem dif_length {k n a b t : Nat} {ls fs : List (List Nat)} (hd : Ev t n ls) (hk : k ≤ t) (hsp : Sp a b n) {i : Nat} (hi : i < k) : (dif a b ls fs i).length = b - a := by
  unfold dif
  split
  · rw [xl_length, cut1_length (by rw [hd.ln i (by omega)]; exact hsp.bn)]
  · simp
theorem ds_difs {k n a b t : Nat} {ls fs : List (List Nat)} (hd : Ev t n ls) (hl : Byt ls) (hk : k ≤ t) (hf : Byt fs) (hab : a < b) (hsp : Sp a b n) : Ds k (b - a) (difs k a b ls fs) := by
  refine ⟨by simp [difs], fun i hi => ?_, fun i x => ?_, ?_, ?_, by omega⟩
  · rw [gl_difs _ _ _ _ _ _ hi]; exact dif_length hd hk hsp hi
  · by_cases hi : i < k
    · rw [gl_difs _ _ _ _ _ _ hi]; exact dif_lt hl hf i x
    · rw [gl_out _ _ (by simpa [difs] using hi)]; simp [gn]
  · have := hsp.ea; have := hsp.eb; omega
  · have := hsp.bn; have := hd.small; omega
/-- The rows that stand in the parity's places when the differences' parity has been added. -/
def updP (k m a b : Nat) (ls fs : List (List Nat)) : List (List Nat) := (List.range m).map fun j => xl (cut1 a b (gl ls (k + j))) (gl (par k m (b - a) (difs k a b ls fs)) j)
theorem gl_updP (k m a b : Nat) (ls fs : List (List Nat)) (j : Nat) (h : j < m) : gl (updP k m a b ls fs) j = xl (cut1 a b (gl ls (k + j))) (gl (par k m (b - a) (difs k a b ls fs)) j) := by
  rw [gl_get _ _ (by simpa [updP] using h)]; simp [updP]
/-- Without differences no parity changes. -/
theorem parTo_none {m n : Nat} {ds : List (List Nat)} (hn : n % 2 = 0) (hb : ∀ i b, gn (gl ds i) b < 256) (j k : Nat) (h : ∀ i, i < k → gl ds i = List.replicate n 0) : parTo m n ds j k = List.replicate n 0 := by
  refine bytes_ext (n := n / 2) (by rw [parTo_length]; omega) (by rw [List.length_replicate]; omega) (parTo_lt _ _ _ _ _) (zeros_lt n) fun t ht => ?_
  rw [we_parTo hn hb j t (by omega), we_zero]
  exact sm_zero' fun i hi => by rw [h i hi, we_zero, GF.mul_zero]
theorem xl_none (x : List Nat) (n : Nat) (h : x.length = n) : xl x (List.replicate n 0) = x := by
  refine ext_gn (by simp) fun i hi => ?_
  rw [xl_length] at hi
  rw [gn_xl _ _ _ hi]
  have : gn (List.replicate n 0) i = 0 := by simp [gn, show i < n by omega]
  rw [this, Nat.xor_zero]
theorem spl_self {a b : Nat} {d : List Nat} (hab : a ≤ b) (hb : b ≤ d.length) : spl a b (cut1 a b d) d = d := by
  have hl : (cut1 a b d).length = b - a := cut1_length hb
  refine ext_gn (by rw [spl_length hl hab hb]) fun i hi => ?_
  rw [spl_length hl hab hb] at hi
  rw [gn_spl hl hab hb]
  by_cases c : a ≤ i ∧ i < b
  · rw [if_pos c, gn_cut1 (by omega) hb, show a + (i - a) = i from by omega]
  · rw [if_neg c]
/-- Nothing given: nothing changes. -/
theorem updP_none {k m n a b : Nat} {xs : List Pc} {fs : List (List Nat)} (hd : Ev (k + m) n (xs.map Pc.d)) (hl : Byt (xs.map Pc.d)) (hf : Byt fs) (hab : a < b) (hsp : Sp a b n) (hg : givenL k fs = []) :
    encTo k a b (updP k m a b (xs.map Pc.d) fs) xs m = xs := by
  have hz : ∀ i, i < k → gl (difs k a b (xs.map Pc.d) fs) i = List.replicate (b - a) 0 := fun i hi => by
    rw [gl_difs _ _ _ _ _ _ hi]
    unfold dif
    rw [if_neg]
    intro h
    obtain ⟨q, hq, _⟩ := pk_all (p := fun i => decide (0 < (gl fs i).length)) hi (decide_eq_true h)
    unfold givenL at hg
    unfold cnt at hq
    rw [hg] at hq
    simp at hq
  have hD := ds_difs (k := k) hd hl (by omega) hf hab hsp
  apply List.ext_getElem?
  intro i
  rw [encTo_get?]
  cases hx : xs[i]? with
  | none => rfl
  | some x =>
    rw [Option.map_some]
    have hi := (List.getElem?_eq_some_iff.1 hx)
    obtain ⟨hil, hxe⟩ := hi
    split
    · rename_i h
      obtain ⟨j, rfl⟩ : ∃ j, i = k + j := ⟨i - k, by omega⟩
      have hg2 : gl (xs.map Pc.d) (k + j) = x.d := by rw [gl_get _ _ (by simpa using hil)]; simp [hxe]
      have hxl : x.d.length = n := by rw [← hg2]; exact hd.ln _ (by omega)
      rw [Nat.add_sub_cancel_left, gl_updP _ _ _ _ _ _ _ (by omega), gl_par _ _ _ _ _ (by omega), parTo_none hD.even hD.lb _ _ hz, hg2, xl_none _ _ (cut1_length (by rw [hxl]; exact hsp.bn)),
        spl_self (by omega) (by rw [hxl]; exact hsp.bn)]
    · rfl
end Go.Proofs.Ytpnmmedjamkmeaa
