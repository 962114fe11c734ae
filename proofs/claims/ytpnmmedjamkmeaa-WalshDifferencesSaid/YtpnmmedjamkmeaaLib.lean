/- Words of memory for this claim's walks: what a piece of code may have changed (Chg), a row of one-cell values that is known whole (Own). -/
import Derived.WalkKit
import Derived.KernelRfl
import Derived.Deep.QuietTactic
import Derived.BigQuiet
import Derived.Deep.RegionHeld3
set_option linter.unusedSimpArgs false
namespace Go.Proofs.Ytpnmmedjamkmeaa
open Go.RowKit

/-- A fact laid aside from the walk's rules. -/
theorem hid {p : Prop} (h : p) : Hid p := h

/-- From w to w' at most the blocks of S have changed; new blocks may have come. -/
structure Chg (S : Nat → Prop) (w w' : World) : Prop where
  os : w'.os = w.os
  tape : w'.tape = w.tape
  output : w'.output = w.output
  size : w.heap.size ≤ w'.heap.size
  block : ∀ k, k < w.heap.size → ¬ S k → w'.heap[k]? = w.heap[k]?

def No : Nat → Prop := fun _ => False
def Only (b : Nat) : Nat → Prop := fun k => k = b

theorem Chg.refl (S : Nat → Prop) (w : World) : Chg S w w := ⟨rfl, rfl, rfl, Nat.le_refl _, fun _ _ _ => rfl⟩
theorem Chg.trans' {S T : Nat → Prop} {a b c : World} (h : Chg S a b) (k : Chg T b c) (hT : ∀ i, i < a.heap.size → T i → S i) : Chg S a c :=
  ⟨k.os.trans h.os, k.tape.trans h.tape, k.output.trans h.output, Nat.le_trans h.size k.size,
   fun i hi hs => (k.block i (Nat.lt_of_lt_of_le hi h.size) (fun ht => hs (hT i hi ht))).trans (h.block i hi hs)⟩
theorem Chg.trans {S : Nat → Prop} {a b c : World} (h : Chg S a b) (k : Chg S b c) : Chg S a c := h.trans' k fun _ _ h => h
theorem Chg.mono {S T : Nat → Prop} {a b : World} (h : Chg S a b) (hT : ∀ i, i < a.heap.size → S i → T i) : Chg T a b :=
  ⟨h.os, h.tape, h.output, h.size, fun i hi hs => h.block i hi fun s => hs (hT i hi s)⟩
theorem Chg.no {S : Nat → Prop} {a b : World} (h : Chg No a b) : Chg S a b := h.mono fun _ _ h => h.elim
theorem Chg.transNo {S : Nat → Prop} {a b c : World} (h : Chg S a b) (k : Chg No b c) : Chg S a c := h.trans' k fun _ _ h => h.elim
/-- What the second step changed is new since the first began. -/
theorem Chg.transNew {S : Nat → Prop} {a b c : World} {g : Nat} (h : Chg S a b) (k : Chg (Only g) b c) (hg : a.heap.size ≤ g) : Chg S a c :=
  h.trans' k fun i hi e => by cases e; omega
theorem Chg.drew {S : Nat → Prop} {a w : World} (h : Chg S a w) : Chg S a w.drew := ⟨h.os, h.tape, h.output, h.size, h.block⟩
theorem Chg.drewN {S : Nat → Prop} {a w : World} (h : Chg S a w) (n : Nat) : Chg S a (w.drewN n) := ⟨h.os, h.tape, h.output, h.size, h.block⟩
theorem Chg.alloc {S : Nat → Prop} {a w : World} (h : Chg S a w) (o : Obj) : Chg S a (w.alloc o) :=
  h.trans ⟨rfl, rfl, rfl, by simp, fun k hk _ => Below.heap_alloc _ _ _ hk⟩
theorem Chg.setCell {S : Nat → Prop} {a w : World} (h : Chg S a w) {p : Addr} (hp : S p.block ∨ a.heap.size ≤ p.block) (u : Value) : Chg S a (w.setCell p u) :=
  ⟨h.os, h.tape, h.output, Nat.le_trans h.size (by simp [World.setCell]), fun k hk hs => (Below.heap_setCell _ _ _ _ (by
    intro e; subst e; rcases hp with hp | hp
    · exact hs hp
    · omega)).trans (h.block k hk hs)⟩
theorem Chg.setOnly {g : Nat} {a w : World} (h : Chg (Only g) a w) (i : Nat) (u : Value) : Chg (Only g) a (w.setCell ⟨g, i, none⟩ u) := h.setCell (p := ⟨g, i, none⟩) (.inl rfl) u
theorem Chg.setNew {S : Nat → Prop} {g : Nat} {a w : World} (h : Chg S a w) (hg : a.heap.size ≤ g) (i : Nat) (u : Value) : Chg S a (w.setCell ⟨g, i, none⟩ u) := h.setCell (p := ⟨g, i, none⟩) (.inr hg) u
theorem Chg.grown {S : Nat → Prop} {a w w' : World} {row : Option Nat} (h : Chg S a w) (hg : w.grownBy w' row) (hr : ∀ k, row = some k → S k ∨ a.heap.size ≤ k) : Chg S a w' :=
  h.trans' (T := fun k => some k = row) ⟨hg.os, hg.tape, hg.output, hg.size, fun k hk hs => hg.block k hk hs⟩ fun i hi e => (hr i e.symm).resolve_right (by omega)
theorem Chg.below {S : Nat → Prop} {w w' : World} {B : Nat} (h : Chg S w w') (hB : B ≤ w.heap.size) (hS : ∀ k, S k → B ≤ k) : Below B w w' :=
  ⟨h.os, h.tape, h.output, h.size, fun k hk => h.block k (by omega) fun s => by have := hS k s; omega⟩
theorem Chg.belowNo {w w' : World} (h : Chg No w w') : Below w.heap.size w w' := h.below (Nat.le_refl _) fun _ h => h.elim
theorem Chg.of_below {w w' : World} (h : Below w.heap.size w w') : Chg No w w' := ⟨h.os, h.tape, h.output, h.size, fun k hk _ => h.block k hk⟩
theorem Chg.kept {S : Nat → Prop} {w w' : World} (h : Chg S w w') {g : Nat} {o : Obj} (hg : w.heap[g]? = some o) (hs : ¬ S g) : w'.heap[g]? = some o :=
  (h.block g (Array.getElem?_eq_some_iff.1 hg).1 hs).trans hg
theorem Chg.cell {S : Nat → Prop} {w w' : World} (h : Chg S w w') {p : Addr} {v : Value} (hc : w.cell? p = some v) (hs : ¬ S p.block) : w'.cell? p = some v :=
  (World.cell?_of_block (w := w) (h.block p.block (World.block_lt_of_cell? w p hc) hs)).trans hc

/-- Block g is, whole, a row of the type e: the values xs, then rest. -/
def Own (w : World) (e : TypeId) (g : Nat) (xs rest : List Value) : Prop := w.heap[g]? = some (.cells (xs ++ rest).toArray e (0, 0))

section
variable {w w' : World} {e : TypeId} {g : Nat} {xs rest : List Value} {S : Nat → Prop}
theorem Own.lt (h : Own w e g xs rest) : g < w.heap.size := (Array.getElem?_eq_some_iff.1 h).1
theorem Own.kept (h : Own w e g xs rest) (hc : Chg S w w') (hs : ¬ S g) : Own w' e g xs rest := hc.kept h hs
theorem Own.keptNo (h : Own w e g xs rest) (hc : Chg No w w') : Own w' e g xs rest := hc.kept h id
theorem Own.drewN (h : Own w e g xs rest) (n : Nat) : Own (w.drewN n) e g xs rest := h
theorem Own.drew (h : Own w e g xs rest) : Own w.drew e g xs rest := h
theorem Own.alloc (h : Own w e g xs rest) (o : Obj) : Own (w.alloc o) e g xs rest := (Below.heap_alloc w o g h.lt).trans h
theorem Own.made (w : World) (e : TypeId) (xs rest : List Value) : Own (w.alloc (.cells (xs ++ rest).toArray e)) e w.heap.size xs rest := heap_alloc_new w _
theorem Own.cellAll (h : Own w e g xs rest) (i : Nat) : w.cell? ⟨g, i, none⟩ = (xs ++ rest)[i]? := by
  unfold Own at h; simp [World.cell?, h]
theorem Own.cell (h : Own w e g xs rest) {i : Nat} (hi : i < xs.length) : w.cell? ⟨g, i, none⟩ = some xs[i] := by
  rw [h.cellAll, List.getElem?_append_left hi, List.getElem?_eq_getElem hi]
theorem Own.cell' (h : Own w e g xs rest) {i : Nat} {v : Value} (hi : xs[i]? = some v) : w.cell? ⟨g, i, none⟩ = some v := by
  have := List.getElem?_eq_some_iff.1 hi
  obtain ⟨hl, rfl⟩ := this
  exact h.cell hl
theorem Own.frozen (h : Own w e g xs rest) (i : Nat) : w.frozen? ⟨g, i, none⟩ = false := by
  unfold Own at h
  simp only [World.frozen?, h]
  simp
theorem Own.set (h : Own w e g xs rest) {i : Nat} (hi : i < xs.length) (v : Value) : Own (w.setCell ⟨g, i, none⟩ v) e g (xs.set i v) rest := by
  unfold Own at h ⊢
  simp only [World.setCell, Array.getElem?_modify, if_true, h, Option.map_some, Option.isSome_none, Bool.false_eq_true, if_false]
  rw [List.setIfInBounds_toArray, List.set_append_left _ _ hi]
theorem Own.setOther (h : Own w e g xs rest) {a : Addr} (hne : g ≠ a.block) (v : Value) : Own (w.setCell a v) e g xs rest :=
  (Below.heap_setCell w a v g hne).trans h
end

/-- The element at a place, under a name that simp does not open. -/
def ga (l : List Int) (i : Nat) : Int := l.getD i 0
def gn (l : List Nat) (i : Nat) : Nat := l.getD i 0
theorem ga_get (l : List Int) (i : Nat) (h : i < l.length) : ga l i = l[i] := by simp [ga, h]
theorem gn_get (l : List Nat) (i : Nat) (h : i < l.length) : gn l i = l[i] := by simp [gn, h]
theorem ga_set (l : List Int) (i j : Nat) (v : Int) (h : i < l.length) : ga (l.set i v) j = if j = i then v else ga l j := by
  simp only [ga, List.getD_eq_getElem?_getD, List.getElem?_set]
  split
  · subst_vars; simp [h]
  · rw [if_neg (by omega)]
theorem gn_set (l : List Nat) (i j : Nat) (v : Nat) (h : i < l.length) : gn (l.set i v) j = if j = i then v else gn l j := by
  simp only [gn, List.getD_eq_getElem?_getD, List.getElem?_set]
  split
  · subst_vars; simp [h]
  · rw [if_neg (by omega)]
theorem ext_gn {a b : List Nat} (h : a.length = b.length) (hg : ∀ i, i < a.length → gn a i = gn b i) : a = b := by
  apply List.ext_getElem h
  intro i h1 h2
  have := hg i h1
  rwa [gn_get _ _ h1, gn_get _ _ h2] at this
theorem ext_ga {a b : List Int} (h : a.length = b.length) (hg : ∀ i, i < a.length → ga a i = ga b i) : a = b := by
  apply List.ext_getElem h
  intro i h1 h2
  have := hg i h1
  rwa [ga_get _ _ h1, ga_get _ _ h2] at this

/-- Whole numbers as values. -/
def nv (k : IntKind) (l : List Nat) : List Value := l.map fun (n : Nat) => Value.int k (n : Int)
def iv (k : IntKind) (l : List Int) : List Value := l.map fun n => Value.int k n
@[simp] theorem nv_length (k : IntKind) (l : List Nat) : (nv k l).length = l.length := by simp [nv]
@[simp] theorem iv_length (k : IntKind) (l : List Int) : (iv k l).length = l.length := by simp [iv]
theorem nv_get? (k : IntKind) (l : List Nat) (i : Nat) (h : i < l.length) : (nv k l)[i]? = some (.int k (gn l i : Int)) := by
  simp [nv, gn, h]
theorem iv_get? (k : IntKind) (l : List Int) (i : Nat) (h : i < l.length) : (iv k l)[i]? = some (.int k (ga l i)) := by
  simp [iv, ga, h]
theorem nv_set (k : IntKind) (l : List Nat) (i n : Nat) : (nv k l).set i (.int k (n : Int)) = nv k (l.set i n) := by simp [nv, List.map_set]
theorem iv_set (k : IntKind) (l : List Int) (i : Nat) (n : Int) : (iv k l).set i (.int k n) = iv k (l.set i n) := by simp [iv, List.map_set]
theorem nv_replicate (k : IntKind) (n m : Nat) : nv k (List.replicate n m) = List.replicate n (.int k (m : Int)) := by simp [nv]
theorem nv_append (k : IntKind) (a b : List Nat) : nv k (a ++ b) = nv k a ++ nv k b := by simp [nv]
theorem iv_append (k : IntKind) (a b : List Int) : iv k (a ++ b) = iv k a ++ iv k b := by simp [iv]
theorem Own.nat {w : World} {e : TypeId} {g : Nat} {k : IntKind} {l : List Nat} {rest : List Value} (h : Own w e g (nv k l) rest) {i : Nat} (hi : i < l.length) :
    w.cell? ⟨g, i, none⟩ = some (.int k (gn l i : Int)) := h.cell' (nv_get? k l i hi)
theorem Own.int {w : World} {e : TypeId} {g : Nat} {k : IntKind} {l : List Int} {rest : List Value} (h : Own w e g (iv k l) rest) {i : Nat} (hi : i < l.length) :
    w.cell? ⟨g, i, none⟩ = some (.int k (ga l i)) := h.cell' (iv_get? k l i hi)
theorem Own.setNat {w : World} {e : TypeId} {g : Nat} {k : IntKind} {l : List Nat} {rest : List Value} (h : Own w e g (nv k l) rest) {i : Nat} (hi : i < l.length) (n : Nat) :
    Own (w.setCell ⟨g, i, none⟩ (.int k (n : Int))) e g (nv k (l.set i n)) rest := by
  have := h.set (i := i) (by simpa using hi) (.int k (n : Int))
  rwa [nv_set] at this
theorem Own.setInt {w : World} {e : TypeId} {g : Nat} {k : IntKind} {l : List Int} {rest : List Value} (h : Own w e g (iv k l) rest) {i : Nat} (hi : i < l.length) (n : Int) :
    Own (w.setCell ⟨g, i, none⟩ (.int k n)) e g (iv k (l.set i n)) rest := by
  have := h.set (i := i) (by simpa using hi) (.int k n)
  rwa [iv_set] at this

/-- What a slice's elements read as: whole numbers. -/
def Rd (w : World) (k : IntKind) (p : Option Addr) (l : List Int) : Prop :=
  ∀ i, i < l.length → ∃ b off, p = some ⟨b, off, none⟩ ∧ w.cell? ⟨b, off + i, none⟩ = some (.int k (ga l i))
theorem Rd.kept {w w' : World} {S : Nat → Prop} {k : IntKind} {p : Option Addr} {l : List Int} (h : Rd w k p l) (hc : Chg S w w') (hs : ∀ a, p = some a → ¬ S a.block) : Rd w' k p l := by
  intro i hi
  obtain ⟨b, off, rfl, hcell⟩ := h i hi
  exact ⟨b, off, rfl, hc.cell hcell (hs ⟨b, off, none⟩ rfl)⟩
theorem Rd.keptNo {w w' : World} {k : IntKind} {p : Option Addr} {l : List Int} (h : Rd w k p l) (hc : Chg No w w') : Rd w' k p l := h.kept hc fun _ _ h => h
theorem Own.rd {w : World} {e : TypeId} {g : Nat} {k : IntKind} {l : List Int} {rest : List Value} (h : Own w e g (iv k l) rest) : Rd w k (some ⟨g, 0, none⟩) l :=
  fun i hi => ⟨g, 0, rfl, by simpa using h.int hi⟩
theorem nv_iv (k : IntKind) (l : List Nat) : nv k l = iv k (l.map Int.ofNat) := by simp [nv, iv]

theorem take_set_succ (l' l : List Int) (k : Nat) (h : l'.length = l.length) (hk : k < l.length) (ht : l'.take k = l.take k) : (l'.set k (ga l k)).take (k + 1) = l.take (k + 1) := by
  apply List.ext_getElem?
  intro j
  have hj := congrArg (fun x => x[j]?) ht
  simp only [List.getElem?_take] at hj ⊢
  by_cases h1 : j < k + 1
  · rw [if_pos h1, if_pos h1]
    by_cases e : k = j
    · subst e
      simp [ga, h, hk, List.getD_eq_getElem?_getD]
    · rw [List.getElem?_set_ne e]
      simpa [show j < k by omega] using hj
  · rw [if_neg h1, if_neg h1]

theorem i64_and_nat (a b : Nat) (ha : a < 9223372036854775808) (hb : b < 9223372036854775808) : bits .and .i64 (a : Int) (b : Int) = ((a &&& b : Nat) : Int) := by
  have hx : a &&& b < 2 ^ 63 := Nat.and_lt_two_pow _ (by omega)
  show IntKind.i64.wrap ((BitVec.ofInt 64 (a : Int) &&& BitVec.ofInt 64 (b : Int)).toNat : Int) = _
  rw [BitVec.toNat_and, BitVec.ofInt_natCast, BitVec.ofInt_natCast, BitVec.toNat_ofNat, BitVec.toNat_ofNat, Nat.mod_eq_of_lt (by omega), Nat.mod_eq_of_lt (by omega), IntKind.wrap_i64]
  omega
theorem i64_xor_nat (a b : Nat) (ha : a < 9223372036854775808) (hb : b < 9223372036854775808) : bits .xor .i64 (a : Int) (b : Int) = ((a ^^^ b : Nat) : Int) := by
  have hx : a ^^^ b < 2 ^ 63 := Nat.xor_lt_two_pow (by omega) (by omega)
  show IntKind.i64.wrap ((BitVec.ofInt 64 (a : Int) ^^^ BitVec.ofInt 64 (b : Int)).toNat : Int) = _
  rw [BitVec.toNat_xor, BitVec.ofInt_natCast, BitVec.ofInt_natCast, BitVec.toNat_ofNat, BitVec.toNat_ofNat, Nat.mod_eq_of_lt (by omega), Nat.mod_eq_of_lt (by omega), IntKind.wrap_i64]
  omega

/-- A store of a value of one cell. -/
theorem run_store1 {P : Program} {w : World} {t : TypeId} {a : Addr} {v u : Value} (hsz : (P.info? t).map (·.size) = some 1) (h1 : v.oneCell' = true)
    (hc : w.cell? a = some u) (hf : w.frozen? a = false) : (Instr.storeAt t (.pointer (some a)) v).run P w = .ok () (w.setCell a v) := by
  obtain ⟨i, hi, hs⟩ : ∃ i, P.info? t = some i ∧ i.size = 1 := by
    cases hx : P.info? t with
    | none => simp [hx] at hsz
    | some i => simp [hx] at hsz; exact ⟨i, rfl, hsz⟩
  have hr := run_store P w a v .plain h1
  rw [hc] at hr
  simp only [hf, Bool.false_eq_true, if_false] at hr
  cases v <;> simp [Value.oneCell'] at h1 <;>
    simp [Instr.storeAt, Instr.sureAddr, storeVar, Value.cells, sizeOf, typeInfo, hi, hs, storeCells, Addr.add, hr]
theorem wpList_st {P : Program} {w : World} {ops : Array Oper} {rest : List Oper} {a : Act} {Q : Exit → Act → World → Prop} {t : TypeId} {ad val : Operand} {ty : TypeId} {pos : String} {after : Array Edge}
    (A : Addr) (v : Value) {u : Value} (hc : w.cell? A = some u) (hf : w.frozen? A = false)
    (he : a.eval ad = .pointer (some A) ∧ a.eval val = v) (hsz : (P.info? t).map (·.size) = some 1) (h1 : v.oneCell' = true)
    (hK : ∀ W, W = w.setCell A v → wpList P ops Q rest a W) : wpList P ops Q ({ dst := none, op := .store t ad val, type := ty, pos := pos, after := after, guard := none } :: rest) a w := by
  refine wpList_plain rfl fun K hK' => ?_
  have hr := run_store1 (P := P) (t := t) hsz h1 hc hf
  unfold Oper.wp
  simp [execOp, he.1, he.2, hr, Result.andThen]
  exact hK' _ _ (hK _ rfl)

/-- make of n one-cell elements, n known: a new block of zeros. -/
theorem wpList_mk {P : Program} {w : World} {ops : Array Oper} {rest : List Oper} {o : Oper} {a : Act} {Q : Exit → Act → World → Prop}
    (hg : o.guard = none) (l c : Operand) (t : TypeId) (hop : o.op = Op.makeSlice t l c)
    (e : TypeId) (z : Value) (by_ : Nat) (h1 : P.underlying t = some (.slice e)) (h2 : (P.info? e).map (fun i => (i.zero, i.size, i.bytes)) = some (some z, 1, by_)) (hz : z.cells = #[z])
    (n m : Nat) (hl : a.eval l = .int .i64 (n : Int)) (hc : a.eval c = .int .i64 (m : Int)) (hnm : n ≤ m) (b2 : by_ * m ≤ 281474976710656) (b3 : m ≤ maxLen)
    (hK : ∀ W, Own W e w.heap.size (List.replicate m z) [] → Chg No w W → w.heap.size < W.heap.size → wpList P ops Q rest (a.put o.dst (.slice (some ⟨w.heap.size, 0, none⟩) n m)) W) :
    wpList P ops Q (o :: rest) a w := by
  refine wpList_plain hg fun K hK' => ?_
  obtain ⟨i, hi, hz0, hs, hb⟩ : ∃ i, P.info? e = some i ∧ i.zero = some z ∧ i.size = 1 ∧ i.bytes = by_ := by
    cases hx : P.info? e with
    | none => simp [hx] at h2
    | some i => simp [hx] at h2; exact ⟨i, rfl, h2.1, h2.2.1, h2.2.2⟩
  have hr := run_make (P := P) w t e i z h1 hi hz0 .i64 .i64 (n : Int) (m : Int) (by omega) (by omega) (by
    rw [hb]; have : ((by_ * m : Nat) : Int) ≤ 281474976710656 := by omega
    rwa [Int.natCast_mul] at this) (by simp only [maxLen] at b3; omega)
  have hm : madeCells z.cells ((m : Int).toNat * i.size) = (List.replicate m z).toArray := by
    rw [hs, hz, Nat.mul_one, Int.toNat_natCast]
    apply Array.ext'
    rw [toList_madeCells_one]
  rw [hm] at hr
  unfold Oper.wp
  simp [execOp, hop, hl, hc, hr, Result.andThen]
  have ho : Own (w.alloc (.cells (List.replicate m z).toArray e)) e w.heap.size (List.replicate m z) [] := by
    have := Own.made w e (List.replicate m z) []
    simpa using this
  have hk := hK _ ho ((Chg.refl _ _).alloc _) ho.lt
  simp only [List.toArray_replicate] at hk
  exact hK' _ _ hk

end Go.Proofs.Ytpnmmedjamkmeaa
