/- More words of memory: whole rows stored, append within the room, owned slices as rows. -/
import Derived.Test.YtpnmmedjamkmeaaLib
import Derived.StillTailTactics
import Derived.Deep.DeepMust
set_option linter.unusedSimpArgs false
namespace Go.Proofs.Ytpnmmedjamkmeaa
open Go.RowKit

theorem Chg.setRow {S : Nat → Prop} {a w : World} (h : Chg S a w) {g : Nat} (hp : S g ∨ a.heap.size ≤ g) (cells : Array Value) : Chg S a (w.setRow g cells) :=
  ⟨h.os, h.tape, h.output, Nat.le_trans h.size (by simp), fun k hk hs => (setRow_other w g k cells (by
    intro e; subst e; rcases hp with hp | hp
    · exact hs hp
    · omega)).trans (h.block k hk hs)⟩

/-- A whole row is stored into a block of its own. -/
theorem wpList_stRow {P : Program} {w : World} {ops : Array Oper} {rest : List Oper} {a : Act} {Q : Exit → Act → World → Prop} {ty : TypeId} {x y : Operand} {oty : TypeId} {pos : String} {after : Array Edge}
    (g : Nat) (cells : Array Value) {t : TypeId} {old : Array Value} (hg : w.heap[g]? = some (.cells old t (0, 0)))
    (he : a.eval x = .pointer (some ⟨g, 0, none⟩) ∧ a.eval y = .agg cells)
    (hi : (P.info? ty).map (·.size) = some cells.size) (hold : old.size = cells.size) (h1 : cells.all (·.oneCell') = true)
    (hK : ∀ W, W.heap[g]? = some (.cells cells t (0, 0)) → Chg (Only g) w W → w.heap.size ≤ W.heap.size → wpList P ops Q rest a W) :
    wpList P ops Q ({ dst := none, op := .store ty x y, type := oty, pos := pos, after := after, guard := none } :: rest) a w :=
  wpList_store_row rfl ty x y rfl g cells he.1 he.2 t old hg hi hold h1
    (hK _ (setRow_heap w g old cells t (0, 0) hg) ((Chg.refl (Only g) w).setRow (g := g) (.inl rfl) _) (by simp))

section
variable {w : World} {base : Nat} {e : TypeId} {v : Value} {n : Nat} {xs : List Value}
theorem own_of_ownsRow (h : w.ownsRow base e 1 v n xs) : (v = .slice none 0 0 ∧ n = 0 ∧ xs = []) ∨
    ∃ g cap rest, v = .slice (some ⟨g, 0, none⟩) n cap ∧ base ≤ g ∧ Own w e g xs rest ∧ xs.length = n ∧ n + rest.length = cap ∧ cap ≤ maxLen := by
  obtain ⟨hl, h⟩ := h
  rw [Nat.mul_one] at hl
  rcases h with ⟨rfl, rfl⟩ | ⟨g, cap, cur, rfl, hb, hg, hnc, hcm, hcs, ht⟩
  · exact .inl ⟨rfl, rfl, List.eq_nil_of_length_eq_zero hl⟩
  · rw [Nat.mul_one] at hcs ht
    refine .inr ⟨g, cap, cur.toList.drop n, rfl, hb, ?_, hl, by simp [hcs]; omega, hcm⟩
    unfold Own
    rw [hg, ← ht, List.take_append_drop]
theorem ownsRow_of_own {g cap : Nat} {rest : List Value} (ho : Own w e g xs rest) (hb : base ≤ g) (hn : xs.length = n) (hc : n + rest.length = cap) (hm : cap ≤ maxLen) :
    w.ownsRow base e 1 (.slice (some ⟨g, 0, none⟩) n cap) n xs :=
  ⟨by omega, .inr ⟨g, cap, (xs ++ rest).toArray, rfl, hb, ho, by omega, hm, by simp; omega, by simp [← hn]⟩⟩
end

theorem Own.addCell {w : World} {e : TypeId} {g : Nat} {xs rest : List Value} (h : Own w e g xs rest) : ∀ j u, xs[j]? = some u → w.cell? ((⟨g, 0, none⟩ : Addr).add j) = some u := by
  intro j u hu
  have hadd : (⟨g, 0, none⟩ : Addr).add j = ⟨g, j, none⟩ := by unfold Addr.add; split <;> simp_all
  rw [hadd]; exact h.cell' hu
theorem nv_one {k : IntKind} {l : List Nat} : ∀ u ∈ nv k l, u.oneCell' = true := by
  intro u hu; simp only [nv, List.mem_map] at hu; obtain ⟨_, _, rfl⟩ := hu; rfl
theorem iv_one {k : IntKind} {l : List Int} : ∀ u ∈ iv k l, u.oneCell' = true := by
  intro u hu; simp only [iv, List.mem_map] at hu; obtain ⟨_, _, rfl⟩ := hu; rfl
/-- The slice of a literal without elements. -/
theorem emptyRow (W : World) (e : TypeId) : (W.alloc (.cells #[] e)).ownsRow W.heap.size e 1 (.slice (some ⟨W.heap.size, 0, none⟩) 0 0) 0 [] :=
  ownsRow_of_own (xs := []) (rest := []) (heap_alloc_new W _) (Nat.le_refl _) rfl rfl (Nat.zero_le _)

/-- make: n elements of one cell, room for m. -/
theorem wpList_mk1 {P : Program} {w : World} {ops : Array Oper} {tl : List Oper} {a : Act} {Q : Exit → Act → World → Prop} {t ty : TypeId} {l c : Operand} {d : Tmp} {pos : String} {after : Array Edge}
    (e : TypeId) (z : Value) (by_ n m : Nat) (he : a.eval l = .int .i64 (n : Int) ∧ a.eval c = .int .i64 (m : Int)) (h1 : P.underlying t = some (.slice e))
    (h2 : (P.info? e).map (fun i => (i.zero, i.size, i.bytes)) = some (some z, 1, by_)) (hz : z.cells = #[z]) (hnm : n ≤ m) (b2 : by_ * m ≤ 281474976710656) (b3 : m ≤ maxLen)
    (hK : ∀ W, Own W e w.heap.size (List.replicate n z) (List.replicate (m - n) z) → Chg No w W → w.heap.size < W.heap.size → wpList P ops Q tl (a.put (some d) (.slice (some ⟨w.heap.size, 0, none⟩) n m)) W) :
    wpList P ops Q ({ dst := some d, op := .makeSlice t l c, type := ty, pos := pos, after := after, guard := none } :: tl) a w :=
  wpList_mk rfl l c t rfl e z by_ h1 h2 hz n m he.1 he.2 hnm b2 b3 fun W hO hC hs => hK W (by
    unfold Own at hO ⊢
    rw [hO]
    simp only [List.append_nil, List.replicate_append_replicate]
    rw [show n + (m - n) = m from by omega]) hC hs

theorem Own.lit1 (W : World) (e : TypeId) (v : Value) : Own (W.alloc (.cells #[v] e)) e W.heap.size [v] [] := heap_alloc_new W _
theorem Chg.allocOnly {S : Nat → Prop} {a w W : World} {g : Nat} {o : Obj} (h : Chg S a w) (hg : S g ∨ a.heap.size ≤ g) (k : Chg (Only g) (w.alloc o) W) : Chg S a W :=
  (h.alloc o).trans' k fun i hi e => by
    rcases hg with hg | hg
    · rw [show i = g from e]; exact hg
    · have : i = g := e
      omega

/-- append within the room. -/
theorem wpList_appRoom {P : Program} {w : World} {ops : Array Oper} {tl : List Oper} {a : Act} {Q : Exit → Act → World → Prop} {s x : Operand} {t ty : TypeId} {d : Tmp} {pos : String} {after : Array Edge}
    {g : Nat} {e : TypeId} {xs rest : List Value} (hO : Own w e g xs rest) (ad : Addr) (ys : List Value) (hys : ∀ j u, ys[j]? = some u → w.cell? (ad.add j) = some u)
    (n cap m c : Nat) (he : a.eval s = .slice (some ⟨g, 0, none⟩) n cap ∧ a.eval x = .slice (some ad) m c)
    (hn : xs.length = n) (hm : ys.length = m) (hcap : cap = n + rest.length) (hroom : m ≤ rest.length)
    (ht : P.underlying t = some (.slice e)) (hi : (P.info? e).map (·.size) = some 1) (h1 : ∀ u ∈ ys, u.oneCell' = true)
    (hK : ∀ W, Own W e g (xs ++ ys) (rest.drop m) → Chg (Only g) w W → wpList P ops Q tl (a.put (some d) (.slice (some ⟨g, 0, none⟩) (n + m) cap)) W) :
    wpList P ops Q ({ dst := some d, op := .call { callee := .builtin .append, args := #[s, x], argTypes := #[t, t] }, type := ty, pos := pos, after := after, guard := none } :: tl) a w := by
  refine wpList_plain rfl fun K hK' => ?_
  obtain ⟨i, hi', hs⟩ : ∃ i, P.info? e = some i ∧ i.size = 1 := by
    cases hx : P.info? e with
    | none => simp [hx] at hi
    | some i => simp [hx] at hi; exact ⟨i, rfl, hi⟩
  have hr := run_append_room (P := P) w t ty e i ht hi' g n cap (xs ++ rest).toArray hO ad m c ys (by rw [hs]; omega) hys h1 (by omega) (by rw [hs]; simp; omega)
  have hval : ((xs ++ rest).toArray.toList.take (n * i.size) ++ ys ++ (xs ++ rest).toArray.toList.drop (n * i.size + ys.length)) = (xs ++ ys) ++ rest.drop m := by
    rw [hs, Nat.mul_one, ← hn, hm]
    simp [List.drop_append, List.drop_eq_nil_of_le]
  rw [hval] at hr
  unfold Oper.wp execOp
  simp only [resolve, invoke, builtin, Sem.run_bind, Sem.run_pure, Result.andThen_ok, List.map_toArray, List.map_cons, List.map_nil, he.1, he.2, hr]
  refine hK' _ _ (hK _ ?_ ((Chg.refl (Only g) w).setRow (g := g) (.inl rfl) _))
  have := setRow_heap w g (xs ++ rest).toArray ((xs ++ ys) ++ rest.drop m).toArray e (0, 0) hO
  exact this

/-- append in general. -/
theorem wpList_app {P : Program} {w : World} {ops : Array Oper} {tl : List Oper} {a : Act} {Q : Exit → Act → World → Prop} {s x : Operand} {t ty : TypeId} {d : Tmp} {pos : String} {after : Array Edge}
    {base : Nat} {e : TypeId} {v : Value} {n : Nat} {xs : List Value} (hown : w.ownsRow base e 1 v n xs) (ad : Addr) (ys : List Value) (hys : ∀ j u, ys[j]? = some u → w.cell? (ad.add j) = some u)
    (z : Value) (m c by_ : Nat) (he : a.eval s = v ∧ a.eval x = .slice (some ad) m c) (hm : ys.length = m)
    (ht : P.underlying t = some (.slice e)) (hi : (P.info? e).map (fun i => (i.zero, i.size, i.bytes)) = some (some z, 1, by_)) (hz : z.cells.size = 1) (h1 : ∀ u ∈ ys, u.oneCell' = true)
    (h63 : n + m ≤ maxLen) (hbytes : (n + m) * by_ ≤ 140737488355328) (hbase : base ≤ w.heap.size)
    (hK : ∀ v' W, W.ownsRow base e 1 v' (n + m) (xs ++ ys) → w.grownBy W v.ownBlock → wpList P ops Q tl (a.put (some d) v') W) :
    wpList P ops Q ({ dst := some d, op := .call { callee := .builtin .append, args := #[s, x], argTypes := #[t, t] }, type := ty, pos := pos, after := after, guard := none } :: tl) a w := by
  obtain ⟨i, hi', hz0, hs, hb⟩ : ∃ i, P.info? e = some i ∧ i.zero = some z ∧ i.size = 1 ∧ i.bytes = by_ := by
    cases hx : P.info? e with
    | none => simp [hx] at hi
    | some i => simp [hx] at hi; exact ⟨i, rfl, hi.1, hi.2.1, hi.2.2⟩
  exact wpList_append_own w rfl s x t rfl base e i z 1 by_ ht hi' hz0 hs hb hz (by omega) v n xs he.1 hown ad m c ys he.2 (by omega) hys h1 h63 hbytes hbase
    fun v' W h2 h3 _ => hK v' W h2 h3
end Go.Proofs.Ytpnmmedjamkmeaa
