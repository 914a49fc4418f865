/- append onto own rows, with what it keeps; rows whose block has a type; the lengths are at most 100000. -/
import Derived.Test.YtlegpbookbghbaaE2
import Derived.Test.YtlegpbookbghbaaE3
import Derived.Test.YtlegpbookbghbaaE5
set_option linter.unusedVariables false
set_option linter.unusedSimpArgs false
namespace Go.Proofs.Ytlegpbookbghbaa
open Go.RowKit

section
variable {P : Program}
theorem run_appendG (w : World) (base : Nat) (t ty e : TypeId) (i : TypeInfo) (z : Value) (size bytes : Nat) (ht : P.underlying t = some (.slice e)) (hi : P.info? e = some i) (hz : i.zero = some z)
    (hsize : i.size = size) (hby : i.bytes = bytes) (hzs : z.cells.size = size) (hsz : 0 < size)
    (v : Value) (n : Nat) (xs : List Value) (hown : w.ownsRow base e size v n xs)
    (S : Option Addr) (m c : Nat) (ys : List Value) (hl : ys.length = m * size) (hys : Rd w S ys) (h1 : ∀ u ∈ ys, u.oneCell' = true)
    (h63 : n + m ≤ maxLen) (hbytes : (n + m) * bytes ≤ 140737488355328) (hbase : base ≤ w.heap.size) :
    ∃ v' w', (Builtin.append_ #[t, t] ty #[v, .slice S m c]).run P w = .ok v' w' ∧ w'.ownsRow base e size v' (n + m) (xs ++ ys) ∧ w.grownBy w' v.ownBlock := by
  cases S with
  | none =>
    have hye : ys = [] := by
      rcases hys with h | ⟨b, o, h, _⟩
      · exact h
      · cases h
    subst hye
    have hm : m = 0 := by
      rcases Nat.eq_zero_or_pos m with h | h
      · exact h
      · have := Nat.mul_pos h hsz
        simp only [List.length_nil] at hl
        omega
    subst hm
    subst hsize hby
    have hgr : w.grownBy w v.ownBlock := ⟨rfl, rfl, rfl, Nat.le_refl _, fun k _ _ => rfl⟩
    rcases hown.2 with ⟨rfl, rfl⟩ | ⟨g, cap, cur, rfl, _, _, hnc, _⟩
    · exact ⟨_, w, run_append_nothing w t ty e i ht hi _ _ _, by simpa using hown, hgr⟩
    · refine ⟨_, w, ?_, by simpa using hown, hgr⟩
      simp [Builtin.append_, run_underlying ht, sizeOf, typeInfo, hi, Builtin.lenOf, Builtin.firstCells, hnc, storeCells]
  | some s =>
    have hs : ∀ j u, ys[j]? = some u → w.cell? (s.add j) = some u := by
      by_cases hy : ys = []
      · subst hy
        intro j u hu
        simp at hu
      · obtain ⟨s', e', hs⟩ := hys.add hy
        cases e'
        exact hs
    obtain ⟨v', w', hr, ho, hg, _⟩ := run_append_own (P := P) w base t ty e i z size bytes ht hi hz hsize hby hzs hsz v n xs hown s m c ys hl hs h1 h63 hbytes hbase
    exact ⟨v', w', hr, ho, hg⟩
variable {ops : Array Oper} {rest : List Oper} {o : Oper} {a : Act} {Q : Exit → Act → World → Prop}
theorem wpList_appendG {W : World} (base : Nat) (t e : TypeId) (i : TypeInfo) (z : Value) (size bytes : Nat) (ht : P.underlying t = some (.slice e)) (hi : P.info? e = some i) (hz : i.zero = some z)
    (hsize : i.size = size) (hby : i.bytes = bytes) (hzs : z.cells.size = size) (hsz : 0 < size)
    (n m : Nat) {c : Nat} {v : Value} {S : Option Addr} (xs ys : List Value) (hgd : o.guard = none) (s x : Operand)
    (ho : o.op = .call { callee := .builtin .append, args := #[s, x], argTypes := #[t, t] }) (hs : a.eval s = v) (hx : a.eval x = .slice S m c)
    (hown : W.ownsRow base e size v n xs) (hl : ys.length = m * size) (hys : Rd W S ys) (h1 : ∀ u ∈ ys, u.oneCell' = true) (h63 : n + m ≤ maxLen) (hbytes : (n + m) * bytes ≤ 140737488355328) (hbase : base ≤ W.heap.size)
    (h : ∀ A' c' w', w'.ownsRow base e size (.slice A' (n + m) c') (n + m) (xs ++ ys) → W.grownBy w' v.ownBlock → wpList P ops Q rest (a.put o.dst (.slice A' (n + m) c')) w') :
    wpList P ops Q (o :: rest) a W := by
  obtain ⟨v', w', hr, ho', hg⟩ := run_appendG (P := P) W base t o.type e i z size bytes ht hi hz hsize hby hzs hsz v n xs hown S m c ys hl hys h1 h63 hbytes hbase
  have hv : ∃ A' c', v' = .slice A' (n + m) c' := by
    rcases ho'.2 with ⟨rfl, h0⟩ | ⟨g, cap, cur, rfl, _⟩
    · exact ⟨none, 0, by rw [h0]⟩
    · exact ⟨_, _, rfl⟩
  obtain ⟨A', c', rfl⟩ := hv
  exact wpList_append_run hgd s x t ho hs hx hr (h A' c' w' ho' hg)
end
theorem info55 : (Try.prog.info? 55).map (fun i => (i.zero, i.size, i.bytes)) = some (some (.agg #[.int .i64 0, .int .i64 0, .int .i64 0, .slice none 0 0, .int .i64 0, .int .i64 0]), 6, 64) := by kernel_rfl
theorem info61 : (Try.prog.info? 61).map (fun i => (i.zero, i.size, i.bytes)) = some (some (.agg #[.int .i64 0, .int .i64 0]), 2, 16) := by kernel_rfl
theorem info63 : (Try.prog.info? 63).map (fun i => (i.zero, i.size, i.bytes)) = some (some (.agg #[.int .i64 0, .int .i64 0, .int .i64 0, .int .i64 0, .int .i64 0]), 5, 40) := by kernel_rfl
theorem partCells_one (l : List PartS) : ∀ u ∈ partCells l, u.oneCell' = true := by
  intro u hu
  obtain ⟨x, _, hx⟩ := List.mem_flatMap.1 hu
  simp only [PartS.cells, List.mem_cons, List.not_mem_nil, or_false] at hx
  rcases hx with rfl | rfl | rfl | rfl | rfl | rfl <;> rfl
theorem winCells_one (l : List WinS) : ∀ u ∈ winCells l, u.oneCell' = true := by
  intro u hu
  obtain ⟨x, _, hx⟩ := List.mem_flatMap.1 hu
  simp only [WinS.cells, List.mem_cons, List.not_mem_nil, or_false] at hx
  rcases hx with rfl | rfl <;> rfl
theorem chanCells_one (l : List ChanS) : ∀ u ∈ chanCells l, u.oneCell' = true := by
  intro u hu
  obtain ⟨x, _, hx⟩ := List.mem_flatMap.1 hu
  simp only [ChanS.cells, List.mem_cons, List.not_mem_nil, or_false] at hx
  rcases hx with rfl | rfl | rfl | rfl | rfl <;> rfl
theorem partCells_append (l m : List PartS) : partCells (l ++ m) = partCells l ++ partCells m := List.flatMap_append
theorem winCells_append (l m : List WinS) : winCells (l ++ m) = winCells l ++ winCells m := List.flatMap_append
theorem chanCells_append (l m : List ChanS) : chanCells (l ++ m) = chanCells l ++ chanCells m := List.flatMap_append
theorem partCells_len (l : List PartS) : (partCells l).length = l.length * 6 := flat_len PartS.cells 6 (fun _ => rfl) l
theorem winCells_len (l : List WinS) : (winCells l).length = l.length * 2 := flat_len WinS.cells 2 (fun _ => rfl) l
theorem chanCells_len (l : List ChanS) : (chanCells l).length = l.length * 5 := flat_len ChanS.cells 5 (fun _ => rfl) l

theorem wpList_append46 {ops : Array Oper} {rest : List Oper} {o : Oper} {a : Act} {Q : Exit → Act → World → Prop} {W : World} (base : Nat) (l m : List PartS) (n k n' : Nat) {v : Value} {A : Option Addr} {c : Nat} (hgd : o.guard = none) (s x : Operand) (ho : o.op = .call { callee := .builtin .append, args := #[s, x], argTypes := #[46, 46] }) (hs : a.eval s = v) (hx : a.eval x = .slice A k c) (hn : n = l.length) (hk : k = m.length) (hn' : n' = l.length + m.length) (hown : W.ownsRow base 55 6 v n (partCells l)) (hm : Rd W A (partCells m)) (hlen : l.length + m.length ≤ 100000) (hbase : base ≤ W.heap.size) (h : ∀ A' c' w', w'.ownsRow base 55 6 (.slice A' n' c') n' (partCells (l ++ m)) → W.grownBy w' v.ownBlock → wpList Try.prog ops Q rest (a.put o.dst (.slice A' n' c')) w') : wpList Try.prog ops Q (o :: rest) a W := by
  subst hn hk hn'
  obtain ⟨i0, hi, hzz⟩ := Option.map_eq_some_iff.1 info55
  simp only [Prod.mk.injEq] at hzz
  obtain ⟨hz, hsz, hb⟩ := hzz
  refine wpList_appendG base 46 55 i0 _ 6 64 Try.underlying46 hi hz hsz hb rfl (by decide) l.length m.length (partCells l) (partCells m) hgd s x ho hs hx hown (partCells_len m) hm (partCells_one m) (by simp only [maxLen]; omega) (by omega) hbase fun A' c' w' h1 h2 => h A' c' w' (by rw [partCells_append]; exact h1) h2
theorem wpList_append47 {ops : Array Oper} {rest : List Oper} {o : Oper} {a : Act} {Q : Exit → Act → World → Prop} {W : World} (base : Nat) (l m : List WinS) (n k n' : Nat) {v : Value} {A : Option Addr} {c : Nat} (hgd : o.guard = none) (s x : Operand) (ho : o.op = .call { callee := .builtin .append, args := #[s, x], argTypes := #[47, 47] }) (hs : a.eval s = v) (hx : a.eval x = .slice A k c) (hn : n = l.length) (hk : k = m.length) (hn' : n' = l.length + m.length) (hown : W.ownsRow base 61 2 v n (winCells l)) (hm : Rd W A (winCells m)) (hlen : l.length + m.length ≤ 100000) (hbase : base ≤ W.heap.size) (h : ∀ A' c' w', w'.ownsRow base 61 2 (.slice A' n' c') n' (winCells (l ++ m)) → W.grownBy w' v.ownBlock → wpList Try.prog ops Q rest (a.put o.dst (.slice A' n' c')) w') : wpList Try.prog ops Q (o :: rest) a W := by
  subst hn hk hn'
  obtain ⟨i0, hi, hzz⟩ := Option.map_eq_some_iff.1 info61
  simp only [Prod.mk.injEq] at hzz
  obtain ⟨hz, hsz, hb⟩ := hzz
  refine wpList_appendG base 47 61 i0 _ 2 16 Try.underlying47 hi hz hsz hb rfl (by decide) l.length m.length (winCells l) (winCells m) hgd s x ho hs hx hown (winCells_len m) hm (winCells_one m) (by simp only [maxLen]; omega) (by omega) hbase fun A' c' w' h1 h2 => h A' c' w' (by rw [winCells_append]; exact h1) h2
theorem wpList_append48 {ops : Array Oper} {rest : List Oper} {o : Oper} {a : Act} {Q : Exit → Act → World → Prop} {W : World} (base : Nat) (l m : List ChanS) (n k n' : Nat) {v : Value} {A : Option Addr} {c : Nat} (hgd : o.guard = none) (s x : Operand) (ho : o.op = .call { callee := .builtin .append, args := #[s, x], argTypes := #[48, 48] }) (hs : a.eval s = v) (hx : a.eval x = .slice A k c) (hn : n = l.length) (hk : k = m.length) (hn' : n' = l.length + m.length) (hown : W.ownsRow base 63 5 v n (chanCells l)) (hm : Rd W A (chanCells m)) (hlen : l.length + m.length ≤ 100000) (hbase : base ≤ W.heap.size) (h : ∀ A' c' w', w'.ownsRow base 63 5 (.slice A' n' c') n' (chanCells (l ++ m)) → W.grownBy w' v.ownBlock → wpList Try.prog ops Q rest (a.put o.dst (.slice A' n' c')) w') : wpList Try.prog ops Q (o :: rest) a W := by
  subst hn hk hn'
  obtain ⟨i0, hi, hzz⟩ := Option.map_eq_some_iff.1 info63
  simp only [Prod.mk.injEq] at hzz
  obtain ⟨hz, hsz, hb⟩ := hzz
  refine wpList_appendG base 48 63 i0 _ 5 40 Try.underlying48 hi hz hsz hb rfl (by decide) l.length m.length (chanCells l) (chanCells m) hgd s x ho hs hx hown (chanCells_len m) hm (chanCells_one m) (by simp only [maxLen]; omega) (by omega) hbase fun A' c' w' h1 h2 => h A' c' w' (by rw [chanCells_append]; exact h1) h2

/-- A row at the head of a block of this type, or no cells. -/
def RowB (w : World) (e : TypeId) (A : Option Addr) (xs : List Value) : Prop :=
  xs = [] ∨ ∃ g cur, A = some ⟨g, 0, none⟩ ∧ Blk w g cur e ∧ cur.toList.take xs.length = xs
theorem RowB.rd {w : World} {e : TypeId} {A : Option Addr} {xs : List Value} (h : RowB w e A xs) : Rd w A xs := by
  rcases h with h | ⟨g, cur, rfl, hb, ht⟩
  · exact .inl h
  · refine .inr ⟨g, 0, rfl, fun j u hu => ?_⟩
    have hj : j < xs.length := (List.getElem?_eq_some_iff.1 hu).1
    have hq : (cur.toList.take xs.length)[j]? = some u := by rw [ht]; exact hu
    rw [List.getElem?_take, if_pos hj, Array.getElem?_toList] at hq
    rw [Nat.zero_add, hb.cell j]
    exact hq
theorem RowB.below {w w1 : World} {e : TypeId} {A : Option Addr} {xs : List Value} (h : RowB w e A xs) (hb : Below w.heap.size w w1) : RowB w1 e A xs := by
  rcases h with h | ⟨g, cur, rfl, hB, ht⟩
  · exact .inl h
  · exact .inr ⟨g, cur, rfl, hB.below hb, ht⟩
theorem RowB.alloc {w : World} {e : TypeId} {A : Option Addr} {xs : List Value} (h : RowB w e A xs) (o : Obj) : RowB (w.alloc o) e A xs := h.below (belowAlloc w o)
theorem RowB.drew {w : World} {e : TypeId} {A : Option Addr} {xs : List Value} (h : RowB w e A xs) : RowB w.drew e A xs := h
theorem Blk.type_ne {w : World} {g k : Nat} {cur cs : Array Value} {e t : TypeId} (h : Blk w g cur e) (h2 : Blk w k cs t) (hne : e ≠ t) : g ≠ k := by
  rintro rfl
  unfold Blk at h h2
  rw [h] at h2
  simp only [Option.some.injEq, Obj.cells.injEq] at h2
  exact hne h2.2.1
theorem RowB.setO {w : World} {e t : TypeId} {A : Option Addr} {xs : List Value} {p : Addr} {cs : Array Value} (hp : Blk w p.block cs t) (hne : e ≠ t) (h : RowB w e A xs) (u : Value) : RowB (w.setCell p u) e A xs := by
  rcases h with h | ⟨g, cur, rfl, hB, ht⟩
  · exact .inl h
  · exact .inr ⟨g, cur, rfl, Blk.setO (hB.type_ne hp hne) hB u, ht⟩
theorem RowB.set {w : World} {e : TypeId} {g : Nat} {cur : Array Value} {xs : List Value} (hB : Blk w g cur e) (ht : cur.toList.take xs.length = xs) (j : Nat) (u : Value) : RowB (w.setCell ⟨g, j, none⟩ u) e (some ⟨g, 0, none⟩) (xs.set j u) := by
  refine .inr ⟨g, cur.setIfInBounds j u, rfl, hB.set j u, ?_⟩
  rw [Array.toList_setIfInBounds, List.length_set, List.take_set, ht]
theorem RowB.ofOwn {w : World} {base : Nat} {e : TypeId} {size n c : Nat} {A : Option Addr} {xs : List Value} (h : w.ownsRow base e size (.slice A n c) n xs) : RowB w e A xs := by
  rcases h.2 with ⟨_, h0⟩ | ⟨g, cap, cur, hv, _, hh, _, _, _, ht⟩
  · subst h0
    exact .inl (List.eq_nil_of_length_eq_zero (by rw [h.1]; simp))
  · simp only [Value.slice.injEq] at hv
    obtain ⟨rfl, -, rfl⟩ := hv
    exact .inr ⟨g, cur, rfl, hh, by rw [h.1]; exact ht⟩
/-- Whose block may be one of this type, or none. -/
def OfType (w : World) (r : Option Nat) (e : TypeId) : Prop := ∀ k, r = some k → ∃ cur, Blk w k cur e
theorem OfType.own {w : World} {base : Nat} {e : TypeId} {size n : Nat} {v : Value} {xs : List Value} (h : w.ownsRow base e size v n xs) : OfType w v.ownBlock e := by
  intro k hk
  rcases h.2 with ⟨rfl, h0⟩ | ⟨g, cap, cur, rfl, _, hh, _⟩
  · cases hk
  · simp only [Value.ownBlock, Option.some.injEq] at hk
    subst hk
    exact ⟨cur, hh⟩
theorem Blk.grown {w w1 : World} {k : Nat} {cs : Array Value} {t e : TypeId} {r : Option Nat} (h : Blk w k cs t) (hg : w.grownBy w1 r) (hr : OfType w r e) (hne : t ≠ e) : Blk w1 k cs t := by
  refine (hg.block k h.lt fun hk => ?_).trans h
  obtain ⟨cur, hc⟩ := hr k hk.symm
  exact h.type_ne hc hne rfl
theorem RowB.grown {w w1 : World} {t e : TypeId} {A : Option Addr} {xs : List Value} {r : Option Nat} (h : RowB w t A xs) (hg : w.grownBy w1 r) (hr : OfType w r e) (hne : t ≠ e) : RowB w1 t A xs := by
  rcases h with h | ⟨g, cur, rfl, hB, ht⟩
  · exact .inl h
  · exact .inr ⟨g, cur, rfl, hB.grown hg hr hne, ht⟩
theorem belowGrown {B : Nat} {w w1 w2 : World} {base : Nat} {e : TypeId} {size n : Nat} {v : Value} {xs : List Value} (h : Below B w w1) (hg : w1.grownBy w2 v.ownBlock) (ho : w1.ownsRow base e size v n xs) (hB : B ≤ w1.heap.size) (hb : B ≤ base) : Below B w w2 := by
  refine h.grown hg hB fun k hk => ?_
  rcases ho.2 with ⟨rfl, h0⟩ | ⟨g, cap, cur, rfl, hbg, _⟩
  · cases hk
  · simp only [Value.ownBlock, Option.some.injEq] at hk
    omega
end Go.Proofs.Ytlegpbookbghbaa
