/- Rows of rings and of entries copied: the walks; the rings lie in memory, their entries are no more than 1000 each. -/
import Derived.Test.YtlegpbookbghbaaJ2
import Derived.Laws.Cover3
set_option linter.unusedVariables false
set_option linter.unusedSimpArgs false
namespace Go.Proofs.Ytlegpbookbghbaa
open Go.RowKit

theorem eqlNil (w : World) (t e : TypeId) (a : Option Addr) (l c : Nat) (h : Try.prog.underlying t = some (.slice e)) : (binOp .eql t (.slice a l c) (.slice none 0 0)).run Try.prog w = .ok (.bool a.isNone) w := by
  simp only [binOp]
  simp [run_equal_slice_nil w t e a l c h]
theorem rgCells_nil {l : List RingM} (h : rgCells l = []) : l = [] := by
  refine List.eq_nil_of_length_eq_zero ?_
  have := rgCells_length l
  rw [h] at this
  simp only [List.length_nil] at this
  omega
theorem entCells_nil {l : List Ent} (h : entCells l = []) : l = [] := by
  refine List.eq_nil_of_length_eq_zero ?_
  have := entCells_length l
  rw [h] at this
  simp only [List.length_nil] at this
  omega
theorem info29 : (Try.prog.info? 29).map (fun i => (i.zero, i.size, i.bytes)) = some (some (.agg #[(.int .i64 0), (.slice none 0 0), (.int .u64 0), (.int .u64 0), (.int .i64 0), (.int .i64 0), (.int .i64 0), (.int .i64 0), (.int .i64 0)]), 9, 88) := by kernel_rfl
/-- append of rings onto an own row, or onto an empty one. -/
theorem append80 (w : World) (base : Nat) (v : Value) (l : List RingM) (hown : Own0 w base 29 9 v l.length (rgCells l))
    (S : Option Addr) (c : Nat) (m : List RingM) (hm : Rd w S (rgCells m)) (hlen : l.length + m.length ≤ 100000) (hbase : base ≤ w.heap.size) :
    ∃ v' w', (Builtin.append_ #[80, 80] 80 #[v, .slice S m.length c]).run Try.prog w = .ok v' w' ∧ Own0 w' base 29 9 v' (l ++ m).length (rgCells (l ++ m)) ∧ Below base w w' := by
  obtain ⟨i0, hi, hzz⟩ := Option.map_eq_some_iff.1 info29
  simp only [Prod.mk.injEq] at hzz
  obtain ⟨hz, hs, hb⟩ := hzz
  obtain ⟨v', w', h1, h2, h3⟩ := run_append0 (P := Try.prog) w base 80 80 29 i0 _ 9 88 Try.underlying80 hi hz hs hb rfl (by decide) v l.length (rgCells l) hown S m.length c (rgCells m) (rgCells_length m) hm (rgCells_one m)
    (by simp only [maxLen]; omega) (by omega) hbase
  exact ⟨v', w', h1, by rw [List.length_append, rgCells_append]; exact h2, h3⟩
theorem ownRings {w w' : World} {A' : Option Addr} {c' : Nat} {l : List RingM} (h : Own0 w' w.heap.size 29 9 (.slice A' l.length c') l.length (rgCells l)) (hR : ∀ p ∈ l, p.r.L.length ≤ p.c ∧ Rd w p.A (entCells p.r.L)) (hb : Below w.heap.size w w') :
    l.length ≤ c' ∧ RingsO w' w.heap.size A' l := by
  rcases h with h | ⟨h0, _, a, e⟩
  · rcases h.2 with ⟨h1, h2⟩ | ⟨g, cap, cur, e, hg, hcur, hnc, hcm, hcs, htake⟩
    · obtain rfl := List.eq_nil_of_length_eq_zero h2
      exact ⟨Nat.zero_le _, .inl rfl⟩
    · simp only [Value.slice.injEq] at e
      obtain ⟨rfl, _, rfl⟩ := e
      refine ⟨hnc, .inr ⟨g, rfl, hg, fun j u hu => ?_, fun j => frozen_of_row w' g j cur 29 hcur, (Array.getElem?_eq_some_iff.1 hcur).1, fun p hp => ⟨(hR p hp).1, ((hR p hp).2.rdx hg).below hb⟩⟩⟩
      rw [cell_of_row w' g j cur 29 (0, 0) hcur]
      rw [← htake, List.getElem?_take] at hu
      split at hu
      · simpa using hu
      · cases hu
  · simp only [Value.slice.injEq] at e
    obtain rfl := List.eq_nil_of_length_eq_zero h0
    exact ⟨Nat.zero_le _, .inl rfl⟩
def ClonePost (w : World) (l : List RingM) (e : Ending) (w' : World) : Prop :=
  ∃ A' c', e = .returned (.slice A' l.length c') ∧ l.length ≤ c' ∧ RingsO w' w.heap.size A' l ∧ Below w.heap.size w w'
set_option maxRecDepth 100000 in set_option maxHeartbeats 4000000 in
theorem clone99 (A : Option Addr) (c : Nat) (l : List RingM) (w : World) (hA : RingsR w A l) (hn : l.length ≤ 1000) :
    Calls Try.prog 99 #[.slice A l.length c] w (ClonePost w l) := by
  have HA := Lib.hid hA
  have HB : Hid (Below w.heap.size w w) := Below.refl _ _
  have hu80 := Try.underlying80
  clear hA
  cases A with
  | none =>
    have h0 : l = [] := by
      rcases HA.out.1 with h | ⟨b, o, h, _⟩
      · exact rgCells_nil h
      · cases h
    subst h0
    have he := fun W => eqlNil W 80 29 none 0 c Try.underlying80
    simp only [Option.isNone_none] at he
    go_enter Try.func99, Try.ntmps99
    go_wp2
    go_ret
    exact ⟨none, 0, rfl, Nat.le_refl _, .inl rfl, HB.out⟩
  | some a =>
    have he := fun W => eqlNil W 80 29 (some a) l.length c Try.underlying80
    simp only [Option.isNone_some] at he
    obtain ⟨v1, w1, r1, o1, b1⟩ := append80 (w.alloc (.cells #[] 29)) w.heap.size (.slice (some ⟨w.heap.size, 0, none⟩) 0 0) [] (.inr ⟨rfl, rfl, _, rfl⟩) (some a) c l (HA.out.1.below (bAl (Below.refl _ _) _)) (by simp only [List.length_nil]; omega) (by simp)
    simp only [List.nil_append] at o1
    obtain ⟨A', c', rfl, hc', -⟩ := RdN.ofOwn0 o1
    have hbb := (bAl (Below.refl w.heap.size w) (.cells #[] 29)).trans b1
    have HF := Lib.hid (And.intro (ownRings o1 HA.out.2 hbb) hbb)
    have R1 := Lib.hid r1
    clear r1 o1 b1 hc' hbb
    go_enter Try.func99, Try.ntmps99
    go_wp2_with (at_builtin; refine wpList_append_run (v := .slice (some ⟨w.heap.size, 0, none⟩) 0 0) (u := .slice (some a) l.length c) (by rfl) (.tmp 5) (.tmp 6) 80 (by rfl) (by rfl) (by rfl) R1.out ?_)
    go_ret
    exact ⟨A', c', rfl, HF.out.1.1, HF.out.1.2, HF.out.2⟩
def CloneEPost (w : World) (l : List Ent) (e : Ending) (w' : World) : Prop :=
  ∃ A' c', e = .returned (.slice A' l.length c') ∧ l.length ≤ c' ∧ RdN w' w.heap.size A' (entCells l) ∧ Below w.heap.size w w'
set_option maxRecDepth 100000 in set_option maxHeartbeats 4000000 in
theorem clone100 (A : Option Addr) (c : Nat) (l : List Ent) (w : World) (hA : Rd w A (entCells l)) (hn : l.length ≤ 1000) :
    Calls Try.prog 100 #[.slice A l.length c] w (CloneEPost w l) := by
  have HA := Lib.hid hA
  have HB : Hid (Below w.heap.size w w) := Below.refl _ _
  have hu22 := Try.underlying22
  clear hA
  cases A with
  | none =>
    have h0 : l = [] := by
      rcases HA.out with h | ⟨b, o, h, _⟩
      · exact entCells_nil h
      · cases h
    subst h0
    have he := fun W => eqlNil W 22 27 none 0 c Try.underlying22
    simp only [Option.isNone_none] at he
    go_enter Try.func100, Try.ntmps100
    go_wp2
    go_ret
    exact ⟨none, 0, rfl, Nat.le_refl _, RdN.nil _ _ _, HB.out⟩
  | some a =>
    have he := fun W => eqlNil W 22 27 (some a) l.length c Try.underlying22
    simp only [Option.isNone_some] at he
    obtain ⟨v1, w1, r1, o1, b1⟩ := append22 (w.alloc (.cells #[] 27)) w.heap.size (.slice (some ⟨w.heap.size, 0, none⟩) 0 0) [] (.inr ⟨rfl, rfl, _, rfl⟩) (some a) c l (HA.out.below (bAl (Below.refl _ _) _)) (by simp only [List.length_nil]; omega) (by simp)
    simp only [List.nil_append] at o1
    obtain ⟨A', c', rfl, hc', hR⟩ := RdN.ofOwn0 o1
    have HF := Lib.hid (And.intro hc' (And.intro hR ((bAl (Below.refl w.heap.size w) (.cells #[] 27)).trans b1)))
    have R1 := Lib.hid r1
    clear r1 o1 b1 hc' hR
    go_enter Try.func100, Try.ntmps100
    go_wp2_with (at_builtin; refine wpList_append_run (v := .slice (some ⟨w.heap.size, 0, none⟩) 0 0) (u := .slice (some a) l.length c) (by rfl) (.tmp 5) (.tmp 6) 22 (by rfl) (by rfl) (by rfl) R1.out ?_)
    go_ret
    exact ⟨A', c', rfl, HF.out⟩
end Go.Proofs.Ytlegpbookbghbaa
