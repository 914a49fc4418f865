/- A copy of a row of entries with more behind it (ring.grown), new rings, heads: the walks; lengths at most 100000. -/
import Derived.Test.YtlegpbookbghbaaA3
namespace Go.Proofs.Ytlegpbookbghbaa
open Go.RowKit

theorem info27 : (Try.prog.info? 27).map (fun i => (i.zero, i.size, i.bytes)) = some (some (.agg #[(.int .u64 0), (.int .u64 0), (.int .i64 0), (.int .i64 0), (.int .i64 0), (.int .i64 0), (.int .i64 0)]), 7, 56) := by kernel_rfl
theorem elem22 : Try.prog.elem 22 = 27 := by kernel_rfl
/-- append of entries onto an own row, or onto an empty one. -/
theorem append22 (w : World) (base : Nat) (v : Value) (l : List Ent) (hown : Own0 w base 27 7 v l.length (entCells l))
    (S : Option Addr) (c : Nat) (m : List Ent) (hm : Rd w S (entCells m)) (hlen : l.length + m.length ≤ 100000) (hbase : base ≤ w.heap.size) :
    ∃ v' w', (Builtin.append_ #[22, 22] 22 #[v, .slice S m.length c]).run Try.prog w = .ok v' w' ∧ Own0 w' base 27 7 v' (l ++ m).length (entCells (l ++ m)) ∧ Below base w w' := by
  obtain ⟨i0, hi, hzz⟩ := Option.map_eq_some_iff.1 info27
  simp only [Prod.mk.injEq] at hzz
  obtain ⟨hz, hs, hb⟩ := hzz
  obtain ⟨v', w', h1, h2, h3⟩ := run_append0 (P := Try.prog) w base 22 22 27 i0 _ 7 56 Try.underlying22 hi hz hs hb rfl (by decide) v l.length (entCells l) hown S m.length c (entCells m) (entCells_length m) hm (entCells_one m)
    (by simp only [maxLen]; omega) (by omega) hbase
  exact ⟨v', w', h1, by rw [List.length_append, entCells_append]; exact h2, h3⟩
theorem wpList_append22 {ops : Array Oper} {rest : List Oper} {o : Oper} {a : Act} {Q : Exit → Act → World → Prop} {W : World} (base : Nat) (l m : List Ent) (n k n' : Nat) {v : Value} {S : Option Addr} {c : Nat} (hgd : o.guard = none) (s x : Operand)
    (ho : o.op = .call { callee := .builtin .append, args := #[s, x], argTypes := #[22, 22] }) (hty : o.type = 22) (hs : a.eval s = v) (hx : a.eval x = .slice S k c)
    (hn : n = l.length) (hk : k = m.length) (hn' : n' = l.length + m.length)
    (hown : Own0 W base 27 7 v n (entCells l)) (hm : Rd W S (entCells m)) (hlen : l.length + m.length ≤ 100000) (hbase : base ≤ W.heap.size)
    (h : ∀ A' c' w', Own0 w' base 27 7 (.slice A' n' c') n' (entCells (l ++ m)) → n' ≤ c' → Below base W w' → wpList Try.prog ops Q rest (a.put o.dst (.slice A' n' c')) w') :
    wpList Try.prog ops Q (o :: rest) a W := by
  subst hn hk hn'
  obtain ⟨v', w', hr, ho', hb⟩ := append22 W base v l hown S c m hm hlen hbase
  rw [List.length_append] at ho'
  obtain ⟨A', c', rfl, hc, _⟩ := Rd.ofOwn0 ho'
  exact wpList_append_run hgd s x 22 ho hs hx (by rw [hty]; exact hr) (h A' c' w' ho' hc hb)
theorem cut00 (w : World) (A : Option Addr) (n c : Nat) : (Instr.slice 22 (.slice A n c) none (some (.int .i64 0)) (some (.int .i64 0))).run Try.prog w = .ok (.slice A 0 0) w := by
  cases A <;> simp [go_sem, Try.underlying22]
theorem own0Start (w : World) (base : Nat) (A : Option Addr) : Own0 w base 27 7 (.slice A 0 0) ([] : List Ent).length (entCells []) := by
  cases A with
  | none => exact .inl (World.ownsRow_nil w base 27 7)
  | some a => exact .inr ⟨rfl, rfl, a, rfl⟩
set_option maxRecDepth 100000 in
theorem grown56 (A : Option Addr) (c : Nat) (l : List Ent) (S : Option Addr) (k : Nat) (m : List Ent) (w : World) (hA : Rd w A (entCells l)) (hS : Rd w S (entCells m)) (hl : l.length + m.length ≤ 100000) :
    Calls Try.prog 56 #[.slice A l.length c, .slice S m.length k] w fun e w' =>
      ∃ A' c', e = .returned (.slice A' (l.length + m.length) c') ∧ l.length + m.length ≤ c' ∧ RdN w' w.heap.size A' (entCells (l ++ m)) ∧ Below w.heap.size w w' := by
  obtain ⟨v1, w1, r1, o1, b1⟩ := append22 w w.heap.size (.slice A 0 0) [] (own0Start w w.heap.size A) A c l hA (by simp only [List.length_nil]; omega) (Nat.le_refl _)
  simp only [List.nil_append] at o1
  obtain ⟨v2, w2, r2, o2, b2⟩ := append22 w1 w.heap.size v1 l o1 S k m (hS.below b1) hl b1.size
  obtain ⟨A', c', rfl, hc', hR⟩ := RdN.ofOwn0 o2
  have cut := cut00 w A l.length c
  rw [List.length_append] at hc' r2
  have HF : Hid (l.length + m.length ≤ c' ∧ RdN w2 w.heap.size A' (entCells (l ++ m)) ∧ Below w.heap.size w w2) := ⟨hc', hR, b1.trans b2⟩
  have R1 := Lib.hid r1
  have R2 := Lib.hid r2
  clear hc' hR o2 b2 o1 b1 hA hS hl r1 r2
  go_enter Try.func56, Try.ntmps56
  go_wp2_with (first | (at_builtin; refine wpList_append_run (v := .slice A 0 0) (u := .slice A l.length c) (by rfl) (.tmp 7) (.tmp 8) 22 (by rfl) (by rfl) (by rfl) R1.out ?_) | (at_builtin; refine wpList_append_run (v := v1) (u := .slice S m.length k) (by rfl) (.tmp 10) (.tmp 11) 22 (by rfl) (by rfl) (by rfl) R2.out ?_))
  go_ret
  exact ⟨A', c', rfl, HF.out⟩
end Go.Proofs.Ytlegpbookbghbaa
