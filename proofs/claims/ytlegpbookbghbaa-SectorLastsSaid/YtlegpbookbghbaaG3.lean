/- Disks: a sector's bytes, Image, texts of one byte: the walks; sizes are small. -/
import Derived.Test.YtlegpbookbghbaaG2
set_option linter.unusedVariables false
set_option linter.unusedSimpArgs false
namespace Go.Proofs.Ytlegpbookbghbaa
open Go.RowKit

section
variable {P : Program}
theorem run_appendH (w : World) (base : Nat) (t ty e : TypeId) (i : TypeInfo) (z : Value) (size bytes : Nat) (ht : P.underlying t = some (.slice e)) (hi : P.info? e = some i) (hz : i.zero = some z)
    (hsize : i.size = size) (hby : i.bytes = bytes) (hzs : z.cells.size = size) (hsz : 0 < size)
    (v : Value) (n : Nat) (xs : List Value) (hown : w.ownsRow base e size v n xs)
    (S : Option Addr) (m c : Nat) (ys : List Value) (hl : ys.length = m * size) (hys : Rd w S ys) (h1 : ∀ u ∈ ys, u.oneCell' = true)
    (h63 : n + m ≤ maxLen) (hbytes : (n + m) * bytes ≤ 140737488355328) (hbase : base ≤ w.heap.size) :
    ∃ v' w', (Builtin.append_ #[t, t] ty #[v, .slice S m c]).run P w = .ok v' w' ∧ w'.ownsRow base e size v' (n + m) (xs ++ ys) ∧ w.grownBy w' v.ownBlock := by
  cases S with
  | none =>
    have hye : ys = [] := by
      rcases hys with h | ⟨b, o, h, _⟩
      · exact h
      · cases h
    subst hye
    have hm : m = 0 := by
      rcases Nat.eq_zero_or_pos m with h | h
      · exact h
      · have := Nat.mul_pos h hsz
        simp only [List.length_nil] at hl
        omega
    subst hm
    subst hsize hby
    have hgr : w.grownBy w v.ownBlock := ⟨rfl, rfl, rfl, Nat.le_refl _, fun k _ _ => rfl⟩
    rcases hown.2 with ⟨rfl, rfl⟩ | ⟨g, cap, cur, rfl, _, _, hnc, _⟩
    · exact ⟨_, w, run_append_nothing w t ty e i ht hi _ _ _, by simpa using hown, hgr⟩
    · refine ⟨_, w, ?_, by simpa using hown, hgr⟩
      simp [Builtin.append_, run_underlying ht, sizeOf, typeInfo, hi, Builtin.lenOf, Builtin.firstCells, hnc, storeCells]
  | some s =>
    have hs : ∀ j u, ys[j]? = some u → w.cell? (s.add j) = some u := by
      by_cases hy : ys = []
      · subst hy
        intro j u hu
        simp at hu
      · obtain ⟨s', e', hs⟩ := hys.add hy
        cases e'
        exact hs
    obtain ⟨v', w', hr, ho, hg, _⟩ := run_append_own (P := P) w base t ty e i z size bytes ht hi hz hsize hby hzs hsz v n xs hown s m c ys hl hs h1 h63 hbytes hbase
    exact ⟨v', w', hr, ho, hg⟩
variable {ops : Array Oper} {rest : List Oper} {o : Oper} {a : Act} {Q : Exit → Act → World → Prop}
theorem wpList_appendH {W : World} (base : Nat) (t e : TypeId) (i : TypeInfo) (z : Value) (size bytes : Nat) (ht : P.underlying t = some (.slice e)) (hi : P.info? e = some i) (hz : i.zero = some z)
    (hsize : i.size = size) (hby : i.bytes = bytes) (hzs : z.cells.size = size) (hsz : 0 < size)
    (n m : Nat) {c : Nat} {v : Value} {S : Option Addr} (xs ys : List Value) (hgd : o.guard = none) (s x : Operand)
    (ho : o.op = .call { callee := .builtin .append, args := #[s, x], argTypes := #[t, t] }) (hs : a.eval s = v) (hx : a.eval x = .slice S m c)
    (hown : W.ownsRow base e size v n xs) (hl : ys.length = m * size) (hys : Rd W S ys) (h1 : ∀ u ∈ ys, u.oneCell' = true) (h63 : n + m ≤ maxLen) (hbytes : (n + m) * bytes ≤ 140737488355328) (hbase : base ≤ W.heap.size)
    (h : ∀ A' c' w', w'.ownsRow base e size (.slice A' (n + m) c') (n + m) (xs ++ ys) → W.grownBy w' v.ownBlock → wpList P ops Q rest (a.put o.dst (.slice A' (n + m) c')) w') :
    wpList P ops Q (o :: rest) a W := by
  obtain ⟨v', w', hr, ho', hg⟩ := run_appendH (P := P) W base t o.type e i z size bytes ht hi hz hsize hby hzs hsz v n xs hown S m c ys hl hys h1 h63 hbytes hbase
  have hv : ∃ A' c', v' = .slice A' (n + m) c' := by
    rcases ho'.2 with ⟨rfl, h0⟩ | ⟨g, cap, cur, rfl, _⟩
    · exact ⟨none, 0, by rw [h0]⟩
    · exact ⟨_, _, rfl⟩
  obtain ⟨A', c', rfl⟩ := hv
  exact wpList_append_run hgd s x t ho hs hx hr (h A' c' w' ho' hg)
end
theorem convB (w : World) (b o n c : Nat) (l : List UInt8) (hn : n = l.length) (hc : ∀ j u, (bcells l)[j]? = some u → w.cell? ⟨b, o + j, none⟩ = some u) :
    (convert 109 9 (.slice (some ⟨b, o, none⟩) n c)).run Try.prog w = .ok (.string (bstr l)) w := by
  have h := Lib.run_convert_whole (P := Try.prog) w 109 5 9 Try.underlying109 Try.underlying5 Try.underlying9 b o (bstr l) (fun i hi => by
    have hi' : i < l.length := by rw [bstr_size] at hi; exact hi
    rw [hc i (.int .u8 (l[i].toNat : Int)) (by simp [bcells, hi'])]
    simp [bstr, ByteArray.getElem_eq_getElem_data]) c
  rw [bstr_size] at h
  rw [hn]
  exact h
theorem convB0 (w : World) (A : Option Addr) (c : Nat) : (convert 109 9 (.slice A 0 c)).run Try.prog w = .ok (.string (bstr [])) w := by
  have h : (convert 109 9 (.slice A 0 c)).run Try.prog w = .ok (.string ByteArray.empty) w := by
    rw [run_convert_bytes_string w 109 9 5 A 0 c Try.underlying109 Try.underlying5 Try.underlying9]
    cases A <;> simp [Conv.bytesToString, loadCells, loadCellsFrom]
  exact h
set_option maxRecDepth 100000 in set_option maxHeartbeats 2000000 in
theorem sector75 (D : DiskS) (kd kl km : Nat) (pA wA : Option Addr) (pc wc : Nat) (at_ : Nat) (w : World) (c0 : ∀ j, w.cell? ⟨kd, j, none⟩ = (#[.int .i64 D.many, .int .i64 D.size, .slice (some ⟨kl, 0, none⟩) (D.many * D.size) (D.many * D.size), .slice pA D.pend.length pc, .slice wA D.pend.length wc, .map (some km), .bool D.down, .bool D.breaks, .int .i64 D.left] : Array Value)[j]?) (ha : at_ < D.many) (hm : D.many ≤ 4096) (hs : D.size ≤ 1024) (hs0 : 0 < D.size) :
    Calls Try.prog 75 #[.pointer (some ⟨kd, 0, none⟩), .int .i64 at_] w fun e w' => e = .returned (.slice (some ⟨kl, at_ * D.size, none⟩) D.size (D.many * D.size - at_ * D.size)) ∧ Below w.heap.size w w' := by
  have hu113 := Try.underlying113
  have hu109 := Try.underlying109
  have h1 : (at_ + 1) * D.size = at_ * D.size + D.size := by rw [Nat.add_mul, Nat.one_mul]
  have h2 : (at_ + 1) * D.size ≤ D.many * D.size := Nat.mul_le_mul_right _ ha
  have h3 : D.many * D.size ≤ 4096 * 1024 := Nat.mul_le_mul hm hs
  generalize hN : D.many * D.size = N at *
  generalize hx : at_ * D.size = x at *
  have e1 : (at_ : Int) * (D.size : Int) = (x : Int) := by rw [← hx]; simp
  have e2 : ((at_ : Int) + 1) * (D.size : Int) = (x : Int) + (D.size : Int) := by rw [Int.add_mul, e1, Int.one_mul]
  have h4 : x + D.size ≤ N := by omega
  clear h1 h2 hN hx
  go_enter Try.func75, Try.ntmps75
  go_wp2_with fail
  go_region
  go_wp2
  go_ret
  refine ⟨?_, belowDrew _⟩
  show Ending.returned (.slice (some ⟨kl, x, none⟩) (x + D.size - x) (N - x)) = _
  rw [Nat.add_sub_cancel_left]
set_option maxRecDepth 100000 in set_option maxHeartbeats 2000000 in
theorem image39 (D : DiskS) (kd kl km : Nat) (pA wA : Option Addr) (pc wc : Nat) (w : World) (c0 : ∀ j, w.cell? ⟨kd, j, none⟩ = (#[.int .i64 D.many, .int .i64 D.size, .slice (some ⟨kl, 0, none⟩) (D.many * D.size) (D.many * D.size), .slice pA D.pend.length pc, .slice wA D.pend.length wc, .map (some km), .bool D.down, .bool D.breaks, .int .i64 D.left] : Array Value)[j]?) (hl : Blk w kl (bcells D.last).toArray 5) (hn : D.last.length = D.many * D.size) :
    Calls Try.prog 39 #[.pointer (some ⟨kd, 0, none⟩)] w fun e w' => e = .returned (.string (bstr D.last)) ∧ w' = w := by
  have hu113 := Try.underlying113
  have hc := convB w kl 0 (D.many * D.size) (D.many * D.size) D.last hn.symm (fun j u hu => by rw [Nat.zero_add, hl.cell j]; simpa using hu)
  clear hl hn
  go_enter Try.func39, Try.ntmps39
  go_wp2
  go_ret
  exact ⟨rfl, rfl⟩
theorem ownsBelowH {w w1 : World} {base : Nat} {e : TypeId} {size n : Nat} {v : Value} {xs : List Value} (h : w.ownsRow base e size v n xs) (hb : Below w.heap.size w w1) : w1.ownsRow base e size v n xs :=
  h.kept (row := none) ⟨hb.os, hb.tape, hb.output, hb.size, fun i hi _ => hb.block i hi⟩ (by cases v.ownBlock <;> simp)
theorem ownsAllocH {w : World} {base : Nat} {e : TypeId} {size n : Nat} {v : Value} {xs : List Value} (h : w.ownsRow base e size v n xs) (o : Obj) : (w.alloc o).ownsRow base e size v n xs := ownsBelowH h (belowAlloc w o)
theorem belowGrownH {B : Nat} {w w1 w2 : World} {base : Nat} {e : TypeId} {size n : Nat} {v : Value} {xs : List Value} (h : Below B w w1) (hg : w1.grownBy w2 v.ownBlock) (ho : w1.ownsRow base e size v n xs) (hB : B ≤ w1.heap.size) (hb : B ≤ base) : Below B w w2 := by
  refine h.grown hg hB fun k hk => ?_
  rcases ho.2 with ⟨rfl, h0⟩ | ⟨g, cap, cur, rfl, hbg, _⟩
  · cases hk
  · simp only [Value.ownBlock, Option.some.injEq] at hk
    omega
/-- The cells of an own row. -/
theorem ownsCells {w : World} {base : Nat} {e : TypeId} {n c : Nat} {A : Option Addr} {xs : List Value} (h : w.ownsRow base e 1 (.slice A n c) n xs) (hn : 0 < n) : ∃ g, A = some ⟨g, 0, none⟩ ∧ base ≤ g ∧ ∀ j u, xs[j]? = some u → w.cell? ⟨g, 0 + j, none⟩ = some u := by
  rcases h.2 with ⟨_, h0⟩ | ⟨g, cap, cur, hv, hb, hh, _, _, _, ht⟩
  · omega
  · simp only [Value.slice.injEq] at hv
    obtain ⟨rfl, -, rfl⟩ := hv
    refine ⟨g, rfl, hb, fun j u hu => ?_⟩
    have hj : j < xs.length := (List.getElem?_eq_some_iff.1 hu).1
    rw [← ht, List.getElem?_take] at hu
    have hj2 : j < n * 1 := by have := h.1; omega
    rw [if_pos hj2, Array.getElem?_toList] at hu
    rw [Nat.zero_add, cell_of_row w g j cur e (0, 0) hh]
    exact hu
set_option maxRecDepth 100000 in set_option maxHeartbeats 2000000 in
theorem full43 (c : Int) (x : UInt8) (hx : c = (x.toNat : Int)) (n : Nat) (hn : n ≤ 1000000) (w : World) :
    Calls Try.prog 43 #[.int .u8 c, .int .i64 n] w fun e w' => e = .returned (.string (bstr (List.replicate n x))) ∧ Below w.heap.size w w' := by
  subst hx
  have hu109 := Try.underlying109
  obtain ⟨i0, hi, hzz⟩ := Option.map_eq_some_iff.1 info5
  simp only [Prod.mk.injEq] at hzz
  obtain ⟨hz, hsz, hby⟩ := hzz
  go_enter Try.func43, Try.ntmps43
  go_wp2
  go_loopw [5, 6] (fun v i wr => ∃ (k : Nat) (A : Option Addr) (cap : Nat), k ≤ n ∧ v = .slice A k cap ∧ i = .int .i64 k ∧ wr.ownsRow w.heap.size 5 1 (.slice A k cap) k (bcells (List.replicate k x)) ∧ Below w.heap.size w wr) (fun _ i _ => n - (intOf i).toNat)
  case atStart => exact ⟨0, none, 0, by omega, rfl, rfl, World.ownsRow_nil _ _ _ _, Below.refl _ _⟩
  case round =>
    obtain ⟨k, A, cap, hk, rfl, rfl, ho, hbel⟩ := hrel
    have HB := Lib.hid hbel
    have HO := Lib.hid ho
    have hsz1 := hbel.size
    clear ho hbel
    by_cases hlt : k < n
    · have hlt' : (k : Int) < (n : Int) := by omega
      go_wp2_with (first | (at_builtin; refine wpList_appendH (v := .slice A k cap) w.heap.size 109 5 i0 _ 1 1 Try.underlying109 hi hz hsz hby rfl (by decide) k 1 (bcells (List.replicate k x)) (bcells [x]) (by rfl) (.tmp 12) (.tmp 14) (by rfl) (by rfl) (by rfl) (ownsAllocH HO.out _) (by rfl) (by refine Rd.newAt _ _ _ _ ?_; (first | rfl | (simp <;> omega))) (bcells_one _) (by simp only [maxLen]; omega) (by omega) (by simp; omega) ?_; intro A1 c1 w1 ho1 hg1; (replace HB : Hid (Below w.heap.size w w1) := belowGrownH (by repeat (first | (with_reducible exact HB.out) | (with_reducible apply bAl) | (with_reducible apply bDr) | (with_reducible apply bDrN) | ((with_reducible refine bSt ?_ ?_ _); (first | (with_reducible assumption) | omega | (simp <;> omega))))) hg1 (ownsAllocH HO.out _) (by simp; omega) (by omega)); (replace HO := Lib.hid ho1); clear ho1 hg1))
      refine ⟨⟨k + 1, A1, c1, by omega, rfl, by go_num, ?_, HB.out⟩, by simp [intOf]; omega⟩
      have e : bcells (List.replicate (k + 1) x) = bcells (List.replicate k x) ++ bcells [x] := by rw [List.replicate_succ', bcells, List.map_append]; rfl
      rw [e]
      exact HO.out
    · obtain rfl : k = n := by omega
      have hconv : (convert 109 9 (.slice A k cap)).run Try.prog wr = .ok (.string (bstr (List.replicate k x))) wr := by
        by_cases h0 : k = 0
        · subst h0
          exact convB0 wr A cap
        · obtain ⟨g, rfl, _, hc⟩ := ownsCells HO.out (by omega)
          exact convB wr g 0 k cap _ (by simp) hc
      go_wp2
      go_ret
      exact ⟨rfl, HB.out⟩
end Go.Proofs.Ytlegpbookbghbaa
