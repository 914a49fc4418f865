/- What the reference says is wrong with a partition, and with a channel: the walks; the partitions' numbers are int64's. -/
import Derived.Test.YtlegpbookbghbaaE7
set_option linter.unusedVariables false
set_option linter.unusedSimpArgs false
namespace Go.Proofs.Ytlegpbookbghbaa
open Go.RowKit

set_option maxRecDepth 100000 in set_option maxHeartbeats 4000000 in
theorem refChan68 (p : PlanS) (A B C : Option Addr) (a b c : Nat) (x : ChanS) (w : World) :
    Calls Try.prog 68 #[.agg #[.int .i64 p.mem, .slice A p.parts.length a, .slice B p.wins.length b, .slice C p.chans.length c], .agg #[.int .i64 x.kind, .int .i64 x.from_, .int .i64 x.to_, .int .i64 x.size, .int .i64 x.depth]] w fun e w' => e = .returned (.int .i64 (chanErr p.parts.length x)) ∧ Below w.heap.size w w' := by
  have hu50 := Try.underlying50
  have hu63 := Try.underlying63
  have HB : Hid (Below w.heap.size w w) := Below.refl _ _
  have hkc : (x.kind = 1) ∨ (x.kind = 2) ∨ (¬ x.kind = 1 ∧ ¬ x.kind = 2) := by omega
  have hkb : (x.kind != 1) = !decide (x.kind = 1) := by simp [bne, BEq.beq]
  have hkb2 : (x.kind != 2) = !decide (x.kind = 2) := by simp [bne, BEq.beq]
  rcases hkc with hk | hk | hk
  · have hk1 : (x.kind != 1) = false := by simp [hk]
    have hk3 : (x.kind == 1) = true := by simp [hk]
    clear hkb hkb2
    by_cases c1 : x.from_ < 0
    · have hE : chanErr p.parts.length x = 1 := by
        unfold chanErr
        rw [if_neg (by simp only [chanB0, withinB, Bool.not_eq_true', Bool.and_eq_false_iff, decide_eq_false_iff_not]; omega), if_pos (by simp only [chanB1, withinB, Bool.or_eq_true, Bool.not_eq_true', Bool.and_eq_false_iff, decide_eq_false_iff_not, decide_eq_true_eq]; omega)]
      rw [hE]
      clear hE
      go_enter Try.func68, Try.ntmps68
      go_wp2
      go_ret
      exact ⟨rfl, by repeat (first | (with_reducible exact HB.out) | (with_reducible apply bAl) | (with_reducible apply bDr) | (with_reducible apply bDrN) | ((with_reducible refine bSt ?_ ?_ _); (first | (with_reducible assumption) | omega | (simp <;> omega))))⟩
    · skip
      by_cases c2 : (p.parts.length : Int) ≤ x.from_
      · have hE : chanErr p.parts.length x = 1 := by
          unfold chanErr
          rw [if_neg (by simp only [chanB0, withinB, Bool.not_eq_true', Bool.and_eq_false_iff, decide_eq_false_iff_not]; omega), if_pos (by simp only [chanB1, withinB, Bool.or_eq_true, Bool.not_eq_true', Bool.and_eq_false_iff, decide_eq_false_iff_not, decide_eq_true_eq]; omega)]
        rw [hE]
        clear hE
        go_enter Try.func68, Try.ntmps68
        go_wp2
        go_ret
        exact ⟨rfl, by repeat (first | (with_reducible exact HB.out) | (with_reducible apply bAl) | (with_reducible apply bDr) | (with_reducible apply bDrN) | ((with_reducible refine bSt ?_ ?_ _); (first | (with_reducible assumption) | omega | (simp <;> omega))))⟩
      · skip
        by_cases c3 : x.to_ < 0
        · have hE : chanErr p.parts.length x = 1 := by
            unfold chanErr
            rw [if_neg (by simp only [chanB0, withinB, Bool.not_eq_true', Bool.and_eq_false_iff, decide_eq_false_iff_not]; omega), if_pos (by simp only [chanB1, withinB, Bool.or_eq_true, Bool.not_eq_true', Bool.and_eq_false_iff, decide_eq_false_iff_not, decide_eq_true_eq]; omega)]
          rw [hE]
          clear hE
          go_enter Try.func68, Try.ntmps68
          go_wp2
          go_ret
          exact ⟨rfl, by repeat (first | (with_reducible exact HB.out) | (with_reducible apply bAl) | (with_reducible apply bDr) | (with_reducible apply bDrN) | ((with_reducible refine bSt ?_ ?_ _); (first | (with_reducible assumption) | omega | (simp <;> omega))))⟩
        · skip
          by_cases c4 : (p.parts.length : Int) ≤ x.to_
          · have hE : chanErr p.parts.length x = 1 := by
              unfold chanErr
              rw [if_neg (by simp only [chanB0, withinB, Bool.not_eq_true', Bool.and_eq_false_iff, decide_eq_false_iff_not]; omega), if_pos (by simp only [chanB1, withinB, Bool.or_eq_true, Bool.not_eq_true', Bool.and_eq_false_iff, decide_eq_false_iff_not, decide_eq_true_eq]; omega)]
            rw [hE]
            clear hE
            go_enter Try.func68, Try.ntmps68
            go_wp2
            go_ret
            exact ⟨rfl, by repeat (first | (with_reducible exact HB.out) | (with_reducible apply bAl) | (with_reducible apply bDr) | (with_reducible apply bDrN) | ((with_reducible refine bSt ?_ ?_ _); (first | (with_reducible assumption) | omega | (simp <;> omega))))⟩
          · skip
            by_cases c5 : x.from_ = x.to_
            · have e5 : (x.from_ == x.to_) = true := by simp [c5]
              have hE : chanErr p.parts.length x = 1 := by
                unfold chanErr
                rw [if_neg (by simp only [chanB0, withinB, Bool.not_eq_true', Bool.and_eq_false_iff, decide_eq_false_iff_not]; omega), if_pos (by simp only [chanB1, withinB, Bool.or_eq_true, Bool.not_eq_true', Bool.and_eq_false_iff, decide_eq_false_iff_not, decide_eq_true_eq]; omega)]
              rw [hE]
              clear hE
              go_enter Try.func68, Try.ntmps68
              go_wp2
              go_ret
              exact ⟨rfl, by repeat (first | (with_reducible exact HB.out) | (with_reducible apply bAl) | (with_reducible apply bDr) | (with_reducible apply bDrN) | ((with_reducible refine bSt ?_ ?_ _); (first | (with_reducible assumption) | omega | (simp <;> omega))))⟩
            · have e5 : (x.from_ == x.to_) = false := by simp [c5]
              by_cases d1 : x.size < 1
              · have hE : chanErr p.parts.length x = 2 := by
                  unfold chanErr
                  rw [if_neg (by simp only [chanB0, withinB, Bool.not_eq_true', Bool.and_eq_false_iff, decide_eq_false_iff_not]; omega), if_neg (by simp only [chanB1, withinB, Bool.or_eq_true, Bool.not_eq_true', Bool.and_eq_false_iff, decide_eq_false_iff_not, decide_eq_true_eq]; omega), if_pos (by simp only [chanB2, withinB, Bool.or_eq_true, Bool.and_eq_true, Bool.not_eq_true', Bool.and_eq_false_iff, decide_eq_false_iff_not, decide_eq_true_eq]; omega)]
                rw [hE]
                clear hE
                go_enter Try.func68, Try.ntmps68
                go_wp2
                go_ret
                exact ⟨rfl, by repeat (first | (with_reducible exact HB.out) | (with_reducible apply bAl) | (with_reducible apply bDr) | (with_reducible apply bDrN) | ((with_reducible refine bSt ?_ ?_ _); (first | (with_reducible assumption) | omega | (simp <;> omega))))⟩
              · skip
                by_cases d2 : 8 < x.size
                · have hE : chanErr p.parts.length x = 2 := by
                    unfold chanErr
                    rw [if_neg (by simp only [chanB0, withinB, Bool.not_eq_true', Bool.and_eq_false_iff, decide_eq_false_iff_not]; omega), if_neg (by simp only [chanB1, withinB, Bool.or_eq_true, Bool.not_eq_true', Bool.and_eq_false_iff, decide_eq_false_iff_not, decide_eq_true_eq]; omega), if_pos (by simp only [chanB2, withinB, Bool.or_eq_true, Bool.and_eq_true, Bool.not_eq_true', Bool.and_eq_false_iff, decide_eq_false_iff_not, decide_eq_true_eq]; omega)]
                  rw [hE]
                  clear hE
                  go_enter Try.func68, Try.ntmps68
                  go_wp2
                  go_ret
                  exact ⟨rfl, by repeat (first | (with_reducible exact HB.out) | (with_reducible apply bAl) | (with_reducible apply bDr) | (with_reducible apply bDrN) | ((with_reducible refine bSt ?_ ?_ _); (first | (with_reducible assumption) | omega | (simp <;> omega))))⟩
                · skip
                  by_cases d3 : x.depth < 1
                  · have hE : chanErr p.parts.length x = 2 := by
                      unfold chanErr
                      rw [if_neg (by simp only [chanB0, withinB, Bool.not_eq_true', Bool.and_eq_false_iff, decide_eq_false_iff_not]; omega), if_neg (by simp only [chanB1, withinB, Bool.or_eq_true, Bool.not_eq_true', Bool.and_eq_false_iff, decide_eq_false_iff_not, decide_eq_true_eq]; omega), if_pos (by simp only [chanB2, withinB, Bool.or_eq_true, Bool.and_eq_true, Bool.not_eq_true', Bool.and_eq_false_iff, decide_eq_false_iff_not, decide_eq_true_eq]; omega)]
                    rw [hE]
                    clear hE
                    go_enter Try.func68, Try.ntmps68
                    go_wp2
                    go_ret
                    exact ⟨rfl, by repeat (first | (with_reducible exact HB.out) | (with_reducible apply bAl) | (with_reducible apply bDr) | (with_reducible apply bDrN) | ((with_reducible refine bSt ?_ ?_ _); (first | (with_reducible assumption) | omega | (simp <;> omega))))⟩
                  · skip
                    by_cases d4 : 16 < x.depth
                    · have hE : chanErr p.parts.length x = 2 := by
                        unfold chanErr
                        rw [if_neg (by simp only [chanB0, withinB, Bool.not_eq_true', Bool.and_eq_false_iff, decide_eq_false_iff_not]; omega), if_neg (by simp only [chanB1, withinB, Bool.or_eq_true, Bool.not_eq_true', Bool.and_eq_false_iff, decide_eq_false_iff_not, decide_eq_true_eq]; omega), if_pos (by simp only [chanB2, withinB, Bool.or_eq_true, Bool.and_eq_true, Bool.not_eq_true', Bool.and_eq_false_iff, decide_eq_false_iff_not, decide_eq_true_eq]; omega)]
                      rw [hE]
                      clear hE
                      go_enter Try.func68, Try.ntmps68
                      go_wp2
                      go_ret
                      exact ⟨rfl, by repeat (first | (with_reducible exact HB.out) | (with_reducible apply bAl) | (with_reducible apply bDr) | (with_reducible apply bDrN) | ((with_reducible refine bSt ?_ ?_ _); (first | (with_reducible assumption) | omega | (simp <;> omega))))⟩
                    · skip
                      by_cases d5 : ¬ x.depth = 1
                      · have e6 : (x.depth != 1) = true := by simp [d5]
                        have hE : chanErr p.parts.length x = 2 := by
                          unfold chanErr
                          rw [if_neg (by simp only [chanB0, withinB, Bool.not_eq_true', Bool.and_eq_false_iff, decide_eq_false_iff_not]; omega), if_neg (by simp only [chanB1, withinB, Bool.or_eq_true, Bool.not_eq_true', Bool.and_eq_false_iff, decide_eq_false_iff_not, decide_eq_true_eq]; omega), if_pos (by simp only [chanB2, withinB, Bool.or_eq_true, Bool.and_eq_true, Bool.not_eq_true', Bool.and_eq_false_iff, decide_eq_false_iff_not, decide_eq_true_eq]; omega)]
                        rw [hE]
                        clear hE
                        go_enter Try.func68, Try.ntmps68
                        go_wp2
                        go_ret
                        exact ⟨rfl, by repeat (first | (with_reducible exact HB.out) | (with_reducible apply bAl) | (with_reducible apply bDr) | (with_reducible apply bDrN) | ((with_reducible refine bSt ?_ ?_ _); (first | (with_reducible assumption) | omega | (simp <;> omega))))⟩
                      · have e6 : (x.depth != 1) = false := by simp; omega
                        have hE : chanErr p.parts.length x = 0 := by
                          unfold chanErr
                          rw [if_neg (by simp only [chanB0, withinB, Bool.not_eq_true', Bool.and_eq_false_iff, decide_eq_false_iff_not]; omega), if_neg (by simp only [chanB1, withinB, Bool.or_eq_true, Bool.not_eq_true', Bool.and_eq_false_iff, decide_eq_false_iff_not, decide_eq_true_eq]; omega), if_neg (by simp only [chanB2, withinB, Bool.or_eq_true, Bool.and_eq_true, Bool.not_eq_true', Bool.and_eq_false_iff, decide_eq_false_iff_not, decide_eq_true_eq]; omega)]
                        rw [hE]
                        clear hE
                        go_enter Try.func68, Try.ntmps68
                        go_wp2
                        go_ret
                        exact ⟨rfl, by repeat (first | (with_reducible exact HB.out) | (with_reducible apply bAl) | (with_reducible apply bDr) | (with_reducible apply bDrN) | ((with_reducible refine bSt ?_ ?_ _); (first | (with_reducible assumption) | omega | (simp <;> omega))))⟩
  · have hk1 : (x.kind != 1) = true := by simp [hk]
    have hk2 : (x.kind != 2) = false := by simp [hk]
    have hk3 : (x.kind == 1) = false := by simp [hk]
    clear hkb hkb2
    by_cases c1 : x.from_ < 0
    · have hE : chanErr p.parts.length x = 1 := by
        unfold chanErr
        rw [if_neg (by simp only [chanB0, withinB, Bool.not_eq_true', Bool.and_eq_false_iff, decide_eq_false_iff_not]; omega), if_pos (by simp only [chanB1, withinB, Bool.or_eq_true, Bool.not_eq_true', Bool.and_eq_false_iff, decide_eq_false_iff_not, decide_eq_true_eq]; omega)]
      rw [hE]
      clear hE
      go_enter Try.func68, Try.ntmps68
      go_wp2
      go_ret
      exact ⟨rfl, by repeat (first | (with_reducible exact HB.out) | (with_reducible apply bAl) | (with_reducible apply bDr) | (with_reducible apply bDrN) | ((with_reducible refine bSt ?_ ?_ _); (first | (with_reducible assumption) | omega | (simp <;> omega))))⟩
    · skip
      by_cases c2 : (p.parts.length : Int) ≤ x.from_
      · have hE : chanErr p.parts.length x = 1 := by
          unfold chanErr
          rw [if_neg (by simp only [chanB0, withinB, Bool.not_eq_true', Bool.and_eq_false_iff, decide_eq_false_iff_not]; omega), if_pos (by simp only [chanB1, withinB, Bool.or_eq_true, Bool.not_eq_true', Bool.and_eq_false_iff, decide_eq_false_iff_not, decide_eq_true_eq]; omega)]
        rw [hE]
        clear hE
        go_enter Try.func68, Try.ntmps68
        go_wp2
        go_ret
        exact ⟨rfl, by repeat (first | (with_reducible exact HB.out) | (with_reducible apply bAl) | (with_reducible apply bDr) | (with_reducible apply bDrN) | ((with_reducible refine bSt ?_ ?_ _); (first | (with_reducible assumption) | omega | (simp <;> omega))))⟩
      · skip
        by_cases c3 : x.to_ < 0
        · have hE : chanErr p.parts.length x = 1 := by
            unfold chanErr
            rw [if_neg (by simp only [chanB0, withinB, Bool.not_eq_true', Bool.and_eq_false_iff, decide_eq_false_iff_not]; omega), if_pos (by simp only [chanB1, withinB, Bool.or_eq_true, Bool.not_eq_true', Bool.and_eq_false_iff, decide_eq_false_iff_not, decide_eq_true_eq]; omega)]
          rw [hE]
          clear hE
          go_enter Try.func68, Try.ntmps68
          go_wp2
          go_ret
          exact ⟨rfl, by repeat (first | (with_reducible exact HB.out) | (with_reducible apply bAl) | (with_reducible apply bDr) | (with_reducible apply bDrN) | ((with_reducible refine bSt ?_ ?_ _); (first | (with_reducible assumption) | omega | (simp <;> omega))))⟩
        · skip
          by_cases c4 : (p.parts.length : Int) ≤ x.to_
          · have hE : chanErr p.parts.length x = 1 := by
              unfold chanErr
              rw [if_neg (by simp only [chanB0, withinB, Bool.not_eq_true', Bool.and_eq_false_iff, decide_eq_false_iff_not]; omega), if_pos (by simp only [chanB1, withinB, Bool.or_eq_true, Bool.not_eq_true', Bool.and_eq_false_iff, decide_eq_false_iff_not, decide_eq_true_eq]; omega)]
            rw [hE]
            clear hE
            go_enter Try.func68, Try.ntmps68
            go_wp2
            go_ret
            exact ⟨rfl, by repeat (first | (with_reducible exact HB.out) | (with_reducible apply bAl) | (with_reducible apply bDr) | (with_reducible apply bDrN) | ((with_reducible refine bSt ?_ ?_ _); (first | (with_reducible assumption) | omega | (simp <;> omega))))⟩
          · skip
            by_cases c5 : x.from_ = x.to_
            · have e5 : (x.from_ == x.to_) = true := by simp [c5]
              have hE : chanErr p.parts.length x = 1 := by
                unfold chanErr
                rw [if_neg (by simp only [chanB0, withinB, Bool.not_eq_true', Bool.and_eq_false_iff, decide_eq_false_iff_not]; omega), if_pos (by simp only [chanB1, withinB, Bool.or_eq_true, Bool.not_eq_true', Bool.and_eq_false_iff, decide_eq_false_iff_not, decide_eq_true_eq]; omega)]
              rw [hE]
              clear hE
              go_enter Try.func68, Try.ntmps68
              go_wp2
              go_ret
              exact ⟨rfl, by repeat (first | (with_reducible exact HB.out) | (with_reducible apply bAl) | (with_reducible apply bDr) | (with_reducible apply bDrN) | ((with_reducible refine bSt ?_ ?_ _); (first | (with_reducible assumption) | omega | (simp <;> omega))))⟩
            · have e5 : (x.from_ == x.to_) = false := by simp [c5]
              by_cases d1 : x.size < 1
              · have hE : chanErr p.parts.length x = 2 := by
                  unfold chanErr
                  rw [if_neg (by simp only [chanB0, withinB, Bool.not_eq_true', Bool.and_eq_false_iff, decide_eq_false_iff_not]; omega), if_neg (by simp only [chanB1, withinB, Bool.or_eq_true, Bool.not_eq_true', Bool.and_eq_false_iff, decide_eq_false_iff_not, decide_eq_true_eq]; omega), if_pos (by simp only [chanB2, withinB, Bool.or_eq_true, Bool.and_eq_true, Bool.not_eq_true', Bool.and_eq_false_iff, decide_eq_false_iff_not, decide_eq_true_eq]; omega)]
                rw [hE]
                clear hE
                go_enter Try.func68, Try.ntmps68
                go_wp2
                go_ret
                exact ⟨rfl, by repeat (first | (with_reducible exact HB.out) | (with_reducible apply bAl) | (with_reducible apply bDr) | (with_reducible apply bDrN) | ((with_reducible refine bSt ?_ ?_ _); (first | (with_reducible assumption) | omega | (simp <;> omega))))⟩
              · skip
                by_cases d2 : 8 < x.size
                · have hE : chanErr p.parts.length x = 2 := by
                    unfold chanErr
                    rw [if_neg (by simp only [chanB0, withinB, Bool.not_eq_true', Bool.and_eq_false_iff, decide_eq_false_iff_not]; omega), if_neg (by simp only [chanB1, withinB, Bool.or_eq_true, Bool.not_eq_true', Bool.and_eq_false_iff, decide_eq_false_iff_not, decide_eq_true_eq]; omega), if_pos (by simp only [chanB2, withinB, Bool.or_eq_true, Bool.and_eq_true, Bool.not_eq_true', Bool.and_eq_false_iff, decide_eq_false_iff_not, decide_eq_true_eq]; omega)]
                  rw [hE]
                  clear hE
                  go_enter Try.func68, Try.ntmps68
                  go_wp2
                  go_ret
                  exact ⟨rfl, by repeat (first | (with_reducible exact HB.out) | (with_reducible apply bAl) | (with_reducible apply bDr) | (with_reducible apply bDrN) | ((with_reducible refine bSt ?_ ?_ _); (first | (with_reducible assumption) | omega | (simp <;> omega))))⟩
                · skip
                  by_cases d3 : x.depth < 1
                  · have hE : chanErr p.parts.length x = 2 := by
                      unfold chanErr
                      rw [if_neg (by simp only [chanB0, withinB, Bool.not_eq_true', Bool.and_eq_false_iff, decide_eq_false_iff_not]; omega), if_neg (by simp only [chanB1, withinB, Bool.or_eq_true, Bool.not_eq_true', Bool.and_eq_false_iff, decide_eq_false_iff_not, decide_eq_true_eq]; omega), if_pos (by simp only [chanB2, withinB, Bool.or_eq_true, Bool.and_eq_true, Bool.not_eq_true', Bool.and_eq_false_iff, decide_eq_false_iff_not, decide_eq_true_eq]; omega)]
                    rw [hE]
                    clear hE
                    go_enter Try.func68, Try.ntmps68
                    go_wp2
                    go_ret
                    exact ⟨rfl, by repeat (first | (with_reducible exact HB.out) | (with_reducible apply bAl) | (with_reducible apply bDr) | (with_reducible apply bDrN) | ((with_reducible refine bSt ?_ ?_ _); (first | (with_reducible assumption) | omega | (simp <;> omega))))⟩
                  · skip
                    by_cases d4 : 16 < x.depth
                    · have hE : chanErr p.parts.length x = 2 := by
                        unfold chanErr
                        rw [if_neg (by simp only [chanB0, withinB, Bool.not_eq_true', Bool.and_eq_false_iff, decide_eq_false_iff_not]; omega), if_neg (by simp only [chanB1, withinB, Bool.or_eq_true, Bool.not_eq_true', Bool.and_eq_false_iff, decide_eq_false_iff_not, decide_eq_true_eq]; omega), if_pos (by simp only [chanB2, withinB, Bool.or_eq_true, Bool.and_eq_true, Bool.not_eq_true', Bool.and_eq_false_iff, decide_eq_false_iff_not, decide_eq_true_eq]; omega)]
                      rw [hE]
                      clear hE
                      go_enter Try.func68, Try.ntmps68
                      go_wp2
                      go_ret
                      exact ⟨rfl, by repeat (first | (with_reducible exact HB.out) | (with_reducible apply bAl) | (with_reducible apply bDr) | (with_reducible apply bDrN) | ((with_reducible refine bSt ?_ ?_ _); (first | (with_reducible assumption) | omega | (simp <;> omega))))⟩
                    · skip
                      have hE : chanErr p.parts.length x = 0 := by
                        unfold chanErr
                        rw [if_neg (by simp only [chanB0, withinB, Bool.not_eq_true', Bool.and_eq_false_iff, decide_eq_false_iff_not]; omega), if_neg (by simp only [chanB1, withinB, Bool.or_eq_true, Bool.not_eq_true', Bool.and_eq_false_iff, decide_eq_false_iff_not, decide_eq_true_eq]; omega), if_neg (by simp only [chanB2, withinB, Bool.or_eq_true, Bool.and_eq_true, Bool.not_eq_true', Bool.and_eq_false_iff, decide_eq_false_iff_not, decide_eq_true_eq]; omega)]
                      rw [hE]
                      clear hE
                      go_enter Try.func68, Try.ntmps68
                      go_wp2
                      go_ret
                      exact ⟨rfl, by repeat (first | (with_reducible exact HB.out) | (with_reducible apply bAl) | (with_reducible apply bDr) | (with_reducible apply bDrN) | ((with_reducible refine bSt ?_ ?_ _); (first | (with_reducible assumption) | omega | (simp <;> omega))))⟩
  · have hk1 : (x.kind != 1) = true := by simp [hk]
    have hk2 : (x.kind != 2) = true := by simp [hk]
    clear hkb hkb2
    have hE : chanErr p.parts.length x = 12 := by
      unfold chanErr
      rw [if_pos (by simp only [chanB0, withinB, Bool.not_eq_true', Bool.and_eq_false_iff, decide_eq_false_iff_not]; omega)]
    rw [hE]
    clear hE
    go_enter Try.func68, Try.ntmps68
    go_wp2
    go_ret
    exact ⟨rfl, by repeat (first | (with_reducible exact HB.out) | (with_reducible apply bAl) | (with_reducible apply bDr) | (with_reducible apply bDrN) | ((with_reducible refine bSt ?_ ?_ _); (first | (with_reducible assumption) | omega | (simp <;> omega))))⟩
end Go.Proofs.Ytlegpbookbghbaa
