/- The ticks of a frame and of the trace: config's, and the reference's; the windows are no more than 100. -/
import Derived.Test.YtlegpbookbghbaaD1
set_option linter.unusedVariables false
set_option linter.unusedSimpArgs false
namespace Go.Proofs.Ytlegpbookbghbaa
open Go.RowKit

set_option maxRecDepth 100000 in set_option maxHeartbeats 1000000 in theorem refDrains36 (p : PlanS) (A B C : Option Addr) (a b c : Nat) (w : World) (hB : Rd w B (winCells p.wins)) (hl : p.wins.length ≤ 100) : Calls Try.prog 36 #[.agg #[.int .i64 p.mem, .slice A p.parts.length a, .slice B p.wins.length b, .slice C p.chans.length c]] w fun e w' => e = .returned (.int .i64 (sumT drainW p.wins)) ∧ Below w.heap.size w w' := by
  have hu50 := Try.underlying50
  have hu61 := Try.underlying61
  have HR : Hid (Rd w B (winCells p.wins)) := hB
  clear hB
  go_enter Try.func36, Try.ntmps36
  go_wp2
  go_loopw [3, 4] (fun n i wr => ∃ k : Nat, k ≤ p.wins.length ∧ n = .int .i64 (sumT drainW (p.wins.take k)) ∧ i = .int .i64 k ∧ Blk wr w.heap.size #[.int .i64 p.mem, .slice A p.parts.length a, .slice B p.wins.length b, .slice C p.chans.length c] 50 ∧ Below w.heap.size w wr) (fun _ i _ => p.wins.length - (intOf i).toNat)
  case atStart => exact ⟨0, by omega, rfl, rfl, Blk.newAt _ _ _ _ rfl, bAl (Below.refl _ _) _⟩
  case round =>
    obtain ⟨k, hk, rfl, rfl, hBl, hbel⟩ := hrel
    have HB : Hid (Below w.heap.size w wr) := hbel
    have B0 : Hid (Blk wr w.heap.size _ _) := hBl
    have c0 := hBl.cell
    have hz := hbel.size
    by_cases hlt : k < p.wins.length
    · obtain ⟨b', o', rfl, s0, s1⟩ := HR.out.win k hlt
      have d0 : wr.cell? ⟨b', o' + k * 2, none⟩ = some (.int .i64 p.wins[k].part) := (hbel.cell (World.block_lt_of_cell? w _ s0)).trans s0
      have d1 : wr.cell? ⟨b', o' + k * 2 + 1, none⟩ = some (.int .i64 p.wins[k].ticks) := (hbel.cell (World.block_lt_of_cell? w _ s1)).trans s1
      have hlt' : (k : Int) < (p.wins.length : Int) := by omega
      have ht := sumT_take drainW p.wins k hlt
      have hi := sumT_in drainW (p.wins.take k)
      have hi2 := clampT_in p.wins[k].ticks
      rw [List.length_take] at hi
      clear hbel hBl s0 s1
      generalize p.wins[k] = x at d0 d1 ht hi2
      obtain ⟨pt, tk⟩ := x
      simp only [drainW, decide_eq_true_eq] at ht d0 d1 hi2
      by_cases hp : pt = -1
      · rw [if_pos hp] at ht
        subst hp
        go_wp2_with fail
        refine (ticks73 ⟨-1, tk⟩ _).mono ?_
        rintro e w1 ⟨rfl, hb⟩
        (replace B0 : Hid (Blk w1 (w.heap.size) _ _) := Blk.below (by repeat (first | (with_reducible exact B0.out) | ((with_reducible apply Blk.newAt); (first | (with_reducible rfl) | (simp <;> omega))) | (with_reducible apply Blk.alloc) | (with_reducible apply Blk.drew) | (with_reducible apply Blk.drewN) | (with_reducible apply Blk.set) | ((with_reducible apply Blk.setO); (first | (with_reducible assumption) | omega | (simp <;> omega))))) hb); (replace c0 := (B0.out).cell); (replace f0 := (B0.out).froz); (replace l0 := (B0.out).lt)
        (replace HB : Hid (Below w.heap.size w w1) := bCall (by repeat (first | (with_reducible exact HB.out) | (with_reducible apply bAl) | (with_reducible apply bDr) | (with_reducible apply bDrN) | ((with_reducible refine bSt ?_ ?_ _); (first | (with_reducible assumption) | omega | (simp <;> omega))))) hb); clear hb; (have := HB.out.size)
        dsimp only
        go_wp2
        refine ⟨⟨k + 1, by omega, by rw [ht], by go_num, B0.out, HB.out⟩, by simp [intOf]; omega⟩
      · rw [if_neg hp, Int.add_zero] at ht
        go_wp2
        refine ⟨⟨k + 1, by omega, by rw [ht], by go_num, B0.out, HB.out⟩, by simp [intOf]; omega⟩
    · have hkk : k = p.wins.length := by omega
      subst hkk
      rw [List.take_length]
      go_wp2
      go_ret
      exact ⟨rfl, HB.out⟩
set_option maxRecDepth 100000 in set_option maxHeartbeats 1000000 in theorem ticks71f (p : PlanS) (A B C : Option Addr) (a b c : Nat) (w : World) (hB : Rd w B (winCells p.wins)) (hl : p.wins.length ≤ 100) : Calls Try.prog 71 #[.agg #[.int .i64 p.mem, .slice A p.parts.length a, .slice B p.wins.length b, .slice C p.chans.length c], .func (.func 72) #[] #[]] w fun e w' => e = .returned (.int .i64 (sumT allW p.wins)) ∧ Below w.heap.size w w' := by
  have hu50 := Try.underlying50
  have hu61 := Try.underlying61
  have HR : Hid (Rd w B (winCells p.wins)) := hB
  clear hB
  go_enter Try.func71, Try.ntmps71
  go_wp2
  go_loopw [5, 11] (fun n i wr => ∃ k : Nat, k ≤ p.wins.length ∧ n = .int .i64 (sumT allW (p.wins.take k)) ∧ i = .int .i64 k ∧ Below w.heap.size w wr) (fun _ i _ => p.wins.length - (intOf i).toNat)
  case atStart => exact ⟨0, by omega, rfl, rfl, bAl (Below.refl _ _) _⟩
  case round =>
    obtain ⟨k, hk, rfl, rfl, hbel⟩ := hrel
    have HB : Hid (Below w.heap.size w wr) := hbel
    have hz := hbel.size
    by_cases hlt : k < p.wins.length
    · obtain ⟨b', o', rfl, s0, s1⟩ := HR.out.win k hlt
      have d0 : wr.cell? ⟨b', o' + k * 2, none⟩ = some (.int .i64 p.wins[k].part) := (hbel.cell (World.block_lt_of_cell? w _ s0)).trans s0
      have d1 : wr.cell? ⟨b', o' + k * 2 + 1, none⟩ = some (.int .i64 p.wins[k].ticks) := (hbel.cell (World.block_lt_of_cell? w _ s1)).trans s1
      have hlt' : (k : Int) < (p.wins.length : Int) := by omega
      have ht := sumT_take allW p.wins k hlt
      have hi := sumT_in allW (p.wins.take k)
      have hi2 := clampT_in p.wins[k].ticks
      rw [List.length_take] at hi
      clear hbel s0 s1
      generalize p.wins[k] = x at d0 d1 ht hi2
      obtain ⟨pt, tk⟩ := x
      simp only [allW, if_true] at ht d0 d1 hi2
      by_cases hp : 0 < tk
      · go_wp2_with fail
        refine (frame72 ⟨pt, tk⟩ _).mono ?_
        rintro e w1 ⟨rfl, hb⟩
        (replace B7 : Hid (Blk w1 (wr.heap.size) _ _) := Blk.below (by repeat (first | (with_reducible exact B7.out) | ((with_reducible apply Blk.newAt); (first | (with_reducible rfl) | (simp <;> omega))) | (with_reducible apply Blk.alloc) | (with_reducible apply Blk.drew) | (with_reducible apply Blk.drewN) | (with_reducible apply Blk.set) | ((with_reducible apply Blk.setO); (first | (with_reducible assumption) | omega | (simp <;> omega))))) hb); (replace c7 := (B7.out).cell); (replace f7 := (B7.out).froz); (replace l7 := (B7.out).lt)
        (replace HB : Hid (Below w.heap.size w w1) := bCall (by repeat (first | (with_reducible exact HB.out) | (with_reducible apply bAl) | (with_reducible apply bDr) | (with_reducible apply bDrN) | ((with_reducible refine bSt ?_ ?_ _); (first | (with_reducible assumption) | omega | (simp <;> omega))))) hb); clear hb; (have := HB.out.size)
        dsimp only [allW]
        go_wp2
        all_goals
          refine ⟨⟨k + 1, by omega, ?_, by go_num, HB.out⟩, by simp [intOf]; omega⟩
          congr 1
          rw [ht]
          unfold clampT
          omega
      · have hc : clampT tk = 0 := by unfold clampT; omega
        rw [hc, Int.add_zero] at ht
        go_wp2
        refine ⟨⟨k + 1, by omega, by rw [ht], by go_num, bAl HB.out _⟩, by simp [intOf]; omega⟩
    · have hkk : k = p.wins.length := by omega
      subst hkk
      rw [List.take_length]
      go_wp2
      go_ret
      exact ⟨rfl, HB.out⟩
set_option maxRecDepth 100000 in set_option maxHeartbeats 1000000 in theorem ticks71d (p : PlanS) (A B C : Option Addr) (a b c : Nat) (w : World) (hB : Rd w B (winCells p.wins)) (hl : p.wins.length ≤ 100) : Calls Try.prog 71 #[.agg #[.int .i64 p.mem, .slice A p.parts.length a, .slice B p.wins.length b, .slice C p.chans.length c], .func (.func 74) #[] #[]] w fun e w' => e = .returned (.int .i64 (sumT drainW p.wins)) ∧ Below w.heap.size w w' := by
  have hu50 := Try.underlying50
  have hu61 := Try.underlying61
  have HR : Hid (Rd w B (winCells p.wins)) := hB
  clear hB
  go_enter Try.func71, Try.ntmps71
  go_wp2
  go_loopw [5, 11] (fun n i wr => ∃ k : Nat, k ≤ p.wins.length ∧ n = .int .i64 (sumT drainW (p.wins.take k)) ∧ i = .int .i64 k ∧ Below w.heap.size w wr) (fun _ i _ => p.wins.length - (intOf i).toNat)
  case atStart => exact ⟨0, by omega, rfl, rfl, bAl (Below.refl _ _) _⟩
  case round =>
    obtain ⟨k, hk, rfl, rfl, hbel⟩ := hrel
    have HB : Hid (Below w.heap.size w wr) := hbel
    have hz := hbel.size
    by_cases hlt : k < p.wins.length
    · obtain ⟨b', o', rfl, s0, s1⟩ := HR.out.win k hlt
      have d0 : wr.cell? ⟨b', o' + k * 2, none⟩ = some (.int .i64 p.wins[k].part) := (hbel.cell (World.block_lt_of_cell? w _ s0)).trans s0
      have d1 : wr.cell? ⟨b', o' + k * 2 + 1, none⟩ = some (.int .i64 p.wins[k].ticks) := (hbel.cell (World.block_lt_of_cell? w _ s1)).trans s1
      have hlt' : (k : Int) < (p.wins.length : Int) := by omega
      have ht := sumT_take drainW p.wins k hlt
      have hi := sumT_in drainW (p.wins.take k)
      have hi2 := clampT_in p.wins[k].ticks
      rw [List.length_take] at hi
      clear hbel s0 s1
      generalize p.wins[k] = x at d0 d1 ht hi2
      obtain ⟨pt, tk⟩ := x
      simp only [drainW, decide_eq_true_eq] at ht d0 d1 hi2
      by_cases hp : 0 < tk
      · by_cases hq : pt = -1
        · rw [if_pos hq] at ht
          subst hq
          have hd : drainW ⟨-1, tk⟩ = true := by simp [drainW]
          have HD := Lib.hid hd
          go_wp2_with fail
          refine (drains74 ⟨-1, tk⟩ _).mono ?_
          rw [HD.out]
          rintro e w1 ⟨rfl, hb⟩
          (replace B7 : Hid (Blk w1 (wr.heap.size) _ _) := Blk.below (by repeat (first | (with_reducible exact B7.out) | ((with_reducible apply Blk.newAt); (first | (with_reducible rfl) | (simp <;> omega))) | (with_reducible apply Blk.alloc) | (with_reducible apply Blk.drew) | (with_reducible apply Blk.drewN) | (with_reducible apply Blk.set) | ((with_reducible apply Blk.setO); (first | (with_reducible assumption) | omega | (simp <;> omega))))) hb); (replace c7 := (B7.out).cell); (replace f7 := (B7.out).froz); (replace l7 := (B7.out).lt)
          (replace HB : Hid (Below w.heap.size w w1) := bCall (by repeat (first | (with_reducible exact HB.out) | (with_reducible apply bAl) | (with_reducible apply bDr) | (with_reducible apply bDrN) | ((with_reducible refine bSt ?_ ?_ _); (first | (with_reducible assumption) | omega | (simp <;> omega))))) hb); clear hb; (have := HB.out.size)
          go_wp2
          all_goals
            refine ⟨⟨k + 1, by omega, ?_, by go_num, HB.out⟩, by simp [intOf]; omega⟩
            congr 1
            rw [ht]
            unfold clampT
            omega
        · rw [if_neg hq, Int.add_zero] at ht
          have hd : drainW ⟨pt, tk⟩ = false := by simp [drainW, hq]
          have HD := Lib.hid hd
          go_wp2_with fail
          refine (drains74 ⟨pt, tk⟩ _).mono ?_
          rw [HD.out]
          rintro e w1 ⟨rfl, hb⟩
          (replace B7 : Hid (Blk w1 (wr.heap.size) _ _) := Blk.below (by repeat (first | (with_reducible exact B7.out) | ((with_reducible apply Blk.newAt); (first | (with_reducible rfl) | (simp <;> omega))) | (with_reducible apply Blk.alloc) | (with_reducible apply Blk.drew) | (with_reducible apply Blk.drewN) | (with_reducible apply Blk.set) | ((with_reducible apply Blk.setO); (first | (with_reducible assumption) | omega | (simp <;> omega))))) hb); (replace c7 := (B7.out).cell); (replace f7 := (B7.out).froz); (replace l7 := (B7.out).lt)
          (replace HB : Hid (Below w.heap.size w w1) := bCall (by repeat (first | (with_reducible exact HB.out) | (with_reducible apply bAl) | (with_reducible apply bDr) | (with_reducible apply bDrN) | ((with_reducible refine bSt ?_ ?_ _); (first | (with_reducible assumption) | omega | (simp <;> omega))))) hb); clear hb; (have := HB.out.size)
          go_wp2
          refine ⟨⟨k + 1, by omega, by rw [ht], by go_num, HB.out⟩, by simp [intOf]; omega⟩
      · have hc : clampT tk = 0 := by unfold clampT; omega
        rw [hc] at ht
        have ht' : sumT drainW (p.wins.take (k + 1)) = sumT drainW (p.wins.take k) := by rw [ht]; split <;> omega
        clear ht
        go_wp2
        refine ⟨⟨k + 1, by omega, by rw [ht'], by go_num, bAl HB.out _⟩, by simp [intOf]; omega⟩
    · have hkk : k = p.wins.length := by omega
      subst hkk
      rw [List.take_length]
      go_wp2
      go_ret
      exact ⟨rfl, HB.out⟩
set_option maxRecDepth 100000 in set_option maxHeartbeats 1000000 in theorem frame33 (p : PlanS) (A B C : Option Addr) (a b c : Nat) (w : World) (hB : Rd w B (winCells p.wins)) (hl : p.wins.length ≤ 100) : Calls Try.prog 33 #[.agg #[.int .i64 p.mem, .slice A p.parts.length a, .slice B p.wins.length b, .slice C p.chans.length c]] w fun e w' => e = .returned (.int .i64 (sumT allW p.wins)) ∧ Below w.heap.size w w' := by
  have hu50 := Try.underlying50
  have HR : Hid (Rd w B (winCells p.wins)) := hB
  have HB : Hid (Below w.heap.size w w) := Below.refl _ _
  clear hB
  go_enter Try.func33, Try.ntmps33
  go_wp2_with fail
  refine (ticks71f p A B C a b c _ ?hR hl).mono ?_
  case hR => exact HR.out.below (by repeat (first | (with_reducible exact HB.out) | (with_reducible apply bAl) | (with_reducible apply bDr) | (with_reducible apply bDrN) | ((with_reducible refine bSt ?_ ?_ _); (first | (with_reducible assumption) | omega | (simp <;> omega)))))
  rintro e w1 ⟨rfl, hb⟩
  (replace HB : Hid (Below w.heap.size w w1) := bCall (by repeat (first | (with_reducible exact HB.out) | (with_reducible apply bAl) | (with_reducible apply bDr) | (with_reducible apply bDrN) | ((with_reducible refine bSt ?_ ?_ _); (first | (with_reducible assumption) | omega | (simp <;> omega))))) hb); clear hb; (have := HB.out.size)
  go_wp2
  go_ret
  exact ⟨rfl, HB.out⟩
set_option maxRecDepth 100000 in set_option maxHeartbeats 1000000 in theorem drains35 (p : PlanS) (A B C : Option Addr) (a b c : Nat) (w : World) (hB : Rd w B (winCells p.wins)) (hl : p.wins.length ≤ 100) : Calls Try.prog 35 #[.agg #[.int .i64 p.mem, .slice A p.parts.length a, .slice B p.wins.length b, .slice C p.chans.length c]] w fun e w' => e = .returned (.int .i64 (sumT drainW p.wins)) ∧ Below w.heap.size w w' := by
  have hu50 := Try.underlying50
  have HR : Hid (Rd w B (winCells p.wins)) := hB
  have HB : Hid (Below w.heap.size w w) := Below.refl _ _
  clear hB
  go_enter Try.func35, Try.ntmps35
  go_wp2_with fail
  refine (ticks71d p A B C a b c _ ?hR hl).mono ?_
  case hR => exact HR.out.below (by repeat (first | (with_reducible exact HB.out) | (with_reducible apply bAl) | (with_reducible apply bDr) | (with_reducible apply bDrN) | ((with_reducible refine bSt ?_ ?_ _); (first | (with_reducible assumption) | omega | (simp <;> omega)))))
  rintro e w1 ⟨rfl, hb⟩
  (replace HB : Hid (Below w.heap.size w w1) := bCall (by repeat (first | (with_reducible exact HB.out) | (with_reducible apply bAl) | (with_reducible apply bDr) | (with_reducible apply bDrN) | ((with_reducible refine bSt ?_ ?_ _); (first | (with_reducible assumption) | omega | (simp <;> omega))))) hb); clear hb; (have := HB.out.size)
  go_wp2
  go_ret
  exact ⟨rfl, HB.out⟩
end Go.Proofs.Ytlegpbookbghbaa
