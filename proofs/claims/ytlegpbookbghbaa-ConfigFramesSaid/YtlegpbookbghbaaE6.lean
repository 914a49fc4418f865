/- ConfigFrames: the walk; the partitions' numbers are int64's. -/
import Derived.Test.YtlegpbookbghbaaE2
import Derived.Test.YtlegpbookbghbaaE5
set_option linter.unusedVariables false
set_option linter.unusedSimpArgs false
namespace Go.Proofs.Ytlegpbookbghbaa
open Go.RowKit

set_option maxRecDepth 100000 in set_option maxHeartbeats 2000000 in
theorem configFrames9 (p : PlanS) (A B C : Option Addr) (a b c : Nat) (w : World) (hA : Rd w A (partCells p.parts)) (hB : Rd w B (winCells p.wins)) (hC : Rd w C (chanCells p.chans)) (ho : ∀ x ∈ p.parts, x.Ok) :
    Calls Try.prog 9 #[.agg #[.int .i64 p.mem, .slice A p.parts.length a, .slice B p.wins.length b, .slice C p.chans.length c]] w fun e w' => e = .returned (.bool true) ∧ Below w.heap.size w w' := by
  have hu50 := Try.underlying50
  have hu61 := Try.underlying61
  have HB : Hid (Below w.heap.size w w) := Below.refl _ _
  have HM : Hid (Rd w A (partCells p.parts) ∧ Rd w B (winCells p.wins) ∧ Rd w C (chanCells p.chans)) := ⟨hA, hB, hC⟩
  have HO := Lib.hid ho
  clear hA hB hC ho
  go_enter Try.func9, Try.ntmps9
  go_wp2_with fail
  refine (big27 p A B C a b c _ (HM.out.1.below (by repeat (first | (with_reducible exact HB.out) | (with_reducible apply bAl) | (with_reducible apply bDr) | (with_reducible apply bDrN) | ((with_reducible refine bSt ?_ ?_ _); (first | (with_reducible assumption) | omega | (simp <;> omega))))))).mono ?_
  rintro e w1 ⟨⟨r, rfl, hr⟩, hb⟩
  have B0 : Hid (Blk w1 w.heap.size #[.int .i64 p.mem, .slice A p.parts.length a, .slice B p.wins.length b, .slice C p.chans.length c] 50) := Blk.below (by repeat (first | ((with_reducible apply Blk.newAt); (first | (with_reducible rfl) | (simp <;> omega))) | (with_reducible apply Blk.alloc) | (with_reducible apply Blk.drew) | (with_reducible apply Blk.set) | ((with_reducible refine Blk.setO ?_ ?_ _); (first | (with_reducible assumption) | omega | (simp <;> omega))))) hb
  have c0 := (B0.out).cell; have f0 := (B0.out).froz; have l0 := (B0.out).lt
  (replace HB : Hid (Below w.heap.size w w1) := bCall (by repeat (first | (with_reducible exact HB.out) | (with_reducible apply bAl) | (with_reducible apply bDr) | (with_reducible apply bDrN) | ((with_reducible refine bSt ?_ ?_ _); (first | (with_reducible assumption) | omega | (simp <;> omega))))) hb); clear hb; (have := HB.out.size)
  cases r
  · have HN := Lib.hid (hr rfl)
    clear hr
    go_wp2_with fail
    refine (check29 p A B C a b c _ (HM.out.1.below (by repeat (first | (with_reducible exact HB.out) | (with_reducible apply bAl) | (with_reducible apply bDr) | (with_reducible apply bDrN) | ((with_reducible refine bSt ?_ ?_ _); (first | (with_reducible assumption) | omega | (simp <;> omega)))))) (HM.out.2.1.below (by repeat (first | (with_reducible exact HB.out) | (with_reducible apply bAl) | (with_reducible apply bDr) | (with_reducible apply bDrN) | ((with_reducible refine bSt ?_ ?_ _); (first | (with_reducible assumption) | omega | (simp <;> omega)))))) (HM.out.2.2.below (by repeat (first | (with_reducible exact HB.out) | (with_reducible apply bAl) | (with_reducible apply bDr) | (with_reducible apply bDrN) | ((with_reducible refine bSt ?_ ?_ _); (first | (with_reducible assumption) | omega | (simp <;> omega)))))) HN.out.1 HN.out.2.1 HN.out.2.2 HO.out).mono ?_
    rintro e w2 ⟨rfl, hb⟩
    (replace B0 : Hid (Blk w2 (w.heap.size) _ _) := Blk.below (by repeat (first | (with_reducible exact B0.out) | ((with_reducible apply Blk.newAt); (first | (with_reducible rfl) | (simp <;> omega))) | (with_reducible apply Blk.alloc) | (with_reducible apply Blk.drew) | (with_reducible apply Blk.drewN) | (with_reducible apply Blk.set) | ((with_reducible apply Blk.setO); (first | (with_reducible assumption) | omega | (simp <;> omega))))) hb); (replace c0 := (B0.out).cell); (replace f0 := (B0.out).froz); (replace l0 := (B0.out).lt)
    (replace HB : Hid (Below w.heap.size w w2) := bCall (by repeat (first | (with_reducible exact HB.out) | (with_reducible apply bAl) | (with_reducible apply bDr) | (with_reducible apply bDrN) | ((with_reducible refine bSt ?_ ?_ _); (first | (with_reducible assumption) | omega | (simp <;> omega))))) hb); clear hb; (have := HB.out.size)
    by_cases hck : checkS p = 0
    · have HP := Lib.hid (checkS_ok hck)
      rw [hck]
      clear hck
      have hnw := HP.out.nw
      go_wp2
      go_loopw [3, 4, 5] (fun al dr i wr => ∃ k : Nat, k ≤ p.wins.length ∧ al = .int .i64 (sumT allW (p.wins.take k)) ∧ dr = .int .i64 (sumT drainW (p.wins.take k)) ∧ i = .int .i64 k ∧ wr = w2) (fun _ _ i _ => p.wins.length - (intOf i).toNat)
      case atStart => exact ⟨0, by omega, rfl, rfl, rfl, rfl⟩
      case round =>
        obtain ⟨k, hk, rfl, rfl, rfl, rfl⟩ := hrel
        by_cases hlt : k < p.wins.length
        · obtain ⟨b', o', rfl, s0, s1⟩ := (HM.out.2.1.below HB.out).win k hlt
          have hlt' : (k : Int) < (p.wins.length : Int) := by omega
          have ht := sumT_take allW p.wins k hlt
          have hd := sumT_take drainW p.wins k hlt
          have hi := sumT_in allW (p.wins.take k)
          have hi2 := sumT_in drainW (p.wins.take k)
          rw [List.length_take] at hi hi2
          have hw := HP.out.wins p.wins[k] (List.getElem_mem _)
          generalize p.wins[k] = x at s0 s1 ht hd hw
          obtain ⟨pt, tk⟩ := x
          obtain ⟨⟨hp0, hp1⟩, ⟨ht0, ht1⟩⟩ := hw
          have hcl : clampT tk = tk := by unfold clampT; dsimp only at ht0 ht1; split <;> (try split) <;> omega
          simp only [allW, drainW, if_true, decide_eq_true_eq, hcl] at ht hd s0 s1 hp0 hp1 ht0 ht1
          clear hcl
          generalize hS : sumT allW (p.wins.take k) = S at *
          generalize hT : sumT drainW (p.wins.take k) = T at *
          by_cases hp : pt < 0
          · obtain rfl : pt = -1 := by omega
            rw [if_pos rfl] at hd
            go_wp2
            exact ⟨⟨k + 1, by omega, by rw [ht], by rw [hd], by go_num, trivial⟩, by simp [intOf]; omega⟩
          · rw [if_neg (by omega), Int.add_zero] at hd
            go_wp2
            exact ⟨⟨k + 1, by omega, by rw [ht], by rw [hd], by go_num, trivial⟩, by simp [intOf]; omega⟩
        · have hkk : k = p.wins.length := by omega
          subst hkk
          rw [List.take_length]
          have e1 := sumT_in allW p.wins
          have e2 := sumT_in drainW p.wins
          have e3 := sumT_le p.wins
          have e4 := HP.out.drains
          have e5 : 1 ≤ sumT drainW p.wins := by omega
          have e6 : sumT allW p.wins ≤ 32000 := by omega
          clear e1 e2 e4
          go_wp2_with fail
          refine (planned28 _).mono ?_
          rintro e v1 ⟨rfl, hb⟩
          (replace B0 : Hid (Blk v1 (w.heap.size) _ _) := Blk.below (by repeat (first | (with_reducible exact B0.out) | ((with_reducible apply Blk.newAt); (first | (with_reducible rfl) | (simp <;> omega))) | (with_reducible apply Blk.alloc) | (with_reducible apply Blk.drew) | (with_reducible apply Blk.drewN) | (with_reducible apply Blk.set) | ((with_reducible apply Blk.setO); (first | (with_reducible assumption) | omega | (simp <;> omega))))) hb); (replace c0 := (B0.out).cell); (replace f0 := (B0.out).froz); (replace l0 := (B0.out).lt)
          (replace HB : Hid (Below w.heap.size w v1) := bCall (by repeat (first | (with_reducible exact HB.out) | (with_reducible apply bAl) | (with_reducible apply bDr) | (with_reducible apply bDrN) | ((with_reducible refine bSt ?_ ?_ _); (first | (with_reducible assumption) | omega | (simp <;> omega))))) hb); clear hb; (have := HB.out.size)
          go_wp2_with fail
          refine (frame33 p A B C a b c _ (HM.out.2.1.below (by repeat (first | (with_reducible exact HB.out) | (with_reducible apply bAl) | (with_reducible apply bDr) | (with_reducible apply bDrN) | ((with_reducible refine bSt ?_ ?_ _); (first | (with_reducible assumption) | omega | (simp <;> omega)))))) HN.out.2.1).mono ?_
          rintro e v4 ⟨rfl, hb⟩
          (replace B0 : Hid (Blk v4 (w.heap.size) _ _) := Blk.below (by repeat (first | (with_reducible exact B0.out) | ((with_reducible apply Blk.newAt); (first | (with_reducible rfl) | (simp <;> omega))) | (with_reducible apply Blk.alloc) | (with_reducible apply Blk.drew) | (with_reducible apply Blk.drewN) | (with_reducible apply Blk.set) | ((with_reducible apply Blk.setO); (first | (with_reducible assumption) | omega | (simp <;> omega))))) hb); (replace c0 := (B0.out).cell); (replace f0 := (B0.out).froz); (replace l0 := (B0.out).lt)
          (replace HB : Hid (Below w.heap.size w v4) := bCall (by repeat (first | (with_reducible exact HB.out) | (with_reducible apply bAl) | (with_reducible apply bDr) | (with_reducible apply bDrN) | ((with_reducible refine bSt ?_ ?_ _); (first | (with_reducible assumption) | omega | (simp <;> omega))))) hb); clear hb; (have := HB.out.size)
          go_wp2_with fail
          refine (drains35 p A B C a b c _ (HM.out.2.1.below (by repeat (first | (with_reducible exact HB.out) | (with_reducible apply bAl) | (with_reducible apply bDr) | (with_reducible apply bDrN) | ((with_reducible refine bSt ?_ ?_ _); (first | (with_reducible assumption) | omega | (simp <;> omega)))))) HN.out.2.1).mono ?_
          rintro e v6 ⟨rfl, hb⟩
          (replace B0 : Hid (Blk v6 (w.heap.size) _ _) := Blk.below (by repeat (first | (with_reducible exact B0.out) | ((with_reducible apply Blk.newAt); (first | (with_reducible rfl) | (simp <;> omega))) | (with_reducible apply Blk.alloc) | (with_reducible apply Blk.drew) | (with_reducible apply Blk.drewN) | (with_reducible apply Blk.set) | ((with_reducible apply Blk.setO); (first | (with_reducible assumption) | omega | (simp <;> omega))))) hb); (replace c0 := (B0.out).cell); (replace f0 := (B0.out).froz); (replace l0 := (B0.out).lt)
          (replace HB : Hid (Below w.heap.size w v6) := bCall (by repeat (first | (with_reducible exact HB.out) | (with_reducible apply bAl) | (with_reducible apply bDr) | (with_reducible apply bDrN) | ((with_reducible refine bSt ?_ ?_ _); (first | (with_reducible assumption) | omega | (simp <;> omega))))) hb); clear hb; (have := HB.out.size)
          go_wp2
          go_ret
          exact ⟨retBool (by simp <;> omega), HB.out⟩
    · go_wp2_with fail
      refine (planned28 _).mono ?_
      rintro e w3 ⟨rfl, hb⟩
      (replace HB : Hid (Below w.heap.size w w3) := bCall (by repeat (first | (with_reducible exact HB.out) | (with_reducible apply bAl) | (with_reducible apply bDr) | (with_reducible apply bDrN) | ((with_reducible refine bSt ?_ ?_ _); (first | (with_reducible assumption) | omega | (simp <;> omega))))) hb); clear hb; (have := HB.out.size)
      go_wp2
      go_ret
      exact ⟨rfl, HB.out⟩
  · go_wp2_with fail
    refine (planned28 _).mono ?_
    rintro e w3 ⟨rfl, hb⟩
    (replace HB : Hid (Below w.heap.size w w3) := bCall (by repeat (first | (with_reducible exact HB.out) | (with_reducible apply bAl) | (with_reducible apply bDr) | (with_reducible apply bDrN) | ((with_reducible refine bSt ?_ ?_ _); (first | (with_reducible assumption) | omega | (simp <;> omega))))) hb); clear hb; (have := HB.out.size)
    go_wp2
    go_ret
    exact ⟨rfl, HB.out⟩
end Go.Proofs.Ytlegpbookbghbaa
