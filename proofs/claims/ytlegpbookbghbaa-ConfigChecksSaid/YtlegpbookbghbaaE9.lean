/- What the reference says is wrong with a partition: the walk; the partitions' numbers are int64's. -/
import Derived.Test.YtlegpbookbghbaaE8
set_option linter.unusedVariables false
set_option linter.unusedSimpArgs false
namespace Go.Proofs.Ytlegpbookbghbaa
open Go.RowKit

set_option maxRecDepth 100000 in set_option maxHeartbeats 4000000 in
theorem refPart67 (p : PlanS) (A B C : Option Addr) (a b c : Nat) (i : Nat) (w : World) (hA : Rd w A (partCells p.parts)) (hi : i < p.parts.length) (ho : ∀ x ∈ p.parts, x.Ok) (hm : 1 ≤ p.mem ∧ p.mem ≤ 4096) (hn : p.parts.length ≤ 20) :
    Calls Try.prog 67 #[.agg #[.int .i64 p.mem, .slice A p.parts.length a, .slice B p.wins.length b, .slice C p.chans.length c], .int .i64 i] w fun e w' => e = .returned (.int .i64 (partErr p i p.parts[i])) ∧ Below w.heap.size w w' := by
  have hu50 := Try.underlying50
  have hu55 := Try.underlying55
  have HB : Hid (Below w.heap.size w w) := Below.refl _ _
  have HA := Lib.hid hA
  have HO := Lib.hid ho
  obtain ⟨b', o', rfl, s0, s1, s2, s3, s4, s5⟩ := hA.part i hi
  have hlti : (i : Int) < (p.parts.length : Int) := by omega
  have lx : b' < w.heap.size := World.block_lt_of_cell? w _ s0
  have okx := ho p.parts[i] (List.getElem_mem _)
  have bd := okx.base
  have sd := okx.size
  unfold I64 at bd sd
  clear hA ho
  generalize hxx : p.parts[i] = x at *
  have OX := Lib.hid okx
  have HX := Lib.hid hxx
  clear okx hxx
  by_cases a1 : x.base < 0
  · have hE : partErr p i x = 6 := by
      unfold partErr
      rw [if_pos (by simp only [partB0, Bool.or_eq_true, decide_eq_true_eq]; omega)]
    rw [hE]
    clear hE
    go_enter Try.func67, Try.ntmps67
    go_wp2
    go_ret
    exact ⟨rfl, by repeat (first | (with_reducible exact HB.out) | (with_reducible apply bAl) | (with_reducible apply bDr) | (with_reducible apply bDrN) | ((with_reducible refine bSt ?_ ?_ _); (first | (with_reducible assumption) | omega | (simp <;> omega))))⟩
  · skip
    by_cases a2 : x.size < 1
    · have hE : partErr p i x = 6 := by
        unfold partErr
        rw [if_pos (by simp only [partB0, Bool.or_eq_true, decide_eq_true_eq]; omega)]
      rw [hE]
      clear hE
      go_enter Try.func67, Try.ntmps67
      go_wp2
      go_ret
      exact ⟨rfl, by repeat (first | (with_reducible exact HB.out) | (with_reducible apply bAl) | (with_reducible apply bDr) | (with_reducible apply bDrN) | ((with_reducible refine bSt ?_ ?_ _); (first | (with_reducible assumption) | omega | (simp <;> omega))))⟩
    · skip
      by_cases a3 : p.mem < x.base
      · have hE : partErr p i x = 6 := by
          unfold partErr
          rw [if_pos (by simp only [partB0, Bool.or_eq_true, decide_eq_true_eq]; omega)]
        rw [hE]
        clear hE
        go_enter Try.func67, Try.ntmps67
        go_wp2
        go_ret
        exact ⟨rfl, by repeat (first | (with_reducible exact HB.out) | (with_reducible apply bAl) | (with_reducible apply bDr) | (with_reducible apply bDrN) | ((with_reducible refine bSt ?_ ?_ _); (first | (with_reducible assumption) | omega | (simp <;> omega))))⟩
      · skip
        by_cases a4 : p.mem - x.base < x.size
        · have hE : partErr p i x = 6 := by
            unfold partErr
            rw [if_pos (by simp only [partB0, Bool.or_eq_true, decide_eq_true_eq]; omega)]
          rw [hE]
          clear hE
          go_enter Try.func67, Try.ntmps67
          go_wp2
          go_ret
          exact ⟨rfl, by repeat (first | (with_reducible exact HB.out) | (with_reducible apply bAl) | (with_reducible apply bDr) | (with_reducible apply bDrN) | ((with_reducible refine bSt ?_ ?_ _); (first | (with_reducible assumption) | omega | (simp <;> omega))))⟩
        · skip
          have hb0 : ¬ partB0 p.mem x = true := by simp only [partB0, Bool.or_eq_true, decide_eq_true_eq]; omega
          have Hb0 := Lib.hid hb0
          clear hb0
          go_enter Try.func67, Try.ntmps67
          go_wp2_with fail
          go_loopw [6] (fun n wr => ∃ k : Nat, k ≤ i ∧ n = .int .i64 k ∧ (p.parts.take k).any (fun y => !apartB y x) = false ∧ Blk wr w.heap.size #[.int .i64 p.mem, .slice (some ⟨b', o', none⟩) p.parts.length a, .slice B p.wins.length b, .slice C p.chans.length c] 50 ∧ Blk wr (w.heap.size + 1) #[.int .i64 x.base, .int .i64 x.size, .int .i64 x.ring, .slice x.cA x.cl x.cc, .int .i64 x.fault, .int .i64 x.again] 55 ∧ Below w.heap.size w wr) (fun n _ => i - (intOf n).toNat)
          case atStart => exact ⟨0, by omega, rfl, rfl, by repeat (first | ((with_reducible apply Blk.newAt); (first | (with_reducible rfl) | (simp <;> omega))) | (with_reducible apply Blk.alloc) | (with_reducible apply Blk.drew) | (with_reducible apply Blk.set) | ((with_reducible refine Blk.setO ?_ ?_ _); (first | (with_reducible assumption) | omega | (simp <;> omega)))), by repeat (first | ((with_reducible apply Blk.newAt); (first | (with_reducible rfl) | (simp <;> omega))) | (with_reducible apply Blk.alloc) | (with_reducible apply Blk.drew) | (with_reducible apply Blk.set) | ((with_reducible refine Blk.setO ?_ ?_ _); (first | (with_reducible assumption) | omega | (simp <;> omega)))), by repeat (first | (with_reducible exact HB.out) | (with_reducible apply bAl) | (with_reducible apply bDr) | (with_reducible apply bDrN) | ((with_reducible refine bSt ?_ ?_ _); (first | (with_reducible assumption) | omega | (simp <;> omega))))⟩
          case round =>
            obtain ⟨k, hk, rfl, hany, hBl, hB1, hbel⟩ := hrel
            clear HB s0 s1 s2 s3 s4 s5
            have B0 := Lib.hid hBl
            have B1 := Lib.hid hB1
            have HB := Lib.hid hbel
            have HN := Lib.hid hany
            have hsz := hbel.size
            have c0 := (B0.out).cell; have f0 := (B0.out).froz; have l0 := (B0.out).lt
            have c1 := (B1.out).cell; have f1 := (B1.out).froz; have l1 := (B1.out).lt
            clear hBl hB1 hbel hany
            by_cases hlt : k < i
            · have hk' : k < p.parts.length := by omega
              have hlt' : (k : Int) < (i : Int) := by omega
              have hk'' : (k : Int) < (p.parts.length : Int) := by omega
              have hs : wr.cell? ⟨b', o' + k * 6, none⟩ = some (.int .i64 p.parts[k].base) ∧ wr.cell? ⟨b', o' + k * 6 + 1, none⟩ = some (.int .i64 p.parts[k].size) ∧ wr.cell? ⟨b', o' + k * 6 + 2, none⟩ = some (.int .i64 p.parts[k].ring) ∧ wr.cell? ⟨b', o' + k * 6 + 3, none⟩ = some (.slice p.parts[k].cA p.parts[k].cl p.parts[k].cc) ∧ wr.cell? ⟨b', o' + k * 6 + 4, none⟩ = some (.int .i64 p.parts[k].fault) ∧ wr.cell? ⟨b', o' + k * 6 + 5, none⟩ = some (.int .i64 p.parts[k].again) := (HA.out.below HB.out).partAt k hk' _ rfl
              have oky := HO.out p.parts[k] (List.getElem_mem _)
              have hstep : (p.parts.take (k + 1)).any (fun y => !apartB y x) = !apartB p.parts[k] x := by
                rw [List.take_succ_eq_append_getElem hk', List.any_append, HN.out]
                simp
              have hall : apartB p.parts[k] x = false → partB1 p.parts i x = true := fun h => by
                unfold partB1
                rw [List.any_eq_true]
                exact ⟨p.parts[k], List.mem_take_iff_getElem.2 ⟨k, by omega, rfl⟩, by simp [h]⟩
              generalize hyy : p.parts[k] = y at *
              have HY := Lib.hid hyy
              have OY := Lib.hid oky
              have HST := Lib.hid hstep
              have HAL := Lib.hid hall
              obtain ⟨s0, s1, s2, s3, s4, s5⟩ := hs
              clear hyy oky hstep hall
              cases hq : apartB x y
              · have Q1 := Lib.hid hq
                clear hq
                (go_wp2_with fail; go_region_held3 (fun w' => (∀ j, w'.cell? ⟨w.heap.size, j, none⟩ = (#[.int .i64 p.mem, .slice (some ⟨b', o', none⟩) p.parts.length a, .slice B p.wins.length b, .slice C p.chans.length c] : Array Value)[j]?) ∧ (∀ j, w'.cell? ⟨w.heap.size + 1, j, none⟩ = (#[.int .i64 x.base, .int .i64 x.size, .int .i64 x.ring, .slice x.cA x.cl x.cc, .int .i64 x.fault, .int .i64 x.again] : Array Value)[j]?) ∧ w'.cell? ⟨b', o' + k * 6, none⟩ = some (.int .i64 y.base) ∧ w'.cell? ⟨b', o' + k * 6 + 1, none⟩ = some (.int .i64 y.size) ∧ w'.cell? ⟨b', o' + k * 6 + 2, none⟩ = some (.int .i64 y.ring) ∧ w'.cell? ⟨b', o' + k * 6 + 3, none⟩ = some (.slice y.cA y.cl y.cc) ∧ w'.cell? ⟨b', o' + k * 6 + 4, none⟩ = some (.int .i64 y.fault) ∧ w'.cell? ⟨b', o' + k * 6 + 5, none⟩ = some (.int .i64 y.again)) (exact ⟨Blk.cell (by repeat (first | (with_reducible exact B0.out) | ((with_reducible apply Blk.newAt); (first | (with_reducible rfl) | (simp <;> omega))) | (with_reducible apply Blk.alloc) | (with_reducible apply Blk.drew) | (with_reducible apply Blk.drewN) | (with_reducible apply Blk.set) | ((with_reducible apply Blk.setO); (first | (with_reducible assumption) | omega | (simp <;> omega))))), Blk.cell (by repeat (first | (with_reducible exact B1.out) | ((with_reducible apply Blk.newAt); (first | (with_reducible rfl) | (simp <;> omega))) | (with_reducible apply Blk.alloc) | (with_reducible apply Blk.drew) | (with_reducible apply Blk.drewN) | (with_reducible apply Blk.set) | ((with_reducible apply Blk.setO); (first | (with_reducible assumption) | omega | (simp <;> omega))))), (HA.out.below (by repeat (first | (with_reducible exact HB.out) | (with_reducible apply bAl) | (with_reducible apply bDr) | (with_reducible apply bDrN) | ((with_reducible refine bSt ?_ ?_ _); (first | (with_reducible assumption) | omega | (simp <;> omega)))))).partAt k hk' y HY.out⟩) (first | (go_at_call 32; refine (refApart32 x y _ OX.out OY.out).mono ?_; rw [Q1.out]; rintro e v1 ⟨rfl, hb⟩; (replace B0 : Hid (Blk v1 (w.heap.size) _ _) := Blk.below (by repeat (first | (with_reducible exact B0.out) | ((with_reducible apply Blk.newAt); (first | (with_reducible rfl) | (simp <;> omega))) | (with_reducible apply Blk.alloc) | (with_reducible apply Blk.drew) | (with_reducible apply Blk.drewN) | (with_reducible apply Blk.set) | ((with_reducible apply Blk.setO); (first | (with_reducible assumption) | omega | (simp <;> omega))))) hb); (replace c0 := (B0.out).cell); (replace f0 := (B0.out).froz); (replace l0 := (B0.out).lt); (replace B1 : Hid (Blk v1 (w.heap.size + 1) _ _) := Blk.below (by repeat (first | (with_reducible exact B1.out) | ((with_reducible apply Blk.newAt); (first | (with_reducible rfl) | (simp <;> omega))) | (with_reducible apply Blk.alloc) | (with_reducible apply Blk.drew) | (with_reducible apply Blk.drewN) | (with_reducible apply Blk.set) | ((with_reducible apply Blk.setO); (first | (with_reducible assumption) | omega | (simp <;> omega))))) hb); (replace c1 := (B1.out).cell); (replace f1 := (B1.out).froz); (replace l1 := (B1.out).lt); (replace HB : Hid (Below w.heap.size w v1) := bCall (by repeat (first | (with_reducible exact HB.out) | (with_reducible apply bAl) | (with_reducible apply bDr) | (with_reducible apply bDrN) | ((with_reducible refine bSt ?_ ?_ _); (first | (with_reducible assumption) | omega | (simp <;> omega))))) hb); clear hb; (have := HB.out.size))))
                go_wp2
                go_ret
                refine ⟨retInt ?_, HB.out⟩
                unfold partErr
                rw [if_neg Hb0.out, if_pos (HAL.out ((apartB_symm y x).trans Q1.out))]
              · have Q1 := Lib.hid hq
                clear hq
                (go_wp2_with fail; go_region_held3 (fun w' => (∀ j, w'.cell? ⟨w.heap.size, j, none⟩ = (#[.int .i64 p.mem, .slice (some ⟨b', o', none⟩) p.parts.length a, .slice B p.wins.length b, .slice C p.chans.length c] : Array Value)[j]?) ∧ (∀ j, w'.cell? ⟨w.heap.size + 1, j, none⟩ = (#[.int .i64 x.base, .int .i64 x.size, .int .i64 x.ring, .slice x.cA x.cl x.cc, .int .i64 x.fault, .int .i64 x.again] : Array Value)[j]?) ∧ w'.cell? ⟨b', o' + k * 6, none⟩ = some (.int .i64 y.base) ∧ w'.cell? ⟨b', o' + k * 6 + 1, none⟩ = some (.int .i64 y.size) ∧ w'.cell? ⟨b', o' + k * 6 + 2, none⟩ = some (.int .i64 y.ring) ∧ w'.cell? ⟨b', o' + k * 6 + 3, none⟩ = some (.slice y.cA y.cl y.cc) ∧ w'.cell? ⟨b', o' + k * 6 + 4, none⟩ = some (.int .i64 y.fault) ∧ w'.cell? ⟨b', o' + k * 6 + 5, none⟩ = some (.int .i64 y.again)) (exact ⟨Blk.cell (by repeat (first | (with_reducible exact B0.out) | ((with_reducible apply Blk.newAt); (first | (with_reducible rfl) | (simp <;> omega))) | (with_reducible apply Blk.alloc) | (with_reducible apply Blk.drew) | (with_reducible apply Blk.drewN) | (with_reducible apply Blk.set) | ((with_reducible apply Blk.setO); (first | (with_reducible assumption) | omega | (simp <;> omega))))), Blk.cell (by repeat (first | (with_reducible exact B1.out) | ((with_reducible apply Blk.newAt); (first | (with_reducible rfl) | (simp <;> omega))) | (with_reducible apply Blk.alloc) | (with_reducible apply Blk.drew) | (with_reducible apply Blk.drewN) | (with_reducible apply Blk.set) | ((with_reducible apply Blk.setO); (first | (with_reducible assumption) | omega | (simp <;> omega))))), (HA.out.below (by repeat (first | (with_reducible exact HB.out) | (with_reducible apply bAl) | (with_reducible apply bDr) | (with_reducible apply bDrN) | ((with_reducible refine bSt ?_ ?_ _); (first | (with_reducible assumption) | omega | (simp <;> omega)))))).partAt k hk' y HY.out⟩) (first | (go_at_call 32; refine (refApart32 x y _ OX.out OY.out).mono ?_; rw [Q1.out]; rintro e v1 ⟨rfl, hb⟩; (replace B0 : Hid (Blk v1 (w.heap.size) _ _) := Blk.below (by repeat (first | (with_reducible exact B0.out) | ((with_reducible apply Blk.newAt); (first | (with_reducible rfl) | (simp <;> omega))) | (with_reducible apply Blk.alloc) | (with_reducible apply Blk.drew) | (with_reducible apply Blk.drewN) | (with_reducible apply Blk.set) | ((with_reducible apply Blk.setO); (first | (with_reducible assumption) | omega | (simp <;> omega))))) hb); (replace c0 := (B0.out).cell); (replace f0 := (B0.out).froz); (replace l0 := (B0.out).lt); (replace B1 : Hid (Blk v1 (w.heap.size + 1) _ _) := Blk.below (by repeat (first | (with_reducible exact B1.out) | ((with_reducible apply Blk.newAt); (first | (with_reducible rfl) | (simp <;> omega))) | (with_reducible apply Blk.alloc) | (with_reducible apply Blk.drew) | (with_reducible apply Blk.drewN) | (with_reducible apply Blk.set) | ((with_reducible apply Blk.setO); (first | (with_reducible assumption) | omega | (simp <;> omega))))) hb); (replace c1 := (B1.out).cell); (replace f1 := (B1.out).froz); (replace l1 := (B1.out).lt); (replace HB : Hid (Below w.heap.size w v1) := bCall (by repeat (first | (with_reducible exact HB.out) | (with_reducible apply bAl) | (with_reducible apply bDr) | (with_reducible apply bDrN) | ((with_reducible refine bSt ?_ ?_ _); (first | (with_reducible assumption) | omega | (simp <;> omega))))) hb); clear hb; (have := HB.out.size))))
                go_wp2
                exact ⟨⟨k + 1, by omega, by go_num, by rw [HST.out, apartB_symm, Q1.out]; rfl, B0.out, B1.out, HB.out⟩, by simp [intOf]; omega⟩
            · obtain rfl : k = i := by omega
              have hb1 : ¬ partB1 p.parts k x = true := by
                unfold partB1
                rw [HN.out]
                simp
              have Hb1 := Lib.hid hb1
              clear hb1
              by_cases r1 : x.ring < 2
              · go_wp2
                go_ret
                refine ⟨retInt ?_, HB.out⟩
                unfold partErr
                rw [if_neg Hb0.out, if_neg Hb1.out, if_pos (by simp only [partB2, withinB, Bool.or_eq_true, Bool.not_eq_true', Bool.and_eq_false_iff, decide_eq_false_iff_not]; omega)]
              · skip
                by_cases r2 : 64 < x.ring
                · go_wp2
                  go_ret
                  refine ⟨retInt ?_, HB.out⟩
                  unfold partErr
                  rw [if_neg Hb0.out, if_neg Hb1.out, if_pos (by simp only [partB2, withinB, Bool.or_eq_true, Bool.not_eq_true', Bool.and_eq_false_iff, decide_eq_false_iff_not]; omega)]
                · skip
                  by_cases r3 : (x.cl : Int) < 1
                  · go_wp2
                    go_ret
                    refine ⟨retInt ?_, HB.out⟩
                    unfold partErr
                    rw [if_neg Hb0.out, if_neg Hb1.out, if_pos (by simp only [partB2, withinB, Bool.or_eq_true, Bool.not_eq_true', Bool.and_eq_false_iff, decide_eq_false_iff_not]; omega)]
                  · skip
                    by_cases r4 : 256 < (x.cl : Int)
                    · go_wp2
                      go_ret
                      refine ⟨retInt ?_, HB.out⟩
                      unfold partErr
                      rw [if_neg Hb0.out, if_neg Hb1.out, if_pos (by simp only [partB2, withinB, Bool.or_eq_true, Bool.not_eq_true', Bool.and_eq_false_iff, decide_eq_false_iff_not]; omega)]
                    · skip
                      by_cases r5 : x.again < 0
                      · go_wp2
                        go_ret
                        refine ⟨retInt ?_, HB.out⟩
                        unfold partErr
                        rw [if_neg Hb0.out, if_neg Hb1.out, if_pos (by simp only [partB2, withinB, Bool.or_eq_true, Bool.not_eq_true', Bool.and_eq_false_iff, decide_eq_false_iff_not]; omega)]
                      · skip
                        by_cases r6 : 100 < x.again
                        · go_wp2
                          go_ret
                          refine ⟨retInt ?_, HB.out⟩
                          unfold partErr
                          rw [if_neg Hb0.out, if_neg Hb1.out, if_pos (by simp only [partB2, withinB, Bool.or_eq_true, Bool.not_eq_true', Bool.and_eq_false_iff, decide_eq_false_iff_not]; omega)]
                        · skip
                          by_cases f1 : x.fault < 1
                          · go_wp2
                            go_ret
                            refine ⟨retInt ?_, HB.out⟩
                            unfold partErr
                            rw [if_neg Hb0.out, if_neg Hb1.out, if_neg (by simp only [partB2, withinB, Bool.or_eq_true, Bool.not_eq_true', Bool.and_eq_false_iff, decide_eq_false_iff_not]; omega), if_pos (by simp only [partB3, withinB, Bool.not_eq_true', Bool.and_eq_false_iff, decide_eq_false_iff_not]; omega)]
                          · skip
                            by_cases f2 : 3 < x.fault
                            · go_wp2
                              go_ret
                              refine ⟨retInt ?_, HB.out⟩
                              unfold partErr
                              rw [if_neg Hb0.out, if_neg Hb1.out, if_neg (by simp only [partB2, withinB, Bool.or_eq_true, Bool.not_eq_true', Bool.and_eq_false_iff, decide_eq_false_iff_not]; omega), if_pos (by simp only [partB3, withinB, Bool.not_eq_true', Bool.and_eq_false_iff, decide_eq_false_iff_not]; omega)]
                            · skip
                              go_wp2
                              go_ret
                              refine ⟨retInt ?_, HB.out⟩
                              unfold partErr
                              rw [if_neg Hb0.out, if_neg Hb1.out, if_neg (by simp only [partB2, withinB, Bool.or_eq_true, Bool.not_eq_true', Bool.and_eq_false_iff, decide_eq_false_iff_not]; omega), if_neg (by simp only [partB3, withinB, Bool.not_eq_true', Bool.and_eq_false_iff, decide_eq_false_iff_not]; omega)]
end Go.Proofs.Ytlegpbookbghbaa
