/- What the reference says is wrong with a plan: the walk; the partitions' numbers are int64's, and the plan is not too big. -/
import Derived.Test.YtlegpbookbghbaaE9
set_option linter.unusedVariables false
set_option linter.unusedSimpArgs false
namespace Go.Proofs.Ytlegpbookbghbaa
open Go.RowKit

theorem lstep {p : PlanS} {k : Nat} (h : ∀ i, i < k → listErr p i = 0) (hk : listErr p k = 0) : ∀ i, i < k + 1 → listErr p i = 0 := fun i hi => by
  by_cases e : i < k
  · exact h i e
  · obtain rfl : i = k := by omega
    exact hk
theorem drains_any (l : List WinS) (h : ∀ x ∈ l, 1 ≤ x.ticks) : decide (sumT drainW l = 0) = !l.any drainW := by
  induction l with
  | nil => rfl
  | cons x l ih =>
    have hx := h x (List.mem_cons_self ..)
    have ih := ih fun y hy => h y (List.mem_cons_of_mem _ hy)
    have h0 := sumT_in drainW l
    have hs : sumT drainW (x :: l) = (if drainW x then clampT x.ticks else 0) + sumT drainW l := by simp [sumT]
    rw [hs, List.any_cons]
    cases hd : drainW x
    · simpa using ih
    · have hc : 1 ≤ clampT x.ticks := by unfold clampT; split <;> (try split) <;> omega
      simp only [if_true, Bool.true_or, Bool.not_true, decide_eq_false_iff_not]
      omega
theorem winOks {p : PlanS} (h : listErr p 2 = 0) : ∀ x ∈ p.wins, 1 ≤ x.ticks := fun x hx => by
  have he := firstErr_mem h (winErr p.parts.length x) (List.mem_map.2 ⟨x, hx, rfl⟩)
  unfold winErr at he
  cases b0 : winB0 p.parts.length x
  · cases b1 : winB1 x
    · simp only [winB1, Bool.not_eq_false'] at b1
      exact (withinB_true b1).1
    · simp [b0, b1] at he
  · simp [b0] at he
theorem Rd.winAt {w : World} {b' o' : Nat} {l : List WinS} (h : Rd w (some ⟨b', o', none⟩) (winCells l)) (k : Nat) (hk : k < l.length) (x : WinS) (hx : l[k] = x) : w.cell? ⟨b', o' + k * 2, none⟩ = some (.int .i64 x.part) ∧ w.cell? ⟨b', o' + k * 2 + 1, none⟩ = some (.int .i64 x.ticks) := by
  obtain ⟨b2, o2, e, h⟩ := h.win k hk
  simp only [Option.some.injEq, Addr.mk.injEq, and_true] at e
  obtain ⟨rfl, rfl⟩ := e
  rw [hx] at h
  exact h
theorem Rd.chanAt {w : World} {b' o' : Nat} {l : List ChanS} (h : Rd w (some ⟨b', o', none⟩) (chanCells l)) (k : Nat) (hk : k < l.length) (x : ChanS) (hx : l[k] = x) : w.cell? ⟨b', o' + k * 5, none⟩ = some (.int .i64 x.kind) ∧ w.cell? ⟨b', o' + k * 5 + 1, none⟩ = some (.int .i64 x.from_) ∧ w.cell? ⟨b', o' + k * 5 + 2, none⟩ = some (.int .i64 x.to_) ∧ w.cell? ⟨b', o' + k * 5 + 3, none⟩ = some (.int .i64 x.size) ∧ w.cell? ⟨b', o' + k * 5 + 4, none⟩ = some (.int .i64 x.depth) := by
  obtain ⟨b2, o2, e, h⟩ := h.chan k hk
  simp only [Option.some.injEq, Addr.mk.injEq, and_true] at e
  obtain ⟨rfl, rfl⟩ := e
  rw [hx] at h
  exact h
set_option maxRecDepth 100000 in set_option maxHeartbeats 4000000 in
theorem refCheck30 (p : PlanS) (A B C : Option Addr) (a b c : Nat) (w : World) (hA : Rd w A (partCells p.parts)) (hB : Rd w B (winCells p.wins)) (hC : Rd w C (chanCells p.chans)) (hn : p.parts.length ≤ 20) (hwn : p.wins.length ≤ 100) (hcn : p.chans.length ≤ 100) (ho : ∀ x ∈ p.parts, x.Ok) :
    Calls Try.prog 30 #[.agg #[.int .i64 p.mem, .slice A p.parts.length a, .slice B p.wins.length b, .slice C p.chans.length c]] w fun e w' => e = .returned (.int .i64 (checkS p)) ∧ Below w.heap.size w w' := by
  have hu50 := Try.underlying50
  have hu61 := Try.underlying61
  have hu63 := Try.underlying63
  have HB : Hid (Below w.heap.size w w) := Below.refl _ _
  have HM : Hid (Rd w A (partCells p.parts) ∧ Rd w B (winCells p.wins) ∧ Rd w C (chanCells p.chans)) := ⟨hA, hB, hC⟩
  have HO := Lib.hid ho
  clear hA hB hC ho
  by_cases n1 : p.mem < 1
  · have hE : checkS p = 2 := by
      unfold checkS
      rw [if_pos (by simp only [numbersB, withinB, Bool.or_eq_true, Bool.not_eq_true', Bool.and_eq_false_iff, decide_eq_false_iff_not, decide_eq_true_eq]; omega)]
    rw [hE]
    clear hE
    go_enter Try.func30, Try.ntmps30
    go_wp2
    go_ret
    exact ⟨rfl, by repeat (first | (with_reducible exact HB.out) | (with_reducible apply bAl) | (with_reducible apply bDr) | (with_reducible apply bDrN) | ((with_reducible refine bSt ?_ ?_ _); (first | (with_reducible assumption) | omega | (simp <;> omega))))⟩
  · skip
    by_cases n2 : 4096 < p.mem
    · have hE : checkS p = 2 := by
        unfold checkS
        rw [if_pos (by simp only [numbersB, withinB, Bool.or_eq_true, Bool.not_eq_true', Bool.and_eq_false_iff, decide_eq_false_iff_not, decide_eq_true_eq]; omega)]
      rw [hE]
      clear hE
      go_enter Try.func30, Try.ntmps30
      go_wp2
      go_ret
      exact ⟨rfl, by repeat (first | (with_reducible exact HB.out) | (with_reducible apply bAl) | (with_reducible apply bDr) | (with_reducible apply bDrN) | ((with_reducible refine bSt ?_ ?_ _); (first | (with_reducible assumption) | omega | (simp <;> omega))))⟩
    · skip
      by_cases n3 : (p.parts.length : Int) < 1
      · have hE : checkS p = 2 := by
          unfold checkS
          rw [if_pos (by simp only [numbersB, withinB, Bool.or_eq_true, Bool.not_eq_true', Bool.and_eq_false_iff, decide_eq_false_iff_not, decide_eq_true_eq]; omega)]
        rw [hE]
        clear hE
        go_enter Try.func30, Try.ntmps30
        go_wp2
        go_ret
        exact ⟨rfl, by repeat (first | (with_reducible exact HB.out) | (with_reducible apply bAl) | (with_reducible apply bDr) | (with_reducible apply bDrN) | ((with_reducible refine bSt ?_ ?_ _); (first | (with_reducible assumption) | omega | (simp <;> omega))))⟩
      · skip
        by_cases n4 : 8 < (p.parts.length : Int)
        · have hE : checkS p = 2 := by
            unfold checkS
            rw [if_pos (by simp only [numbersB, withinB, Bool.or_eq_true, Bool.not_eq_true', Bool.and_eq_false_iff, decide_eq_false_iff_not, decide_eq_true_eq]; omega)]
          rw [hE]
          clear hE
          go_enter Try.func30, Try.ntmps30
          go_wp2
          go_ret
          exact ⟨rfl, by repeat (first | (with_reducible exact HB.out) | (with_reducible apply bAl) | (with_reducible apply bDr) | (with_reducible apply bDrN) | ((with_reducible refine bSt ?_ ?_ _); (first | (with_reducible assumption) | omega | (simp <;> omega))))⟩
        · skip
          by_cases n5 : (p.wins.length : Int) < 1
          · have hE : checkS p = 2 := by
              unfold checkS
              rw [if_pos (by simp only [numbersB, withinB, Bool.or_eq_true, Bool.not_eq_true', Bool.and_eq_false_iff, decide_eq_false_iff_not, decide_eq_true_eq]; omega)]
            rw [hE]
            clear hE
            go_enter Try.func30, Try.ntmps30
            go_wp2
            go_ret
            exact ⟨rfl, by repeat (first | (with_reducible exact HB.out) | (with_reducible apply bAl) | (with_reducible apply bDr) | (with_reducible apply bDrN) | ((with_reducible refine bSt ?_ ?_ _); (first | (with_reducible assumption) | omega | (simp <;> omega))))⟩
          · skip
            by_cases n6 : 32 < (p.wins.length : Int)
            · have hE : checkS p = 2 := by
                unfold checkS
                rw [if_pos (by simp only [numbersB, withinB, Bool.or_eq_true, Bool.not_eq_true', Bool.and_eq_false_iff, decide_eq_false_iff_not, decide_eq_true_eq]; omega)]
              rw [hE]
              clear hE
              go_enter Try.func30, Try.ntmps30
              go_wp2
              go_ret
              exact ⟨rfl, by repeat (first | (with_reducible exact HB.out) | (with_reducible apply bAl) | (with_reducible apply bDr) | (with_reducible apply bDrN) | ((with_reducible refine bSt ?_ ?_ _); (first | (with_reducible assumption) | omega | (simp <;> omega))))⟩
            · skip
              by_cases n7 : 16 < (p.chans.length : Int)
              · have hE : checkS p = 2 := by
                  unfold checkS
                  rw [if_pos (by simp only [numbersB, withinB, Bool.or_eq_true, Bool.not_eq_true', Bool.and_eq_false_iff, decide_eq_false_iff_not, decide_eq_true_eq]; omega)]
                rw [hE]
                clear hE
                go_enter Try.func30, Try.ntmps30
                go_wp2
                go_ret
                exact ⟨rfl, by repeat (first | (with_reducible exact HB.out) | (with_reducible apply bAl) | (with_reducible apply bDr) | (with_reducible apply bDrN) | ((with_reducible refine bSt ?_ ?_ _); (first | (with_reducible assumption) | omega | (simp <;> omega))))⟩
              · skip
                have h0 : listErr p 0 = 0 := by
                  show (if numbersB p then (2 : Int) else 0) = 0
                  rw [if_neg (by simp only [numbersB, withinB, Bool.or_eq_true, Bool.not_eq_true', Bool.and_eq_false_iff, decide_eq_false_iff_not, decide_eq_true_eq]; omega)]
                have HL0 : Hid (∀ i, i < 0 + 1 → listErr p i = 0) := lstep (fun i hi => absurd hi (Nat.not_lt_zero _)) h0
                clear h0
                have hmem : 1 ≤ p.mem ∧ p.mem ≤ 4096 := by omega
                go_enter Try.func30, Try.ntmps30
                go_wp2_with fail
                go_loopw [3] (fun n wr => ∃ k : Nat, k ≤ p.parts.length ∧ n = .int .i64 k ∧ firstErr ((partErrs p).take k) = 0 ∧ Blk wr w.heap.size #[.int .i64 p.mem, .slice A p.parts.length a, .slice B p.wins.length b, .slice C p.chans.length c] 50 ∧ Below w.heap.size w wr) (fun n _ => p.parts.length - (intOf n).toNat)
                case atStart => exact ⟨0, by omega, rfl, rfl, by repeat (first | ((with_reducible apply Blk.newAt); (first | (with_reducible rfl) | (simp <;> omega))) | (with_reducible apply Blk.alloc) | (with_reducible apply Blk.drew) | (with_reducible apply Blk.set) | ((with_reducible refine Blk.setO ?_ ?_ _); (first | (with_reducible assumption) | omega | (simp <;> omega)))), by repeat (first | (with_reducible exact HB.out) | (with_reducible apply bAl) | (with_reducible apply bDr) | (with_reducible apply bDrN) | ((with_reducible refine bSt ?_ ?_ _); (first | (with_reducible assumption) | omega | (simp <;> omega))))⟩
                case round =>
                  obtain ⟨k, hk, rfl, hno, hBl, hbel⟩ := hrel
                  clear HB
                  have B0 := Lib.hid hBl
                  have HB := Lib.hid hbel
                  have HN := Lib.hid hno
                  have hsz := hbel.size
                  have c0 := (B0.out).cell; have f0 := (B0.out).froz; have l0 := (B0.out).lt
                  clear hBl hbel hno
                  by_cases hlt : k < p.parts.length
                  · have hlt' : (k : Int) < (p.parts.length : Int) := by omega
                    go_wp2_with fail
                    refine (refPart67 p A B C a b c k _ (HM.out.1.below (by repeat (first | (with_reducible exact HB.out) | (with_reducible apply bAl) | (with_reducible apply bDr) | (with_reducible apply bDrN) | ((with_reducible refine bSt ?_ ?_ _); (first | (with_reducible assumption) | omega | (simp <;> omega)))))) hlt HO.out hmem hn).mono ?_
                    rintro e w1 ⟨rfl, hb⟩
                    (replace B0 : Hid (Blk w1 (w.heap.size) _ _) := Blk.below (by repeat (first | (with_reducible exact B0.out) | ((with_reducible apply Blk.newAt); (first | (with_reducible rfl) | (simp <;> omega))) | (with_reducible apply Blk.alloc) | (with_reducible apply Blk.drew) | (with_reducible apply Blk.drewN) | (with_reducible apply Blk.set) | ((with_reducible apply Blk.setO); (first | (with_reducible assumption) | omega | (simp <;> omega))))) hb); (replace c0 := (B0.out).cell); (replace f0 := (B0.out).froz); (replace l0 := (B0.out).lt)
                    (replace HB : Hid (Below w.heap.size w w1) := bCall (by repeat (first | (with_reducible exact HB.out) | (with_reducible apply bAl) | (with_reducible apply bDr) | (with_reducible apply bDrN) | ((with_reducible refine bSt ?_ ?_ _); (first | (with_reducible assumption) | omega | (simp <;> omega))))) hb); clear hb; (have := HB.out.size)
                    by_cases he : partErr p k p.parts[k] = 0
                    · have hst := firstErr_step (l := partErrs p) (k := k) (by simp [partErrs]; omega) HN.out (by simp [partErrs, he])
                      have HST := Lib.hid hst
                      rw [he]
                      clear he hst
                      go_wp2
                      exact ⟨⟨k + 1, by omega, by go_num, HST.out, B0.out, HB.out⟩, by simp [intOf]; omega⟩
                    · have hE := checkS_at p 1 (partErrs p) (by decide) HL0.out rfl k (by simp [partErrs]; omega) HN.out (partErr p k p.parts[k]) (by simp [partErrs]) he
                      have HE := Lib.hid hE
                      generalize partErr p k p.parts[k] = er at *
                      have hbe : (er != 0) = true := by simp [he]
                      clear hE
                      go_wp2
                      go_ret
                      exact ⟨retInt HE.out.symm, HB.out⟩
                  · have hkk : k = p.parts.length := by omega
                    subst hkk
                    have h1 : listErr p 1 = 0 := by rw [listErr_take p 1 (partErrs p) rfl (p.parts.length) (by simp [partErrs])]; exact HN.out
                    have HL1 : Hid (∀ i, i < 1 + 1 → listErr p i = 0) := lstep HL0.out h1
                    clear h1 HN HL0
                    go_wp2_with fail
                    go_loopw [5, 6] (fun d n wr => ∃ k : Nat, k ≤ p.wins.length ∧ d = .bool ((p.wins.take k).any drainW) ∧ n = .int .i64 k ∧ firstErr ((winErrs p).take k) = 0 ∧ Blk wr w.heap.size #[.int .i64 p.mem, .slice A p.parts.length a, .slice B p.wins.length b, .slice C p.chans.length c] 50 ∧ Below w.heap.size w wr) (fun _ n _ => p.wins.length - (intOf n).toNat)
                    case atStart => exact ⟨0, by omega, rfl, rfl, rfl, B0.out, HB.out⟩
                    case round =>
                      obtain ⟨k, hk, rfl, rfl, hno, hBl, hbel⟩ := hrel
                      clear HB B0 c0 f0 l0
                      have B0 := Lib.hid hBl
                      have HB := Lib.hid hbel
                      have HN := Lib.hid hno
                      have hsz := hbel.size
                      have c0 := (B0.out).cell; have f0 := (B0.out).froz; have l0 := (B0.out).lt
                      clear hBl hbel hno
                      by_cases hlt : k < p.wins.length
                      · have hlt' : (k : Int) < (p.wins.length : Int) := by omega
                        obtain ⟨b', o', rfl, -⟩ := HM.out.2.1.win k hlt
                        have hs := (HM.out.2.1.below HB.out).winAt k hlt _ rfl
                        have hany : (p.wins.take (k + 1)).any drainW = ((p.wins.take k).any drainW || drainW p.wins[k]) := by
                          rw [List.take_succ_eq_append_getElem hlt, List.any_append]
                          simp
                        have hst : winErr p.parts.length p.wins[k] = 0 → firstErr ((winErrs p).take (k + 1)) = 0 := fun he => firstErr_step (l := winErrs p) (k := k) (by simp [winErrs]; omega) HN.out (by simp [winErrs, he])
                        have hat := fun (v : Int) (hv : winErr p.parts.length p.wins[k] = v) (h0 : v ≠ 0) => checkS_at p 2 (winErrs p) (by decide) HL1.out rfl k (by simp [winErrs]; omega) HN.out v (by simpa [winErrs] using hv) h0
                        generalize hxx : p.wins[k] = x at *
                        have HX := Lib.hid hxx
                        have HST := Lib.hid hst
                        have HAT := Lib.hid hat
                        have HAN := Lib.hid hany
                        obtain ⟨s0, s1⟩ := hs
                        clear hxx hst hat hany
                        have lx : b' < wr.heap.size := World.block_lt_of_cell? wr _ s0
                        by_cases v1 : x.part < -1
                        · have hE := HAT.out 1 (by unfold winErr; rw [if_pos (by simp only [winB0, withinB, Bool.not_eq_true', Bool.and_eq_false_iff, decide_eq_false_iff_not]; omega)]) (by decide)
                          have HE := Lib.hid hE
                          clear hE
                          go_wp2
                          go_ret
                          exact ⟨retInt HE.out.symm, by repeat (first | (with_reducible exact HB.out) | (with_reducible apply bAl) | (with_reducible apply bDr) | (with_reducible apply bDrN) | ((with_reducible refine bSt ?_ ?_ _); (first | (with_reducible assumption) | omega | (simp <;> omega))))⟩
                        · skip
                          by_cases v2 : (p.parts.length : Int) ≤ x.part
                          · have hE := HAT.out 1 (by unfold winErr; rw [if_pos (by simp only [winB0, withinB, Bool.not_eq_true', Bool.and_eq_false_iff, decide_eq_false_iff_not]; omega)]) (by decide)
                            have HE := Lib.hid hE
                            clear hE
                            go_wp2
                            go_ret
                            exact ⟨retInt HE.out.symm, by repeat (first | (with_reducible exact HB.out) | (with_reducible apply bAl) | (with_reducible apply bDr) | (with_reducible apply bDrN) | ((with_reducible refine bSt ?_ ?_ _); (first | (with_reducible assumption) | omega | (simp <;> omega))))⟩
                          · skip
                            by_cases v3 : x.ticks < 1
                            · have hE := HAT.out 2 (by unfold winErr; rw [if_neg (by simp only [winB0, withinB, Bool.not_eq_true', Bool.and_eq_false_iff, decide_eq_false_iff_not]; omega), if_pos (by simp only [winB1, withinB, Bool.not_eq_true', Bool.and_eq_false_iff, decide_eq_false_iff_not]; omega)]) (by decide)
                              have HE := Lib.hid hE
                              clear hE
                              go_wp2
                              go_ret
                              exact ⟨retInt HE.out.symm, by repeat (first | (with_reducible exact HB.out) | (with_reducible apply bAl) | (with_reducible apply bDr) | (with_reducible apply bDrN) | ((with_reducible refine bSt ?_ ?_ _); (first | (with_reducible assumption) | omega | (simp <;> omega))))⟩
                            · skip
                              by_cases v4 : 1000 < x.ticks
                              · have hE := HAT.out 2 (by unfold winErr; rw [if_neg (by simp only [winB0, withinB, Bool.not_eq_true', Bool.and_eq_false_iff, decide_eq_false_iff_not]; omega), if_pos (by simp only [winB1, withinB, Bool.not_eq_true', Bool.and_eq_false_iff, decide_eq_false_iff_not]; omega)]) (by decide)
                                have HE := Lib.hid hE
                                clear hE
                                go_wp2
                                go_ret
                                exact ⟨retInt HE.out.symm, by repeat (first | (with_reducible exact HB.out) | (with_reducible apply bAl) | (with_reducible apply bDr) | (with_reducible apply bDrN) | ((with_reducible refine bSt ?_ ?_ _); (first | (with_reducible assumption) | omega | (simp <;> omega))))⟩
                              · skip
                                have hE := HST.out (by unfold winErr; rw [if_neg (by simp only [winB0, withinB, Bool.not_eq_true', Bool.and_eq_false_iff, decide_eq_false_iff_not]; omega), if_neg (by simp only [winB1, withinB, Bool.not_eq_true', Bool.and_eq_false_iff, decide_eq_false_iff_not]; omega)])
                                have HE := Lib.hid hE
                                clear hE
                                cases hd : (p.wins.take k).any drainW
                                · have HD := Lib.hid hd
                                  clear hd
                                  by_cases hp : x.part = -1
                                  · have hpb : (x.part == -1) = true := by simp [hp]
                                    have HPB := Lib.hid hp
                                    clear hp
                                    go_wp2
                                    exact ⟨⟨k + 1, by omega, by rw [HAN.out, HD.out]; simp [drainW, HPB.out], by go_num, HE.out, by repeat (first | (with_reducible exact B0.out) | ((with_reducible apply Blk.newAt); (first | (with_reducible rfl) | (simp <;> omega))) | (with_reducible apply Blk.alloc) | (with_reducible apply Blk.drew) | (with_reducible apply Blk.drewN) | (with_reducible apply Blk.set) | ((with_reducible apply Blk.setO); (first | (with_reducible assumption) | omega | (simp <;> omega)))), by repeat (first | (with_reducible exact HB.out) | (with_reducible apply bAl) | (with_reducible apply bDr) | (with_reducible apply bDrN) | ((with_reducible refine bSt ?_ ?_ _); (first | (with_reducible assumption) | omega | (simp <;> omega))))⟩, by simp [intOf]; omega⟩
                                  · have hpb : (x.part == -1) = false := by simp [hp]
                                    have HPB := Lib.hid hp
                                    clear hp
                                    go_wp2
                                    exact ⟨⟨k + 1, by omega, by rw [HAN.out, HD.out]; simp [drainW, HPB.out], by go_num, HE.out, by repeat (first | (with_reducible exact B0.out) | ((with_reducible apply Blk.newAt); (first | (with_reducible rfl) | (simp <;> omega))) | (with_reducible apply Blk.alloc) | (with_reducible apply Blk.drew) | (with_reducible apply Blk.drewN) | (with_reducible apply Blk.set) | ((with_reducible apply Blk.setO); (first | (with_reducible assumption) | omega | (simp <;> omega)))), by repeat (first | (with_reducible exact HB.out) | (with_reducible apply bAl) | (with_reducible apply bDr) | (with_reducible apply bDrN) | ((with_reducible refine bSt ?_ ?_ _); (first | (with_reducible assumption) | omega | (simp <;> omega))))⟩, by simp [intOf]; omega⟩
                                · have HD := Lib.hid hd
                                  clear hd
                                  go_wp2
                                  exact ⟨⟨k + 1, by omega, by rw [HAN.out, HD.out]; rfl, by go_num, HE.out, by repeat (first | (with_reducible exact B0.out) | ((with_reducible apply Blk.newAt); (first | (with_reducible rfl) | (simp <;> omega))) | (with_reducible apply Blk.alloc) | (with_reducible apply Blk.drew) | (with_reducible apply Blk.drewN) | (with_reducible apply Blk.set) | ((with_reducible apply Blk.setO); (first | (with_reducible assumption) | omega | (simp <;> omega)))), by repeat (first | (with_reducible exact HB.out) | (with_reducible apply bAl) | (with_reducible apply bDr) | (with_reducible apply bDrN) | ((with_reducible refine bSt ?_ ?_ _); (first | (with_reducible assumption) | omega | (simp <;> omega))))⟩, by simp [intOf]; omega⟩
                      · have hkk : k = p.wins.length := by omega
                        subst hkk
                        have h2 : listErr p 2 = 0 := by rw [listErr_take p 2 (winErrs p) rfl (p.wins.length) (by simp [winErrs])]; exact HN.out
                        have HL2 : Hid (∀ i, i < 2 + 1 → listErr p i = 0) := lstep HL1.out h2
                        have htr : traceB p = !p.wins.any drainW := drains_any p.wins (winOks h2)
                        clear h2 HN HL1
                        rw [List.take_length]
                        cases hd : p.wins.any drainW
                        · rw [hd] at htr
                          have hE := checkS_at p 3 [if traceB p then (7 : Int) else 0] (by decide) HL2.out (by simp [listErr, firstErr]) 0 (by simp) rfl 7 (by simp [htr]) (by decide)
                          have HE := Lib.hid hE
                          clear hE hd htr
                          go_wp2
                          go_ret
                          exact ⟨retInt HE.out.symm, HB.out⟩
                        · rw [hd] at htr
                          have h3 : listErr p 3 = 0 := by simp [listErr, htr]
                          have HL3 : Hid (∀ i, i < 3 + 1 → listErr p i = 0) := lstep HL2.out h3
                          clear h3 HL2 hd htr
                          go_wp2_with fail
                          go_loopw [8] (fun n wr => ∃ k : Nat, k ≤ p.chans.length ∧ n = .int .i64 k ∧ firstErr ((chanErrs p).take k) = 0 ∧ Blk wr w.heap.size #[.int .i64 p.mem, .slice A p.parts.length a, .slice B p.wins.length b, .slice C p.chans.length c] 50 ∧ Below w.heap.size w wr) (fun n _ => p.chans.length - (intOf n).toNat)
                          case atStart => exact ⟨0, by omega, rfl, rfl, B0.out, HB.out⟩
                          case round =>
                            obtain ⟨k, hk, rfl, hno, hBl, hbel⟩ := hrel
                            clear HB B0 c0 f0 l0
                            have B0 := Lib.hid hBl
                            have HB := Lib.hid hbel
                            have HN := Lib.hid hno
                            have hsz := hbel.size
                            have c0 := (B0.out).cell; have f0 := (B0.out).froz; have l0 := (B0.out).lt
                            clear hBl hbel hno
                            by_cases hlt : k < p.chans.length
                            · have hlt' : (k : Int) < (p.chans.length : Int) := by omega
                              obtain ⟨b', o', rfl, -⟩ := HM.out.2.2.chan k hlt
                              have hs : wr.cell? ⟨b', o' + k * 5, none⟩ = some (.int .i64 p.chans[k].kind) ∧ wr.cell? ⟨b', o' + k * 5 + 1, none⟩ = some (.int .i64 p.chans[k].from_) ∧ wr.cell? ⟨b', o' + k * 5 + 2, none⟩ = some (.int .i64 p.chans[k].to_) ∧ wr.cell? ⟨b', o' + k * 5 + 3, none⟩ = some (.int .i64 p.chans[k].size) ∧ wr.cell? ⟨b', o' + k * 5 + 4, none⟩ = some (.int .i64 p.chans[k].depth) := (HM.out.2.2.below HB.out).chanAt k hlt _ rfl
                              have hst : chanErr p.parts.length p.chans[k] = 0 → firstErr ((chanErrs p).take (k + 1)) = 0 := fun he => firstErr_step (l := chanErrs p) (k := k) (by simp [chanErrs]; omega) HN.out (by simp [chanErrs, he])
                              have hat := fun (he : chanErr p.parts.length p.chans[k] ≠ 0) => checkS_at p 4 (chanErrs p) (by decide) HL3.out rfl k (by simp [chanErrs]; omega) HN.out (chanErr p.parts.length p.chans[k]) (by simp [chanErrs]) he
                              generalize hxx : p.chans[k] = x at *
                              have HX := Lib.hid hxx
                              have HST := Lib.hid hst
                              have HAT := Lib.hid hat
                              obtain ⟨s0, s1, s2, s3, s4⟩ := hs
                              clear hxx hst hat
                              have lx : b' < wr.heap.size := World.block_lt_of_cell? wr _ s0
                              go_wp2_with fail
                              go_region_held3 (fun w' => (∀ j, w'.cell? ⟨w.heap.size, j, none⟩ = (#[.int .i64 p.mem, .slice A p.parts.length a, .slice B p.wins.length b, .slice (some ⟨b', o', none⟩) p.chans.length c] : Array Value)[j]?) ∧ w'.cell? ⟨b', o' + k * 5, none⟩ = some (.int .i64 x.kind) ∧ w'.cell? ⟨b', o' + k * 5 + 1, none⟩ = some (.int .i64 x.from_) ∧ w'.cell? ⟨b', o' + k * 5 + 2, none⟩ = some (.int .i64 x.to_) ∧ w'.cell? ⟨b', o' + k * 5 + 3, none⟩ = some (.int .i64 x.size) ∧ w'.cell? ⟨b', o' + k * 5 + 4, none⟩ = some (.int .i64 x.depth)) (exact ⟨Blk.cell (by repeat (first | (with_reducible exact B0.out) | ((with_reducible apply Blk.newAt); (first | (with_reducible rfl) | (simp <;> omega))) | (with_reducible apply Blk.alloc) | (with_reducible apply Blk.drew) | (with_reducible apply Blk.drewN) | (with_reducible apply Blk.set) | ((with_reducible apply Blk.setO); (first | (with_reducible assumption) | omega | (simp <;> omega))))), (HM.out.2.2.below (by repeat (first | (with_reducible exact HB.out) | (with_reducible apply bAl) | (with_reducible apply bDr) | (with_reducible apply bDrN) | ((with_reducible refine bSt ?_ ?_ _); (first | (with_reducible assumption) | omega | (simp <;> omega)))))).chanAt k hlt x HX.out⟩) (first | (go_at_call 68; refine (refChan68 p A B (some ⟨b', o', none⟩) a b c x _).mono ?_; rintro e v1 ⟨rfl, hb⟩; (replace B0 : Hid (Blk v1 (w.heap.size) _ _) := Blk.below (by repeat (first | (with_reducible exact B0.out) | ((with_reducible apply Blk.newAt); (first | (with_reducible rfl) | (simp <;> omega))) | (with_reducible apply Blk.alloc) | (with_reducible apply Blk.drew) | (with_reducible apply Blk.drewN) | (with_reducible apply Blk.set) | ((with_reducible apply Blk.setO); (first | (with_reducible assumption) | omega | (simp <;> omega))))) hb); (replace c0 := (B0.out).cell); (replace f0 := (B0.out).froz); (replace l0 := (B0.out).lt); (replace HB : Hid (Below w.heap.size w v1) := bCall (by repeat (first | (with_reducible exact HB.out) | (with_reducible apply bAl) | (with_reducible apply bDr) | (with_reducible apply bDrN) | ((with_reducible refine bSt ?_ ?_ _); (first | (with_reducible assumption) | omega | (simp <;> omega))))) hb); clear hb; (have := HB.out.size)))
                              by_cases he : chanErr p.parts.length x = 0
                              · have HE := Lib.hid (HST.out he)
                                rw [he]
                                clear he
                                go_wp2
                                exact ⟨⟨k + 1, by omega, by go_num, HE.out, B0.out, HB.out⟩, by simp [intOf]; omega⟩
                              · have HE := Lib.hid (HAT.out he)
                                clear HST HAT
                                generalize chanErr p.parts.length x = er at *
                                have hbe : (er != 0) = true := by simp [he]
                                go_wp2
                                go_ret
                                exact ⟨retInt HE.out.symm, HB.out⟩
                            · have hkk : k = p.chans.length := by omega
                              subst hkk
                              have h4 : listErr p 4 = 0 := by rw [listErr_take p 4 (chanErrs p) rfl (p.chans.length) (by simp [chanErrs])]; exact HN.out
                              have hE : checkS p = 0 := checkS_none p (lstep HL3.out h4)
                              have HE := Lib.hid hE
                              clear h4 hE
                              go_wp2
                              go_ret
                              exact ⟨retInt HE.out.symm, HB.out⟩
end Go.Proofs.Ytlegpbookbghbaa
