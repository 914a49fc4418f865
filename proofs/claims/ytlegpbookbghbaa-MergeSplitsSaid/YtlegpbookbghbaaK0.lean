/- MergeSplits answers true: the walk; the rings lie in memory. -/
import Derived.Test.YtlegpbookbghbaaJ9
set_option linter.unusedVariables false
set_option linter.unusedSimpArgs false
namespace Go.Proofs.Ytlegpbookbghbaa
open Go.RowKit

set_option maxRecDepth 100000 in set_option maxHeartbeats 4000000 in
theorem mergeSplits14 (l : List RingM) (A : Option Addr) (c : Nat) (a b : Int) (w : World) (hA : RingsR w A l) :
    Calls Try.prog 14 #[.slice A l.length c, .int .i64 a, .int .i64 b] w fun e w' => e = .returned (.bool true) ∧ Below w.heap.size w w' := by
  have HA := Lib.hid hA
  have HB : Hid (Below w.heap.size w w) := Below.refl _ _
  clear hA
  by_cases hbad : a < 0 ∨ b < 0 ∨ 400 < a ∨ 400 < b
  · go_enter Try.func14, Try.ntmps14
    go_wp2_with fail
    refine (big48 A c l _ HA.out).mono ?_
    rintro e w1 ⟨rfl | ⟨rfl, -, -⟩, hb⟩
    · (replace HB : Hid (Below w.heap.size w w1) := bCall (by repeat (first | (with_reducible exact HB.out) | (with_reducible apply bAl) | (with_reducible apply bDr) | (with_reducible apply bDrN) | ((with_reducible refine bSt ?_ ?_ _); (first | (with_reducible assumption) | omega | (simp <;> omega))))) hb); clear hb; (have := HB.out.size)
      go_wp2_with fail
      (refine (merged49 _).mono ?_; rintro e w2 ⟨rfl, hb⟩; (replace HB : Hid (Below w.heap.size w w2) := bCall (by repeat (first | (with_reducible exact HB.out) | (with_reducible apply bAl) | (with_reducible apply bDr) | (with_reducible apply bDrN) | ((with_reducible refine bSt ?_ ?_ _); (first | (with_reducible assumption) | omega | (simp <;> omega))))) hb); clear hb; (have := HB.out.size))
      go_wp2
      go_ret
      exact ⟨rfl, HB.out⟩
    · (replace HB : Hid (Below w.heap.size w w1) := bCall (by repeat (first | (with_reducible exact HB.out) | (with_reducible apply bAl) | (with_reducible apply bDr) | (with_reducible apply bDrN) | ((with_reducible refine bSt ?_ ?_ _); (first | (with_reducible assumption) | omega | (simp <;> omega))))) hb); clear hb; (have := HB.out.size)
      rcases hbad with h1 | h1 | h1 | h1
      all_goals go_wp2_with fail
      all_goals (refine (merged49 _).mono ?_; rintro e w2 ⟨rfl, hb⟩; (replace HB : Hid (Below w.heap.size w w2) := bCall (by repeat (first | (with_reducible exact HB.out) | (with_reducible apply bAl) | (with_reducible apply bDr) | (with_reducible apply bDrN) | ((with_reducible refine bSt ?_ ?_ _); (first | (with_reducible assumption) | omega | (simp <;> omega))))) hb); clear hb; (have := HB.out.size))
      all_goals go_wp2
      all_goals go_ret
      all_goals exact ⟨rfl, HB.out⟩
  · obtain ⟨na, rfl⟩ := Int.eq_ofNat_of_zero_le (a := a) (by omega)
    obtain ⟨nb, rfl⟩ := Int.eq_ofNat_of_zero_le (a := b) (by omega)
    have ha : na ≤ 400 := by omega
    have hb4 : nb ≤ 400 := by omega
    have ha' : (na : Int) ≤ 400 := by omega
    have hb' : (nb : Int) ≤ 400 := by omega
    clear hbad
    go_enter Try.func14, Try.ntmps14
    go_wp2_with fail
    refine (big48 A c l _ HA.out).mono ?_
    rintro e w1 ⟨rfl | ⟨rfl, h40, h200⟩, hb⟩
    · (replace HB : Hid (Below w.heap.size w w1) := bCall (by repeat (first | (with_reducible exact HB.out) | (with_reducible apply bAl) | (with_reducible apply bDr) | (with_reducible apply bDrN) | ((with_reducible refine bSt ?_ ?_ _); (first | (with_reducible assumption) | omega | (simp <;> omega))))) hb); clear hb; (have := HB.out.size)
      go_wp2_with fail
      (refine (merged49 _).mono ?_; rintro e w2 ⟨rfl, hb⟩; (replace HB : Hid (Below w.heap.size w w2) := bCall (by repeat (first | (with_reducible exact HB.out) | (with_reducible apply bAl) | (with_reducible apply bDr) | (with_reducible apply bDrN) | ((with_reducible refine bSt ?_ ?_ _); (first | (with_reducible assumption) | omega | (simp <;> omega))))) hb); clear hb; (have := HB.out.size))
      go_wp2
      go_ret
      exact ⟨rfl, HB.out⟩
    · (replace HB : Hid (Below w.heap.size w w1) := bCall (by repeat (first | (with_reducible exact HB.out) | (with_reducible apply bAl) | (with_reducible apply bDr) | (with_reducible apply bDrN) | ((with_reducible refine bSt ?_ ?_ _); (first | (with_reducible assumption) | omega | (simp <;> omega))))) hb); clear hb; (have := HB.out.size)
      have HL : Hid (∀ p ∈ l, p.r.L.length ≤ 1000) := fun p hp => Nat.le_trans (h200 p hp) (by decide)
      have h3 := drainM_split (rings l) na nb ha hb4
      have h4 := drainM_none (rings l)
      have h5 := drainM_held (rings l) na
      have h6 := drainM_all (rings l) 1000 na (fun r hr => by obtain ⟨p, hp, rfl⟩ := List.mem_map.1 hr; exact HL.out p hp)
      have h7 := drainM_len (rings l) na
      have h8 := drainM_len1 (rings l) na
      have h9 := drainM_len1 (drainM (rings l) na).2 nb
      have h10 := heldL_le (drainM (rings l) na).2
      have h11 := drainM_all (drainM (rings l) na).2 1000 nb h6
      have h12 := drainM_len (drainM (rings l) na).2 nb
      have hrl : (rings l).length = l.length := by simp [rings]
      have hD1 : ∀ W, RingsR W A l → Calls Try.prog 50 #[.slice A l.length c, .int .i64 na] W (DrainPost W (drainM (rings l) na)) := fun W hW => drain50 A c l na W hW (by omega) HL.out
      have hD2 : ∀ W A' c' ps, rings ps = (drainM (rings l) na).2 → RingsR W A' ps → Calls Try.prog 50 #[.slice A' ps.length c', .int .i64 nb] W (DrainPost W (drainM (drainM (rings l) na).2 nb)) := fun W A' c' ps hp hW => by
        have hpl : ps.length = l.length := by
          have h0 : (rings ps).length = ps.length := by simp [rings]
          rw [hp] at h0
          omega
        have h := drain50 A' c' ps nb W hW (by omega) (fun p hq => h6 p.r (by rw [← hp]; exact List.mem_map_of_mem hq))
        rw [hp] at h
        exact h
      have hD3 : ∀ W, RingsR W A l → Calls Try.prog 50 #[.slice A l.length c, .int .i64 ((na : Int) + (nb : Int))] W (DrainPost W ((drainM (rings l) na).1 ++ (drainM (drainM (rings l) na).2 nb).1, (drainM (drainM (rings l) na).2 nb).2)) := fun W hW => by
        have h := drain50 A c l (na + nb) W hW (by omega) HL.out
        rw [h3] at h
        exact h
      have hD4 : ∀ W, RingsR W A l → Calls Try.prog 50 #[.slice A l.length c, .int .i64 0] W (DrainPost W ([], rings l)) := fun W hW => by
        have h := drain50 A c l 0 W hW (by omega) HL.out
        rw [h4] at h
        exact h
      have hH1 : ∀ W, RingsR W A l → Calls Try.prog 52 #[.slice A l.length c] W fun e w' => e = .returned (.int .i64 (((drainM (rings l) na).1.length : Int) + (heldL (drainM (rings l) na).2 : Int))) ∧ Below W.heap.size W w' := fun W hW => by
        have h := held52 A c l W hW (by omega)
        rw [h5] at h
        exact h
      have hl40 : (drainM (rings l) na).2.length ≤ 40 := by omega
      have hl41 : (drainM (drainM (rings l) na).2 nb).2.length ≤ 40 := by omega
      generalize drainM (rings l) na = D1 at *
      obtain ⟨xs, q1⟩ := D1
      dsimp only at *
      generalize drainM q1 nb = D2 at *
      obtain ⟨ys, q2⟩ := D2
      dsimp only at *
      have hh1 : heldL q1 ≤ 2600 := by omega
      have HD1 := Lib.hid hD1
      have HD2 := Lib.hid hD2
      have HD3 := Lib.hid hD3
      have HD4 := Lib.hid hD4
      have HH1 := Lib.hid hH1
      have H6 := Lib.hid h6
      have HQL := Lib.hid hl40
      have HX := Lib.hid h8
      have HY := Lib.hid h9
      have H40 := Lib.hid h40
      have H11 := Lib.hid h11
      have HQ2 := Lib.hid hl41
      clear hD1 hD2 hD3 hD4 hH1 h3 h4 h5 h6 h7 h9 h10 h11 h12 hrl hl40 hl41 h200 h40
      have HA1 := Lib.hid (HA.out.below HB.out)
      go_wp2_with fail
      refine (HD1.out _ HA1.out).mono ?_
      rintro e w2 ⟨Ax, cx, Am, cm, ms, rfl, hm1, -, hx1, -, hm2, hb⟩
      have HX1 := Lib.hid hx1.rd
      have HM1 := Lib.hid hm1
      have HM2 := Lib.hid hm2.rings
      have HA2 := Lib.hid (HA1.out.below hb)
      clear hx1 hm1 hm2
      (replace HB : Hid (Below w.heap.size w w2) := bCall (by repeat (first | (with_reducible exact HB.out) | (with_reducible apply bAl) | (with_reducible apply bDr) | (with_reducible apply bDrN) | ((with_reducible refine bSt ?_ ?_ _); (first | (with_reducible assumption) | omega | (simp <;> omega))))) hb); clear hb; (have := HB.out.size)
      go_wp2_with fail
      refine (HD2.out _ _ _ ms HM1.out HM2.out).mono ?_
      rintro e w3 ⟨Ay, cy, An, cn, ns, rfl, hn1, -, hy1, -, hn2, hb⟩
      have HX2 := Lib.hid (HX1.out.below hb)
      have HM3 := Lib.hid (HM2.out.below hb)
      have HA3 := Lib.hid (HA2.out.below hb)
      have HY1 := Lib.hid hy1.rd
      have HN1 := Lib.hid hn1
      have HN2 := Lib.hid hn2.rings
      clear hy1 hn1 hn2
      (replace HB : Hid (Below w.heap.size w w3) := bCall (by repeat (first | (with_reducible exact HB.out) | (with_reducible apply bAl) | (with_reducible apply bDr) | (with_reducible apply bDrN) | ((with_reducible refine bSt ?_ ?_ _); (first | (with_reducible assumption) | omega | (simp <;> omega))))) hb); clear hb; (have := HB.out.size)
      go_wp2_with fail
      refine (HD3.out _ HA3.out).mono ?_
      rintro e w4 ⟨Az, cz, Ao, co, os, rfl, ho1, -, hz1, -, ho2, hb⟩
      have HX3 := Lib.hid (HX2.out.below hb)
      have HM4 := Lib.hid (HM3.out.below hb)
      have HA4 := Lib.hid (HA3.out.below hb)
      have HY2 := Lib.hid (HY1.out.below hb)
      have HN3 := Lib.hid (HN2.out.below hb)
      have HZ1 := Lib.hid hz1.rd
      have HO1 := Lib.hid ho1
      have HO2 := Lib.hid ho2.rings
      clear hz1 ho1 ho2
      (replace HB : Hid (Below w.heap.size w w4) := bCall (by repeat (first | (with_reducible exact HB.out) | (with_reducible apply bAl) | (with_reducible apply bDr) | (with_reducible apply bDrN) | ((with_reducible refine bSt ?_ ?_ _); (first | (with_reducible assumption) | omega | (simp <;> omega))))) hb); clear hb; (have := HB.out.size)
      go_wp2_with fail
      refine (HD4.out _ HA4.out).mono ?_
      rintro e w5 ⟨Ae, ce, As, cs, ss, rfl, hs1, -, -, -, hs2, hb⟩
      have HX4 := Lib.hid (HX3.out.below hb)
      have HM5 := Lib.hid (HM4.out.below hb)
      have HA5 := Lib.hid (HA4.out.below hb)
      have HY3 := Lib.hid (HY2.out.below hb)
      have HN4 := Lib.hid (HN3.out.below hb)
      have HZ2 := Lib.hid (HZ1.out.below hb)
      have HO3 := Lib.hid (HO2.out.below hb)
      have HS1 := Lib.hid hs1
      have HS2 := Lib.hid hs2.rings
      clear hs1 hs2
      (replace HB : Hid (Below w.heap.size w w5) := bCall (by repeat (first | (with_reducible exact HB.out) | (with_reducible apply bAl) | (with_reducible apply bDr) | (with_reducible apply bDrN) | ((with_reducible refine bSt ?_ ?_ _); (first | (with_reducible assumption) | omega | (simp <;> omega))))) hb); clear hb; (have := HB.out.size)
      dsimp only [List.length_nil]
      obtain ⟨v1, w6, r1, o1, b1⟩ := append22 w5 w5.heap.size (.slice none 0 0) [] (own0Start w5 w5.heap.size none) Ax cx xs HX4.out (by have := HX.out; simp only [List.length_nil]; omega) (Nat.le_refl _)
      simp only [List.nil_append] at o1
      obtain ⟨v2, w7, r2, o2, b2⟩ := append22 w6 w5.heap.size v1 xs o1 Ay cy ys (HY3.out.below b1) (by have := HX.out; have := HY.out; omega) b1.size
      obtain ⟨A', c', rfl, -, hR⟩ := RdN.ofOwn0 o2
      have hb := b1.trans b2
      have HM6 := Lib.hid (HM5.out.below hb)
      have HA6 := Lib.hid (HA5.out.below hb)
      have HN5 := Lib.hid (HN4.out.below hb)
      have HZ3 := Lib.hid (HZ2.out.below hb)
      have HO4 := Lib.hid (HO3.out.below hb)
      have HS3 := Lib.hid (HS2.out.below hb)
      have HR := Lib.hid hR.rd
      have R1 := Lib.hid r1
      have R2 := Lib.hid r2
      clear r1 r2 o1 o2 b1 b2 hR
      (replace HB : Hid (Below w.heap.size w w7) := bCall (by repeat (first | (with_reducible exact HB.out) | (with_reducible apply bAl) | (with_reducible apply bDr) | (with_reducible apply bDrN) | ((with_reducible refine bSt ?_ ?_ _); (first | (with_reducible assumption) | omega | (simp <;> omega))))) hb); clear hb; (have := HB.out.size)
      go_wp2_with (first | (at_builtin; refine wpList_append_run (v := .slice none 0 0) (u := .slice Ax xs.length cx) (by rfl) (.tmp 60) (.tmp 61) 22 (by rfl) (by rfl) (by rfl) R1.out ?_) | (at_builtin; refine wpList_append_run (v := v1) (u := .slice Ay ys.length cy) (by rfl) (.tmp 63) (.tmp 64) 22 (by rfl) (by rfl) (by rfl) R2.out ?_))
      refine (merged49 _).mono ?_
      rintro e w8 ⟨rfl, hb⟩
      (replace HR := Lib.hid (HR.out.below hb)); (replace HM6 := Lib.hid (HM6.out.below hb)); (replace HA6 := Lib.hid (HA6.out.below hb)); (replace HN5 := Lib.hid (HN5.out.below hb)); (replace HZ3 := Lib.hid (HZ3.out.below hb)); (replace HO4 := Lib.hid (HO4.out.below hb)); (replace HS3 := Lib.hid (HS3.out.below hb))
      (replace HB : Hid (Below w.heap.size w w8) := bCall (by repeat (first | (with_reducible exact HB.out) | (with_reducible apply bAl) | (with_reducible apply bDr) | (with_reducible apply bDrN) | ((with_reducible refine bSt ?_ ?_ _); (first | (with_reducible assumption) | omega | (simp <;> omega))))) hb); clear hb; (have := HB.out.size)
      go_wp2_with fail
      have hE : ∀ W, Rd W A' (entCells (xs ++ ys)) → Rd W Az (entCells (xs ++ ys)) → Calls Try.prog 26 #[.slice A' (xs.length + ys.length) c', .slice Az (xs.length + ys.length) cz] W fun e w' => e = .returned (.bool true) ∧ Below W.heap.size W w' := fun W h1 h2 => by
        have h := entriesSelf A' c' (xs ++ ys) Az cz W h1 h2 (by rw [List.length_append]; have := HX.out; have := HY.out; omega)
        rw [List.length_append] at h
        exact h
      refine (hE _ HR.out HZ3.out).mono ?_
      rintro e w9 ⟨rfl, hb⟩
      clear hE
      (replace HR := Lib.hid (HR.out.below hb)); (replace HM6 := Lib.hid (HM6.out.below hb)); (replace HA6 := Lib.hid (HA6.out.below hb)); (replace HN5 := Lib.hid (HN5.out.below hb)); (replace HZ3 := Lib.hid (HZ3.out.below hb)); (replace HO4 := Lib.hid (HO4.out.below hb)); (replace HS3 := Lib.hid (HS3.out.below hb))
      (replace HB : Hid (Below w.heap.size w w9) := bCall (by repeat (first | (with_reducible exact HB.out) | (with_reducible apply bAl) | (with_reducible apply bDr) | (with_reducible apply bDrN) | ((with_reducible refine bSt ?_ ?_ _); (first | (with_reducible assumption) | omega | (simp <;> omega))))) hb); clear hb; (have := HB.out.size)
      go_wp2_with fail
      refine (same51 An cn ns Ao co os _ HN5.out HO4.out (HN1.out.trans HO1.out.symm) ?_ ?_).mono ?_
      · have h0 : (rings ns).length = ns.length := by simp [rings]
        rw [HN1.out] at h0
        have := HQ2.out
        omega
      · exact fun p hp => H11.out p.r (by rw [← HN1.out]; exact List.mem_map_of_mem hp)
      rintro e w10 ⟨rfl, hb⟩
      (replace HR := Lib.hid (HR.out.below hb)); (replace HM6 := Lib.hid (HM6.out.below hb)); (replace HA6 := Lib.hid (HA6.out.below hb)); (replace HN5 := Lib.hid (HN5.out.below hb)); (replace HZ3 := Lib.hid (HZ3.out.below hb)); (replace HO4 := Lib.hid (HO4.out.below hb)); (replace HS3 := Lib.hid (HS3.out.below hb))
      (replace HB : Hid (Below w.heap.size w w10) := bCall (by repeat (first | (with_reducible exact HB.out) | (with_reducible apply bAl) | (with_reducible apply bDr) | (with_reducible apply bDrN) | ((with_reducible refine bSt ?_ ?_ _); (first | (with_reducible assumption) | omega | (simp <;> omega))))) hb); clear hb; (have := HB.out.size)
      go_wp2_with fail
      refine (same51 A c l As cs ss _ HA6.out HS3.out HS1.out.symm (by have := H40.out; omega) HL.out).mono ?_
      rintro e w11 ⟨rfl, hb⟩
      (replace HR := Lib.hid (HR.out.below hb)); (replace HM6 := Lib.hid (HM6.out.below hb)); (replace HA6 := Lib.hid (HA6.out.below hb)); (replace HN5 := Lib.hid (HN5.out.below hb)); (replace HZ3 := Lib.hid (HZ3.out.below hb)); (replace HO4 := Lib.hid (HO4.out.below hb)); (replace HS3 := Lib.hid (HS3.out.below hb))
      (replace HB : Hid (Below w.heap.size w w11) := bCall (by repeat (first | (with_reducible exact HB.out) | (with_reducible apply bAl) | (with_reducible apply bDr) | (with_reducible apply bDrN) | ((with_reducible refine bSt ?_ ?_ _); (first | (with_reducible assumption) | omega | (simp <;> omega))))) hb); clear hb; (have := HB.out.size)
      go_wp2_with fail
      refine (HH1.out _ HA6.out).mono ?_
      rintro e w12 ⟨rfl, hb⟩
      (replace HR := Lib.hid (HR.out.below hb)); (replace HM6 := Lib.hid (HM6.out.below hb)); (replace HA6 := Lib.hid (HA6.out.below hb)); (replace HN5 := Lib.hid (HN5.out.below hb)); (replace HZ3 := Lib.hid (HZ3.out.below hb)); (replace HO4 := Lib.hid (HO4.out.below hb)); (replace HS3 := Lib.hid (HS3.out.below hb))
      (replace HB : Hid (Below w.heap.size w w12) := bCall (by repeat (first | (with_reducible exact HB.out) | (with_reducible apply bAl) | (with_reducible apply bDr) | (with_reducible apply bDrN) | ((with_reducible refine bSt ?_ ?_ _); (first | (with_reducible assumption) | omega | (simp <;> omega))))) hb); clear hb; (have := HB.out.size)
      go_wp2_with fail
      have hH : ∀ W, RingsR W Am ms → Calls Try.prog 52 #[.slice Am ms.length cm] W fun e w' => e = .returned (.int .i64 (heldL q1)) ∧ Below W.heap.size W w' := fun W hW => by
        have h0 : (rings ms).length = ms.length := by simp [rings]
        rw [HM1.out] at h0
        have h := held52 Am cm ms W hW (by have := HQL.out; omega)
        rw [HM1.out] at h
        exact h
      refine (hH _ HM6.out).mono ?_
      rintro e w13 ⟨rfl, hb⟩
      clear hH
      (replace HB : Hid (Below w.heap.size w w13) := bCall (by repeat (first | (with_reducible exact HB.out) | (with_reducible apply bAl) | (with_reducible apply bDr) | (with_reducible apply bDrN) | ((with_reducible refine bSt ?_ ?_ _); (first | (with_reducible assumption) | omega | (simp <;> omega))))) hb); clear hb; (have := HB.out.size)
      go_wp2
      go_ret
      exact ⟨rfl, HB.out⟩
end Go.Proofs.Ytlegpbookbghbaa
