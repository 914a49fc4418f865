/- The rules of a plan that lay a variable of their own: the closures; the plan lies in memory. -/
import Derived.Test.YtlegpbookbghbaaD3
set_option linter.unusedVariables false
set_option linter.unusedSimpArgs false
namespace Go.Proofs.Ytlegpbookbghbaa
open Go.RowKit

set_option maxRecDepth 100000 in set_option maxHeartbeats 1000000 in
theorem part87 (p : PlanS) (A B C : Option Addr) (a b c : Nat) (kb ka at_ : Nat) (i : Nat) (w : World) (c0 : ∀ j, w.cell? ⟨kb, j, none⟩ = (#[.int .i64 p.mem, .slice A p.parts.length a, .slice B p.wins.length b, .slice C p.chans.length c] : Array Value)[j]?) (c1 : w.cell? ⟨ka, 0, none⟩ = some (.pointer (some ⟨at_, 0, none⟩))) (c2 : w.cell? ⟨at_, 0, none⟩ = some (.int .i64 i)) (hA : Rd w A (partCells p.parts)) (hi : i < p.parts.length) (hm : 1 ≤ p.mem ∧ p.mem ≤ 4096) (ho : p.parts[i].Ok) :
    Calls Try.prog 87 #[.pointer (some ⟨kb, 0, none⟩), .pointer (some ⟨ka, 0, none⟩)] w fun e w' => e = .returned (.bool (partB0 p.mem p.parts[i])) ∧ Below w.heap.size w w' := by
  have hu50 := Try.underlying50
  have hu55 := Try.underlying55
  obtain ⟨b', o', rfl, s0, s1, s2, s3, s4, s5⟩ := hA.part i hi
  have hi' : (i : Int) < (p.parts.length : Int) := by omega
  obtain ⟨o1, o2⟩ := ho.base
  obtain ⟨o3, o4⟩ := ho.size
  obtain ⟨m1, m2⟩ := hm
  have lb : kb < w.heap.size := World.block_lt_of_cell? w _ ((c0 0).trans rfl)
  have la : ka < w.heap.size := World.block_lt_of_cell? w _ c1
  have lt : at_ < w.heap.size := World.block_lt_of_cell? w _ c2
  have lx : b' < w.heap.size := World.block_lt_of_cell? w _ s0
  have eb := Nat.ne_of_lt lb
  have eb' := Nat.ne_of_gt lb
  have ea := Nat.ne_of_lt la
  have ea' := Nat.ne_of_gt la
  have et := Nat.ne_of_lt lt
  have et' := Nat.ne_of_gt lt
  have ex := Nat.ne_of_lt lx
  have ex' := Nat.ne_of_gt lx
  clear hA ho
  generalize p.parts[i] = x at *
  unfold partB0
  by_cases h1 : x.base < 0
  · go_enter Try.func87, Try.ntmps87
    go_wp2
    go_region
    go_wp2
    go_ret
    exact ⟨retBool (by simp [h1]), by repeat (first | (with_reducible exact Below.refl _ _) | (with_reducible apply bAl) | (with_reducible apply bDr) | (with_reducible apply bDrN))⟩
  · have h1' : 0 ≤ x.base := by omega
    by_cases h2 : x.size < 1
    · go_enter Try.func87, Try.ntmps87
      go_wp2
      go_region
      go_wp2
      go_ret
      exact ⟨retBool (by simp [h2]), by repeat (first | (with_reducible exact Below.refl _ _) | (with_reducible apply bAl) | (with_reducible apply bDr) | (with_reducible apply bDrN))⟩
    · go_enter Try.func87, Try.ntmps87
      go_wp2
      go_region
      go_wp2
      go_ret
      refine ⟨retBool ?_, by repeat (first | (with_reducible exact Below.refl _ _) | (with_reducible apply bAl) | (with_reducible apply bDr) | (with_reducible apply bDrN))⟩
      simp [h2] <;> omega
set_option maxRecDepth 100000 in set_option maxHeartbeats 1000000 in
theorem part89 (p : PlanS) (A B C : Option Addr) (a b c : Nat) (kb ka at_ : Nat) (i : Nat) (w : World) (c0 : ∀ j, w.cell? ⟨kb, j, none⟩ = (#[.int .i64 p.mem, .slice A p.parts.length a, .slice B p.wins.length b, .slice C p.chans.length c] : Array Value)[j]?) (c1 : w.cell? ⟨ka, 0, none⟩ = some (.pointer (some ⟨at_, 0, none⟩))) (c2 : w.cell? ⟨at_, 0, none⟩ = some (.int .i64 i)) (hA : Rd w A (partCells p.parts)) (hi : i < p.parts.length) :
    Calls Try.prog 89 #[.pointer (some ⟨kb, 0, none⟩), .pointer (some ⟨ka, 0, none⟩)] w fun e w' => e = .returned (.bool (partB2 p.parts[i])) ∧ Below w.heap.size w w' := by
  have hu50 := Try.underlying50
  have hu55 := Try.underlying55
  obtain ⟨b', o', rfl, s0, s1, s2, s3, s4, s5⟩ := hA.part i hi
  have hi' : (i : Int) < (p.parts.length : Int) := by omega
  have lb : kb < w.heap.size := World.block_lt_of_cell? w _ ((c0 0).trans rfl)
  have la : ka < w.heap.size := World.block_lt_of_cell? w _ c1
  have lt : at_ < w.heap.size := World.block_lt_of_cell? w _ c2
  have lx : b' < w.heap.size := World.block_lt_of_cell? w _ s0
  have eb := Nat.ne_of_lt lb
  have eb' := Nat.ne_of_gt lb
  have ea := Nat.ne_of_lt la
  have ea' := Nat.ne_of_gt la
  have et := Nat.ne_of_lt lt
  have et' := Nat.ne_of_gt lt
  have ex := Nat.ne_of_lt lx
  have ex' := Nat.ne_of_gt lx
  clear hA
  generalize p.parts[i] = x at *
  cases h1 : withinB x.ring 2 64
  · have H1 := Lib.hid h1
    have hv : partB2 x = true := by simp [partB2, h1]
    rw [hv]; clear h1 hv
    go_enter Try.func89, Try.ntmps89
    go_wp2
    go_region
    go_wp2_with fail
    refine (within86 _ _ _ _).mono ?_; rw [H1.out]; rintro e w1 ⟨rfl, rfl⟩
    go_wp2
    go_ret
    refine ⟨rfl, ?_⟩
    repeat (first | (with_reducible exact Below.refl _ _) | (with_reducible apply bAl) | (with_reducible apply bDr) | (with_reducible apply bDrN))
  · cases h2 : withinB x.cl 1 256
    · have H1 := Lib.hid h1
      have H2 := Lib.hid h2
      have hv : partB2 x = true := by simp [partB2, h1, h2]
      rw [hv]; clear h1 h2 hv
      go_enter Try.func89, Try.ntmps89
      go_wp2
      go_region
      go_wp2_with fail
      refine (within86 _ _ _ _).mono ?_; rw [H1.out]; rintro e w1 ⟨rfl, rfl⟩
      go_wp2_with fail
      refine (within86 _ _ _ _).mono ?_; rw [H2.out]; rintro e w1 ⟨rfl, rfl⟩
      go_wp2
      go_ret
      refine ⟨rfl, ?_⟩
      repeat (first | (with_reducible exact Below.refl _ _) | (with_reducible apply bAl) | (with_reducible apply bDr) | (with_reducible apply bDrN))
    · cases h3 : withinB x.again 0 100
      · have H1 := Lib.hid h1
        have H2 := Lib.hid h2
        have H3 := Lib.hid h3
        have hv : partB2 x = true := by simp [partB2, h1, h2, h3]
        rw [hv]; clear h1 h2 h3 hv
        go_enter Try.func89, Try.ntmps89
        go_wp2
        go_region
        go_wp2_with fail
        refine (within86 _ _ _ _).mono ?_; rw [H1.out]; rintro e w1 ⟨rfl, rfl⟩
        go_wp2_with fail
        refine (within86 _ _ _ _).mono ?_; rw [H2.out]; rintro e w1 ⟨rfl, rfl⟩
        go_wp2_with fail
        refine (within86 _ _ _ _).mono ?_; rw [H3.out]; rintro e w1 ⟨rfl, rfl⟩
        go_wp2
        go_ret
        refine ⟨rfl, ?_⟩
        repeat (first | (with_reducible exact Below.refl _ _) | (with_reducible apply bAl) | (with_reducible apply bDr) | (with_reducible apply bDrN))
      · have H1 := Lib.hid h1
        have H2 := Lib.hid h2
        have H3 := Lib.hid h3
        have hv : partB2 x = false := by simp [partB2, h1, h2, h3]
        rw [hv]; clear h1 h2 h3 hv
        go_enter Try.func89, Try.ntmps89
        go_wp2
        go_region
        go_wp2_with fail
        refine (within86 _ _ _ _).mono ?_; rw [H1.out]; rintro e w1 ⟨rfl, rfl⟩
        go_wp2_with fail
        refine (within86 _ _ _ _).mono ?_; rw [H2.out]; rintro e w1 ⟨rfl, rfl⟩
        go_wp2_with fail
        refine (within86 _ _ _ _).mono ?_; rw [H3.out]; rintro e w1 ⟨rfl, rfl⟩
        go_wp2
        go_ret
        refine ⟨rfl, ?_⟩
        repeat (first | (with_reducible exact Below.refl _ _) | (with_reducible apply bAl) | (with_reducible apply bDr) | (with_reducible apply bDrN))
set_option maxRecDepth 100000 in set_option maxHeartbeats 1000000 in
theorem chan96 (p : PlanS) (A B C : Option Addr) (a b c : Nat) (kb ka at_ : Nat) (i : Nat) (w : World) (c0 : ∀ j, w.cell? ⟨kb, j, none⟩ = (#[.int .i64 p.mem, .slice A p.parts.length a, .slice B p.wins.length b, .slice C p.chans.length c] : Array Value)[j]?) (c1 : w.cell? ⟨ka, 0, none⟩ = some (.pointer (some ⟨at_, 0, none⟩))) (c2 : w.cell? ⟨at_, 0, none⟩ = some (.int .i64 i)) (hA : Rd w C (chanCells p.chans)) (hi : i < p.chans.length) :
    Calls Try.prog 96 #[.pointer (some ⟨kb, 0, none⟩), .pointer (some ⟨ka, 0, none⟩)] w fun e w' => e = .returned (.bool (chanB2 p.chans[i])) ∧ Below w.heap.size w w' := by
  have hu50 := Try.underlying50
  have hu63 := Try.underlying63
  obtain ⟨b', o', rfl, s0, s1, s2, s3, s4⟩ := hA.chan i hi
  have hi' : (i : Int) < (p.chans.length : Int) := by omega
  have lb : kb < w.heap.size := World.block_lt_of_cell? w _ ((c0 0).trans rfl)
  have la : ka < w.heap.size := World.block_lt_of_cell? w _ c1
  have lt : at_ < w.heap.size := World.block_lt_of_cell? w _ c2
  have lx : b' < w.heap.size := World.block_lt_of_cell? w _ s0
  have eb := Nat.ne_of_lt lb
  have eb' := Nat.ne_of_gt lb
  have ea := Nat.ne_of_lt la
  have ea' := Nat.ne_of_gt la
  have et := Nat.ne_of_lt lt
  have et' := Nat.ne_of_gt lt
  have ex := Nat.ne_of_lt lx
  have ex' := Nat.ne_of_gt lx
  clear hA
  generalize p.chans[i] = x at *
  cases h1 : withinB x.size 1 8
  · have H1 := Lib.hid h1
    have hv : chanB2 x = true := by simp [chanB2, h1]
    rw [hv]; clear h1 hv
    go_enter Try.func96, Try.ntmps96
    go_wp2
    go_region
    go_wp2_with fail
    refine (within86 _ _ _ _).mono ?_; rw [H1.out]; rintro e w1 ⟨rfl, rfl⟩
    go_wp2
    go_ret
    refine ⟨rfl, ?_⟩
    repeat (first | (with_reducible exact Below.refl _ _) | (with_reducible apply bAl) | (with_reducible apply bDr) | (with_reducible apply bDrN))
  · cases h2 : withinB x.depth 1 16
    · have H1 := Lib.hid h1
      have H2 := Lib.hid h2
      have hv : chanB2 x = true := by simp [chanB2, h1, h2]
      rw [hv]; clear h1 h2 hv
      go_enter Try.func96, Try.ntmps96
      go_wp2
      go_region
      go_wp2_with fail
      refine (within86 _ _ _ _).mono ?_; rw [H1.out]; rintro e w1 ⟨rfl, rfl⟩
      go_wp2_with fail
      refine (within86 _ _ _ _).mono ?_; rw [H2.out]; rintro e w1 ⟨rfl, rfl⟩
      go_wp2
      go_ret
      refine ⟨rfl, ?_⟩
      repeat (first | (with_reducible exact Below.refl _ _) | (with_reducible apply bAl) | (with_reducible apply bDr) | (with_reducible apply bDrN))
    · have H1 := Lib.hid h1
      have H2 := Lib.hid h2
      have hv : chanB2 x = (decide (x.kind = 1) && !(decide (x.depth = 1))) := by simp [chanB2, h1, h2]
      rw [hv]; clear h1 h2 hv
      go_enter Try.func96, Try.ntmps96
      go_wp2
      go_region
      go_wp2_with fail
      refine (within86 _ _ _ _).mono ?_; rw [H1.out]; rintro e w1 ⟨rfl, rfl⟩
      go_wp2_with fail
      refine (within86 _ _ _ _).mono ?_; rw [H2.out]; rintro e w1 ⟨rfl, rfl⟩
      go_wp2
      all_goals go_ret
      all_goals refine ⟨retBool (by first | rfl | (simp [*]; done) | (rw [Bool.eq_iff_iff]; simp; done) | (simp [*]; rw [Bool.eq_iff_iff]; simp; done)), ?_⟩
      all_goals repeat (first | (with_reducible exact Below.refl _ _) | (with_reducible apply bAl) | (with_reducible apply bDr) | (with_reducible apply bDrN))
set_option maxRecDepth 100000 in set_option maxHeartbeats 1000000 in
theorem chan95 (p : PlanS) (A B C : Option Addr) (a b c : Nat) (kb ka at_ : Nat) (i : Nat) (w : World) (c0 : ∀ j, w.cell? ⟨kb, j, none⟩ = (#[.int .i64 p.mem, .slice A p.parts.length a, .slice B p.wins.length b, .slice C p.chans.length c] : Array Value)[j]?) (c1 : w.cell? ⟨ka, 0, none⟩ = some (.pointer (some ⟨at_, 0, none⟩))) (c2 : w.cell? ⟨at_, 0, none⟩ = some (.int .i64 i)) (kl : Nat) (c3 : w.cell? ⟨kl, 0, none⟩ = some (.int .i64 ((p.parts.length : Int) - 1))) (hA : Rd w C (chanCells p.chans)) (hi : i < p.chans.length) :
    Calls Try.prog 95 #[.pointer (some ⟨kb, 0, none⟩), .pointer (some ⟨ka, 0, none⟩), .pointer (some ⟨kl, 0, none⟩)] w fun e w' => e = .returned (.bool (chanB1 p.parts.length p.chans[i])) ∧ Below w.heap.size w w' := by
  have hu50 := Try.underlying50
  have hu63 := Try.underlying63
  obtain ⟨b', o', rfl, s0, s1, s2, s3, s4⟩ := hA.chan i hi
  have hi' : (i : Int) < (p.chans.length : Int) := by omega
  have lb : kb < w.heap.size := World.block_lt_of_cell? w _ ((c0 0).trans rfl)
  have la : ka < w.heap.size := World.block_lt_of_cell? w _ c1
  have lt : at_ < w.heap.size := World.block_lt_of_cell? w _ c2
  have lx : b' < w.heap.size := World.block_lt_of_cell? w _ s0
  have eb := Nat.ne_of_lt lb
  have eb' := Nat.ne_of_gt lb
  have ea := Nat.ne_of_lt la
  have ea' := Nat.ne_of_gt la
  have et := Nat.ne_of_lt lt
  have et' := Nat.ne_of_gt lt
  have ex := Nat.ne_of_lt lx
  have ex' := Nat.ne_of_gt lx
  clear hA
  have ll : kl < w.heap.size := World.block_lt_of_cell? w _ c3
  have el := Nat.ne_of_lt ll
  have el' := Nat.ne_of_gt ll
  generalize p.chans[i] = x at *
  cases h1 : withinB x.from_ 0 ((p.parts.length : Int) - 1)
  · have H1 := Lib.hid h1
    have hv : chanB1 p.parts.length x = true := by simp [chanB1, h1]
    rw [hv]; clear h1 hv
    go_enter Try.func95, Try.ntmps95
    go_wp2
    go_region
    go_wp2_with fail
    refine (within86 _ _ _ _).mono ?_; rw [H1.out]; rintro e w1 ⟨rfl, rfl⟩
    go_wp2
    go_ret
    refine ⟨rfl, ?_⟩
    repeat (first | (with_reducible exact Below.refl _ _) | (with_reducible apply bAl) | (with_reducible apply bDr) | (with_reducible apply bDrN))
  · cases h2 : withinB x.to_ 0 ((p.parts.length : Int) - 1)
    · have H1 := Lib.hid h1
      have H2 := Lib.hid h2
      have hv : chanB1 p.parts.length x = true := by simp [chanB1, h1, h2]
      rw [hv]; clear h1 h2 hv
      go_enter Try.func95, Try.ntmps95
      go_wp2
      go_region
      go_wp2_with fail
      refine (within86 _ _ _ _).mono ?_; rw [H1.out]; rintro e w1 ⟨rfl, rfl⟩
      go_wp2_with fail
      refine (within86 _ _ _ _).mono ?_; rw [H2.out]; rintro e w1 ⟨rfl, rfl⟩
      go_wp2
      go_ret
      refine ⟨rfl, ?_⟩
      repeat (first | (with_reducible exact Below.refl _ _) | (with_reducible apply bAl) | (with_reducible apply bDr) | (with_reducible apply bDrN))
    · have H1 := Lib.hid h1
      have H2 := Lib.hid h2
      have hv : chanB1 p.parts.length x = decide (x.from_ = x.to_) := by simp [chanB1, h1, h2]
      rw [hv]; clear h1 h2 hv
      go_enter Try.func95, Try.ntmps95
      go_wp2
      go_region
      go_wp2_with fail
      refine (within86 _ _ _ _).mono ?_; rw [H1.out]; rintro e w1 ⟨rfl, rfl⟩
      go_wp2_with fail
      refine (within86 _ _ _ _).mono ?_; rw [H2.out]; rintro e w1 ⟨rfl, rfl⟩
      go_wp2
      all_goals go_ret
      all_goals refine ⟨retBool (by first | rfl | (simp [*]; done) | (rw [Bool.eq_iff_iff]; simp; done) | (simp [*]; rw [Bool.eq_iff_iff]; simp; done)), ?_⟩
      all_goals repeat (first | (with_reducible exact Below.refl _ _) | (with_reducible apply bAl) | (with_reducible apply bDr) | (with_reducible apply bDrN))
end Go.Proofs.Ytlegpbookbghbaa
