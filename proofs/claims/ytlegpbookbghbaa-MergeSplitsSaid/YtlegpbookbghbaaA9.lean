/- A ring's head, all of a ring: the walks; the entries lie in memory, at most 1000 of them. -/
import Derived.Test.YtlegpbookbghbaaA8
set_option linter.unusedVariables false
set_option linter.unusedSimpArgs false
namespace Go.Proofs.Ytlegpbookbghbaa
open Go.RowKit
attribute [local go_sem high] eqIn27

set_option maxRecDepth 100000 in set_option maxHeartbeats 1000000 in
theorem head58no (rm : Int) (A : Option Addr) (c : Nat) (l : List Ent) (g0 g1 g2 g3 g4 g5 g6 : Int) (w : World) (hA : Rd w A (entCells l)) (hl : l.length ≤ c) (hs : l.length ≤ 1000) (hi : ringIsN rm l.length ⟨g0, ⟨g1, g2, g3, g4, g5, g6⟩⟩ = false) :
    Calls Try.prog 58 #[.agg #[.int .i64 rm, .slice A l.length c, .int .u64 g0, .int .u64 g1, .int .i64 g2, .int .i64 g3, .int .i64 g4, .int .i64 g5, .int .i64 g6]] w fun e w' => e = .returned (.tuple #[.int .u64 0, .bool false]) ∧ Below w.heap.size w w' := by
  have hu29 := Try.underlying29; have hu27 := Try.underlying27; have hu25 := Try.underlying25; have HA : Hid (Rd w A (entCells l)) := hA; have HB : Hid (Below w.heap.size w w) := Below.refl _ _; clear hA
  go_enter Try.func58, Try.ntmps58
  go_wp2_with fail; refine (ringIs21 _ _ _ _ _ _ _ _ _ _ _ _).mono ?_; rintro e w1 ⟨rfl, hb⟩
  (replace B0 : Hid (Blk w1 (w.heap.size) _ _) := Blk.below (by repeat (first | (with_reducible exact B0.out) | ((with_reducible apply Blk.newAt); (first | (with_reducible rfl) | (simp <;> omega))) | (with_reducible apply Blk.alloc) | (with_reducible apply Blk.drew) | (with_reducible apply Blk.drewN) | (with_reducible apply Blk.set) | ((with_reducible apply Blk.setO); (first | (with_reducible assumption) | omega | (simp <;> omega))))) hb); (replace c0 := (B0.out).cell); (replace f0 := (B0.out).froz); (replace l0 := (B0.out).lt)
  (replace HB : Hid (Below w.heap.size w w1) := bCall (by repeat (first | (with_reducible exact HB.out) | (with_reducible apply bAl) | (with_reducible apply bDr) | (with_reducible apply bDrN) | ((with_reducible refine bSt ?_ ?_ _); (first | (with_reducible assumption) | omega | (simp <;> omega))))) hb); clear hb; (have := HB.out.size)
  go_wp2
  go_ret2
  refine ⟨rfl, ?_⟩
  repeat (first | (with_reducible exact HB.out) | (with_reducible apply bAl) | (with_reducible apply bDr) | (with_reducible apply bDrN) | ((with_reducible refine bSt ?_ ?_ _); (first | (with_reducible assumption) | omega | (simp <;> omega))))
set_option maxRecDepth 100000 in set_option maxHeartbeats 1000000 in
theorem head58nil (rm : Int) (A : Option Addr) (c : Nat) (g0 g1 g2 g3 g4 g5 g6 : Int) (w : World) (hi : ringIsN rm 0 ⟨g0, ⟨g1, g2, g3, g4, g5, g6⟩⟩ = true) (hg : (g5 != 0) = false) :
    Calls Try.prog 58 #[.agg #[.int .i64 rm, .slice A 0 c, .int .u64 g0, .int .u64 g1, .int .i64 g2, .int .i64 g3, .int .i64 g4, .int .i64 g5, .int .i64 g6]] w fun e w' => e = .returned (.tuple #[.int .u64 0, .bool false]) ∧ Below w.heap.size w w' := by
  have hu29 := Try.underlying29; have hu27 := Try.underlying27; have hu25 := Try.underlying25
  have HB : Hid (Below w.heap.size w w) := Below.refl _ _
  go_enter Try.func58, Try.ntmps58
  go_wp2_with fail; refine (ringIs21 _ _ _ _ _ _ _ _ _ _ _ _).mono ?_; rintro e w1 ⟨rfl, hb⟩
  (replace B0 : Hid (Blk w1 (w.heap.size) _ _) := Blk.below (by repeat (first | (with_reducible exact B0.out) | ((with_reducible apply Blk.newAt); (first | (with_reducible rfl) | (simp <;> omega))) | (with_reducible apply Blk.alloc) | (with_reducible apply Blk.drew) | (with_reducible apply Blk.drewN) | (with_reducible apply Blk.set) | ((with_reducible apply Blk.setO); (first | (with_reducible assumption) | omega | (simp <;> omega))))) hb); (replace c0 := (B0.out).cell); (replace f0 := (B0.out).froz); (replace l0 := (B0.out).lt)
  (replace HB : Hid (Below w.heap.size w w1) := bCall (by repeat (first | (with_reducible exact HB.out) | (with_reducible apply bAl) | (with_reducible apply bDr) | (with_reducible apply bDrN) | ((with_reducible refine bSt ?_ ?_ _); (first | (with_reducible assumption) | omega | (simp <;> omega))))) hb); clear hb; (have := HB.out.size)
  go_wp2_with fail; refine (hasGap55 _ _ _ _ _ _ _ _ _ _ _ _).mono ?_; rintro e w2 ⟨rfl, hb⟩
  (replace B0 : Hid (Blk w2 (w.heap.size) _ _) := Blk.below (by repeat (first | (with_reducible exact B0.out) | ((with_reducible apply Blk.newAt); (first | (with_reducible rfl) | (simp <;> omega))) | (with_reducible apply Blk.alloc) | (with_reducible apply Blk.drew) | (with_reducible apply Blk.drewN) | (with_reducible apply Blk.set) | ((with_reducible apply Blk.setO); (first | (with_reducible assumption) | omega | (simp <;> omega))))) hb); (replace c0 := (B0.out).cell); (replace f0 := (B0.out).froz); (replace l0 := (B0.out).lt)
  (replace HB : Hid (Below w.heap.size w w2) := bCall (by repeat (first | (with_reducible exact HB.out) | (with_reducible apply bAl) | (with_reducible apply bDr) | (with_reducible apply bDrN) | ((with_reducible refine bSt ?_ ?_ _); (first | (with_reducible assumption) | omega | (simp <;> omega))))) hb); clear hb; (have := HB.out.size)
  go_wp2
  go_ret2
  refine ⟨rfl, ?_⟩
  repeat (first | (with_reducible exact HB.out) | (with_reducible apply bAl) | (with_reducible apply bDr) | (with_reducible apply bDrN) | ((with_reducible refine bSt ?_ ?_ _); (first | (with_reducible assumption) | omega | (simp <;> omega))))
set_option maxRecDepth 100000 in set_option maxHeartbeats 1000000 in
theorem head58gap (rm : Int) (A : Option Addr) (c : Nat) (g0 g1 g2 g3 g4 g5 g6 : Int) (w : World) (hi : ringIsN rm 0 ⟨g0, ⟨g1, g2, g3, g4, g5, g6⟩⟩ = true) (hg : (g5 != 0) = true) :
    Calls Try.prog 58 #[.agg #[.int .i64 rm, .slice A 0 c, .int .u64 g0, .int .u64 g1, .int .i64 g2, .int .i64 g3, .int .i64 g4, .int .i64 g5, .int .i64 g6]] w fun e w' => e = .returned (.tuple #[.int .u64 g0, .bool true]) ∧ Below w.heap.size w w' := by
  have hu29 := Try.underlying29; have hu27 := Try.underlying27; have hu25 := Try.underlying25
  have HB : Hid (Below w.heap.size w w) := Below.refl _ _
  go_enter Try.func58, Try.ntmps58
  go_wp2_with fail; refine (ringIs21 _ _ _ _ _ _ _ _ _ _ _ _).mono ?_; rintro e w1 ⟨rfl, hb⟩
  (replace B0 : Hid (Blk w1 (w.heap.size) _ _) := Blk.below (by repeat (first | (with_reducible exact B0.out) | ((with_reducible apply Blk.newAt); (first | (with_reducible rfl) | (simp <;> omega))) | (with_reducible apply Blk.alloc) | (with_reducible apply Blk.drew) | (with_reducible apply Blk.drewN) | (with_reducible apply Blk.set) | ((with_reducible apply Blk.setO); (first | (with_reducible assumption) | omega | (simp <;> omega))))) hb); (replace c0 := (B0.out).cell); (replace f0 := (B0.out).froz); (replace l0 := (B0.out).lt)
  (replace HB : Hid (Below w.heap.size w w1) := bCall (by repeat (first | (with_reducible exact HB.out) | (with_reducible apply bAl) | (with_reducible apply bDr) | (with_reducible apply bDrN) | ((with_reducible refine bSt ?_ ?_ _); (first | (with_reducible assumption) | omega | (simp <;> omega))))) hb); clear hb; (have := HB.out.size)
  go_wp2_with fail; refine (hasGap55 _ _ _ _ _ _ _ _ _ _ _ _).mono ?_; rintro e w2 ⟨rfl, hb⟩
  (replace B0 : Hid (Blk w2 (w.heap.size) _ _) := Blk.below (by repeat (first | (with_reducible exact B0.out) | ((with_reducible apply Blk.newAt); (first | (with_reducible rfl) | (simp <;> omega))) | (with_reducible apply Blk.alloc) | (with_reducible apply Blk.drew) | (with_reducible apply Blk.drewN) | (with_reducible apply Blk.set) | ((with_reducible apply Blk.setO); (first | (with_reducible assumption) | omega | (simp <;> omega))))) hb); (replace c0 := (B0.out).cell); (replace f0 := (B0.out).froz); (replace l0 := (B0.out).lt)
  (replace HB : Hid (Below w.heap.size w w2) := bCall (by repeat (first | (with_reducible exact HB.out) | (with_reducible apply bAl) | (with_reducible apply bDr) | (with_reducible apply bDrN) | ((with_reducible refine bSt ?_ ?_ _); (first | (with_reducible assumption) | omega | (simp <;> omega))))) hb); clear hb; (have := HB.out.size)
  go_wp2
  go_ret2
  refine ⟨rfl, ?_⟩
  repeat (first | (with_reducible exact HB.out) | (with_reducible apply bAl) | (with_reducible apply bDr) | (with_reducible apply bDrN) | ((with_reducible refine bSt ?_ ?_ _); (first | (with_reducible assumption) | omega | (simp <;> omega))))
set_option maxRecDepth 100000 in set_option maxHeartbeats 1000000 in
theorem head58cons (rm : Int) (A : Option Addr) (c : Nat) (x : Ent) (l : List Ent) (g0 g1 g2 g3 g4 g5 g6 : Int) (w : World) (hA : Rd w A (entCells (x :: l))) (hi : ringIsN rm (l.length + 1) ⟨g0, ⟨g1, g2, g3, g4, g5, g6⟩⟩ = true) :
    Calls Try.prog 58 #[.agg #[.int .i64 rm, .slice A (l.length + 1) c, .int .u64 g0, .int .u64 g1, .int .i64 g2, .int .i64 g3, .int .i64 g4, .int .i64 g5, .int .i64 g6]] w fun e w' => e = .returned (.tuple #[.int .u64 x.st, .bool true]) ∧ Below w.heap.size w w' := by
  have hu29 := Try.underlying29; have hu27 := Try.underlying27; have hu25 := Try.underlying25
  have HB : Hid (Below w.heap.size w w) := Below.refl _ _
  obtain ⟨b, o, rfl, a0, -⟩ := hA.ent 0 (by simp)
  have a0 : w.cell? ⟨b, o, none⟩ = some (.int .u64 x.st) := by simpa using a0
  clear hA
  have HC : Hid (w.cell? ⟨b, o, none⟩ = some (.int .u64 x.st)) := a0
  clear a0
  go_enter Try.func58, Try.ntmps58
  go_wp2_with fail; refine (ringIs21 _ _ _ _ _ _ _ _ _ _ _ _).mono ?_; rintro e w1 ⟨rfl, hb⟩
  (replace B0 : Hid (Blk w1 (w.heap.size) _ _) := Blk.below (by repeat (first | (with_reducible exact B0.out) | ((with_reducible apply Blk.newAt); (first | (with_reducible rfl) | (simp <;> omega))) | (with_reducible apply Blk.alloc) | (with_reducible apply Blk.drew) | (with_reducible apply Blk.drewN) | (with_reducible apply Blk.set) | ((with_reducible apply Blk.setO); (first | (with_reducible assumption) | omega | (simp <;> omega))))) hb); (replace c0 := (B0.out).cell); (replace f0 := (B0.out).froz); (replace l0 := (B0.out).lt)
  (replace HB : Hid (Below w.heap.size w w1) := bCall (by repeat (first | (with_reducible exact HB.out) | (with_reducible apply bAl) | (with_reducible apply bDr) | (with_reducible apply bDrN) | ((with_reducible refine bSt ?_ ?_ _); (first | (with_reducible assumption) | omega | (simp <;> omega))))) hb); clear hb; (have := HB.out.size)
  have hc : w1.cell? ⟨b, o, none⟩ = some (.int .u64 x.st) := (HB.out.cell (p := ⟨b, o, none⟩) (World.block_lt_of_cell? w _ HC.out)).trans HC.out
  go_wp2
  go_ret2
  refine ⟨rfl, ?_⟩
  repeat (first | (with_reducible exact HB.out) | (with_reducible apply bAl) | (with_reducible apply bDr) | (with_reducible apply bDrN) | ((with_reducible refine bSt ?_ ?_ _); (first | (with_reducible assumption) | omega | (simp <;> omega))))
theorem head58 (rm : Int) (A : Option Addr) (c : Nat) (l : List Ent) (g0 g1 g2 g3 g4 g5 g6 : Int) (w : World) (hA : Rd w A (entCells l)) (hl : l.length ≤ c) (hs : l.length ≤ 1000) :
    Calls Try.prog 58 #[.agg #[.int .i64 rm, .slice A l.length c, .int .u64 g0, .int .u64 g1, .int .i64 g2, .int .i64 g3, .int .i64 g4, .int .i64 g5, .int .i64 g6]] w fun e w' => e = .returned (.tuple #[.int .u64 (headS ⟨rm, l, ⟨g0, ⟨g1, g2, g3, g4, g5, g6⟩⟩⟩).1, .bool (headS ⟨rm, l, ⟨g0, ⟨g1, g2, g3, g4, g5, g6⟩⟩⟩).2]) ∧ Below w.heap.size w w' := by
  cases hi : ringIsN rm l.length ⟨g0, ⟨g1, g2, g3, g4, g5, g6⟩⟩
  · have hv : headS ⟨rm, l, ⟨g0, ⟨g1, g2, g3, g4, g5, g6⟩⟩⟩ = (0, false) := by simp [headS, ringIs, hi]
    rw [hv]
    exact head58no rm A c l g0 g1 g2 g3 g4 g5 g6 w hA hl hs hi
  · cases l with
    | nil =>
      cases hg : (g5 != 0)
      · have hv : headS ⟨rm, [], ⟨g0, ⟨g1, g2, g3, g4, g5, g6⟩⟩⟩ = (0, false) := by simp [headS, ringIs, hi, hasGap, hg]
        rw [hv]
        exact head58nil rm A c g0 g1 g2 g3 g4 g5 g6 w hi hg
      · have hv : headS ⟨rm, [], ⟨g0, ⟨g1, g2, g3, g4, g5, g6⟩⟩⟩ = (g0, true) := by
          have hi' : ringIsN rm 0 ⟨g0, ⟨g1, g2, g3, g4, g5, g6⟩⟩ = true := hi
          simp [headS, ringIs, hi', hasGap, hg]
        rw [hv]
        exact head58gap rm A c g0 g1 g2 g3 g4 g5 g6 w hi hg
    | cons x l =>
      have hv : headS ⟨rm, x :: l, ⟨g0, ⟨g1, g2, g3, g4, g5, g6⟩⟩⟩ = (x.st, true) := by
        have hi' : ringIsN rm (l.length + 1) ⟨g0, ⟨g1, g2, g3, g4, g5, g6⟩⟩ = true := hi
        simp [headS, ringIs, hi']
      rw [hv]
      exact head58cons rm A c x l g0 g1 g2 g3 g4 g5 g6 w hA hi

def AllPost (w : World) (l : List Ent) (e : Ending) (w' : World) : Prop :=
  ∃ A' c', e = .returned (.slice A' l.length c') ∧ l.length ≤ c' ∧ RdN w' w.heap.size A' (entCells l) ∧ Below w.heap.size w w'
set_option maxRecDepth 100000 in set_option maxHeartbeats 1000000 in
theorem all25no (rm : Int) (A : Option Addr) (c : Nat) (l : List Ent) (g0 g1 g2 g3 g4 g5 g6 : Int) (w : World) (hA : Rd w A (entCells l)) (hl : l.length ≤ c) (hs : l.length ≤ 1000) (hi : ringIsN rm l.length ⟨g0, ⟨g1, g2, g3, g4, g5, g6⟩⟩ = false) : Calls Try.prog 25 #[.agg #[.int .i64 rm, .slice A l.length c, .int .u64 g0, .int .u64 g1, .int .i64 g2, .int .i64 g3, .int .i64 g4, .int .i64 g5, .int .i64 g6]] w (AllPost w []) := by
  have hu29 := Try.underlying29; have hu27 := Try.underlying27; have hu25 := Try.underlying25; have HA : Hid (Rd w A (entCells l)) := hA; have HB : Hid (Below w.heap.size w w) := Below.refl _ _; clear hA
  go_enter Try.func25, Try.ntmps25
  go_wp2_with fail; refine (ringIs21 _ _ _ _ _ _ _ _ _ _ _ _).mono ?_; rintro e w1 ⟨rfl, hb⟩
  (replace B0 : Hid (Blk w1 (w.heap.size) _ _) := Blk.below (by repeat (first | (with_reducible exact B0.out) | ((with_reducible apply Blk.newAt); (first | (with_reducible rfl) | (simp <;> omega))) | (with_reducible apply Blk.alloc) | (with_reducible apply Blk.drew) | (with_reducible apply Blk.drewN) | (with_reducible apply Blk.set) | ((with_reducible apply Blk.setO); (first | (with_reducible assumption) | omega | (simp <;> omega))))) hb); (replace c0 := (B0.out).cell); (replace f0 := (B0.out).froz); (replace l0 := (B0.out).lt)
  (replace HB : Hid (Below w.heap.size w w1) := bCall (by repeat (first | (with_reducible exact HB.out) | (with_reducible apply bAl) | (with_reducible apply bDr) | (with_reducible apply bDrN) | ((with_reducible refine bSt ?_ ?_ _); (first | (with_reducible assumption) | omega | (simp <;> omega))))) hb); clear hb; (have := HB.out.size)
  go_wp2
  go_ret
  refine ⟨none, 0, rfl, Nat.le_refl _, RdN.nil _ _ _, ?_⟩
  repeat (first | (with_reducible exact HB.out) | (with_reducible apply bAl) | (with_reducible apply bDr) | (with_reducible apply bDrN) | ((with_reducible refine bSt ?_ ?_ _); (first | (with_reducible assumption) | omega | (simp <;> omega))))
set_option maxRecDepth 100000 in set_option maxHeartbeats 1000000 in
theorem all25gap (rm : Int) (A : Option Addr) (c : Nat) (l : List Ent) (g0 g1 g2 g3 g4 g5 g6 : Int) (w : World) (hA : Rd w A (entCells l)) (hl : l.length ≤ c) (hs : l.length ≤ 1000) (hi : ringIsN rm l.length ⟨g0, ⟨g1, g2, g3, g4, g5, g6⟩⟩ = true) (hg : (g5 != 0) = true) : Calls Try.prog 25 #[.agg #[.int .i64 rm, .slice A l.length c, .int .u64 g0, .int .u64 g1, .int .i64 g2, .int .i64 g3, .int .i64 g4, .int .i64 g5, .int .i64 g6]] w (AllPost w (l ++ [⟨g0, ⟨g1, g2, g3, g4, g5, g6⟩⟩])) := by
  have hu29 := Try.underlying29; have hu27 := Try.underlying27; have hu25 := Try.underlying25; have HA : Hid (Rd w A (entCells l)) := hA; have HB : Hid (Below w.heap.size w w) := Below.refl _ _; clear hA
  go_enter Try.func25, Try.ntmps25
  go_wp2_with fail; refine (ringIs21 _ _ _ _ _ _ _ _ _ _ _ _).mono ?_; rintro e w1 ⟨rfl, hb⟩
  (replace B0 : Hid (Blk w1 (w.heap.size) _ _) := Blk.below (by repeat (first | (with_reducible exact B0.out) | ((with_reducible apply Blk.newAt); (first | (with_reducible rfl) | (simp <;> omega))) | (with_reducible apply Blk.alloc) | (with_reducible apply Blk.drew) | (with_reducible apply Blk.drewN) | (with_reducible apply Blk.set) | ((with_reducible apply Blk.setO); (first | (with_reducible assumption) | omega | (simp <;> omega))))) hb); (replace c0 := (B0.out).cell); (replace f0 := (B0.out).froz); (replace l0 := (B0.out).lt)
  (replace HB : Hid (Below w.heap.size w w1) := bCall (by repeat (first | (with_reducible exact HB.out) | (with_reducible apply bAl) | (with_reducible apply bDr) | (with_reducible apply bDrN) | ((with_reducible refine bSt ?_ ?_ _); (first | (with_reducible assumption) | omega | (simp <;> omega))))) hb); clear hb; (have := HB.out.size)
  go_wp2_with fail; refine (hasGap55 _ _ _ _ _ _ _ _ _ _ _ _).mono ?_; rintro e w2 ⟨rfl, hb⟩
  (replace B0 : Hid (Blk w2 (w.heap.size) _ _) := Blk.below (by repeat (first | (with_reducible exact B0.out) | ((with_reducible apply Blk.newAt); (first | (with_reducible rfl) | (simp <;> omega))) | (with_reducible apply Blk.alloc) | (with_reducible apply Blk.drew) | (with_reducible apply Blk.drewN) | (with_reducible apply Blk.set) | ((with_reducible apply Blk.setO); (first | (with_reducible assumption) | omega | (simp <;> omega))))) hb); (replace c0 := (B0.out).cell); (replace f0 := (B0.out).froz); (replace l0 := (B0.out).lt)
  (replace HB : Hid (Below w.heap.size w w2) := bCall (by repeat (first | (with_reducible exact HB.out) | (with_reducible apply bAl) | (with_reducible apply bDr) | (with_reducible apply bDrN) | ((with_reducible refine bSt ?_ ?_ _); (first | (with_reducible assumption) | omega | (simp <;> omega))))) hb); clear hb; (have := HB.out.size)
  go_wp2_with fail
  refine (grown56 A c l _ _ [⟨g0, ⟨g1, g2, g3, g4, g5, g6⟩⟩] _ ?hA ?hS ?hl).mono ?_
  case hA => exact HA.out.below (by repeat (first | (with_reducible exact HB.out) | (with_reducible apply bAl) | (with_reducible apply bDr) | (with_reducible apply bDrN) | ((with_reducible refine bSt ?_ ?_ _); (first | (with_reducible assumption) | omega | (simp <;> omega)))))
  case hS => exact Rd.new _ _ _
  case hl => simp; omega
  rintro e w3 ⟨A', c', rfl, hc', hR, hb⟩
  (replace B0 : Hid (Blk w3 (w.heap.size) _ _) := Blk.below (by repeat (first | (with_reducible exact B0.out) | ((with_reducible apply Blk.newAt); (first | (with_reducible rfl) | (simp <;> omega))) | (with_reducible apply Blk.alloc) | (with_reducible apply Blk.drew) | (with_reducible apply Blk.drewN) | (with_reducible apply Blk.set) | ((with_reducible apply Blk.setO); (first | (with_reducible assumption) | omega | (simp <;> omega))))) hb); (replace c0 := (B0.out).cell); (replace f0 := (B0.out).froz); (replace l0 := (B0.out).lt)
  have HR : Hid (l.length + 1 ≤ c' ∧ RdN w3 (w2.heap.size + 1) A' (entCells (l ++ [⟨g0, ⟨g1, g2, g3, g4, g5, g6⟩⟩]))) := ⟨hc', by simpa using hR⟩
  clear hc' hR
  (replace HB : Hid (Below w.heap.size w w3) := bCall (by repeat (first | (with_reducible exact HB.out) | (with_reducible apply bAl) | (with_reducible apply bDr) | (with_reducible apply bDrN) | ((with_reducible refine bSt ?_ ?_ _); (first | (with_reducible assumption) | omega | (simp <;> omega))))) hb); clear hb; (have := HB.out.size)
  have hz : w.heap.size ≤ w2.heap.size := by assumption
  go_wp2
  go_ret
  refine ⟨A', c', by simp, (by simpa using HR.out.1), RdN.mono HR.out.2 (by omega), ?_⟩
  repeat (first | (with_reducible exact HB.out) | (with_reducible apply bAl) | (with_reducible apply bDr) | (with_reducible apply bDrN) | ((with_reducible refine bSt ?_ ?_ _); (first | (with_reducible assumption) | omega | (simp <;> omega))))
set_option maxRecDepth 100000 in set_option maxHeartbeats 1000000 in
theorem all25plain (rm : Int) (A : Option Addr) (c : Nat) (l : List Ent) (g0 g1 g2 g3 g4 g5 g6 : Int) (w : World) (hA : Rd w A (entCells l)) (hl : l.length ≤ c) (hs : l.length ≤ 1000) (hi : ringIsN rm l.length ⟨g0, ⟨g1, g2, g3, g4, g5, g6⟩⟩ = true) (hg : (g5 != 0) = false) : Calls Try.prog 25 #[.agg #[.int .i64 rm, .slice A l.length c, .int .u64 g0, .int .u64 g1, .int .i64 g2, .int .i64 g3, .int .i64 g4, .int .i64 g5, .int .i64 g6]] w (AllPost w l) := by
  have hu29 := Try.underlying29; have hu27 := Try.underlying27; have hu25 := Try.underlying25; have HA : Hid (Rd w A (entCells l)) := hA; have HB : Hid (Below w.heap.size w w) := Below.refl _ _; clear hA
  go_enter Try.func25, Try.ntmps25
  go_wp2_with fail; refine (ringIs21 _ _ _ _ _ _ _ _ _ _ _ _).mono ?_; rintro e w1 ⟨rfl, hb⟩
  (replace B0 : Hid (Blk w1 (w.heap.size) _ _) := Blk.below (by repeat (first | (with_reducible exact B0.out) | ((with_reducible apply Blk.newAt); (first | (with_reducible rfl) | (simp <;> omega))) | (with_reducible apply Blk.alloc) | (with_reducible apply Blk.drew) | (with_reducible apply Blk.drewN) | (with_reducible apply Blk.set) | ((with_reducible apply Blk.setO); (first | (with_reducible assumption) | omega | (simp <;> omega))))) hb); (replace c0 := (B0.out).cell); (replace f0 := (B0.out).froz); (replace l0 := (B0.out).lt)
  (replace HB : Hid (Below w.heap.size w w1) := bCall (by repeat (first | (with_reducible exact HB.out) | (with_reducible apply bAl) | (with_reducible apply bDr) | (with_reducible apply bDrN) | ((with_reducible refine bSt ?_ ?_ _); (first | (with_reducible assumption) | omega | (simp <;> omega))))) hb); clear hb; (have := HB.out.size)
  go_wp2_with fail; refine (hasGap55 _ _ _ _ _ _ _ _ _ _ _ _).mono ?_; rintro e w2 ⟨rfl, hb⟩
  (replace B0 : Hid (Blk w2 (w.heap.size) _ _) := Blk.below (by repeat (first | (with_reducible exact B0.out) | ((with_reducible apply Blk.newAt); (first | (with_reducible rfl) | (simp <;> omega))) | (with_reducible apply Blk.alloc) | (with_reducible apply Blk.drew) | (with_reducible apply Blk.drewN) | (with_reducible apply Blk.set) | ((with_reducible apply Blk.setO); (first | (with_reducible assumption) | omega | (simp <;> omega))))) hb); (replace c0 := (B0.out).cell); (replace f0 := (B0.out).froz); (replace l0 := (B0.out).lt)
  (replace HB : Hid (Below w.heap.size w w2) := bCall (by repeat (first | (with_reducible exact HB.out) | (with_reducible apply bAl) | (with_reducible apply bDr) | (with_reducible apply bDrN) | ((with_reducible refine bSt ?_ ?_ _); (first | (with_reducible assumption) | omega | (simp <;> omega))))) hb); clear hb; (have := HB.out.size)
  go_wp2_with fail
  refine (grown56 A c l _ _ [] _ ?hA ?hS ?hl).mono ?_
  case hA => exact HA.out.below (by repeat (first | (with_reducible exact HB.out) | (with_reducible apply bAl) | (with_reducible apply bDr) | (with_reducible apply bDrN) | ((with_reducible refine bSt ?_ ?_ _); (first | (with_reducible assumption) | omega | (simp <;> omega)))))
  case hS => exact Rd.nil _ _
  case hl => simp; omega
  rintro e w3 ⟨A', c', rfl, hc', hR, hb⟩
  (replace B0 : Hid (Blk w3 (w.heap.size) _ _) := Blk.below (by repeat (first | (with_reducible exact B0.out) | ((with_reducible apply Blk.newAt); (first | (with_reducible rfl) | (simp <;> omega))) | (with_reducible apply Blk.alloc) | (with_reducible apply Blk.drew) | (with_reducible apply Blk.drewN) | (with_reducible apply Blk.set) | ((with_reducible apply Blk.setO); (first | (with_reducible assumption) | omega | (simp <;> omega))))) hb); (replace c0 := (B0.out).cell); (replace f0 := (B0.out).froz); (replace l0 := (B0.out).lt)
  have HR : Hid (l.length ≤ c' ∧ RdN w3 w2.heap.size A' (entCells l)) := ⟨hc', by simpa using hR⟩
  clear hc' hR
  (replace HB : Hid (Below w.heap.size w w3) := bCall (by repeat (first | (with_reducible exact HB.out) | (with_reducible apply bAl) | (with_reducible apply bDr) | (with_reducible apply bDrN) | ((with_reducible refine bSt ?_ ?_ _); (first | (with_reducible assumption) | omega | (simp <;> omega))))) hb); clear hb; (have := HB.out.size)
  have hz : w.heap.size ≤ w2.heap.size := by assumption
  go_wp2
  go_ret
  refine ⟨A', c', rfl, (by simpa using HR.out.1), RdN.mono HR.out.2 (by omega), ?_⟩
  repeat (first | (with_reducible exact HB.out) | (with_reducible apply bAl) | (with_reducible apply bDr) | (with_reducible apply bDrN) | ((with_reducible refine bSt ?_ ?_ _); (first | (with_reducible assumption) | omega | (simp <;> omega))))
theorem all25 (rm : Int) (A : Option Addr) (c : Nat) (l : List Ent) (g0 g1 g2 g3 g4 g5 g6 : Int) (w : World) (hA : Rd w A (entCells l)) (hl : l.length ≤ c) (hs : l.length ≤ 1000) : Calls Try.prog 25 #[.agg #[.int .i64 rm, .slice A l.length c, .int .u64 g0, .int .u64 g1, .int .i64 g2, .int .i64 g3, .int .i64 g4, .int .i64 g5, .int .i64 g6]] w (AllPost w (allS ⟨rm, l, ⟨g0, ⟨g1, g2, g3, g4, g5, g6⟩⟩⟩)) := by
  cases hi : ringIsN rm l.length ⟨g0, ⟨g1, g2, g3, g4, g5, g6⟩⟩
  · have hv : allS ⟨rm, l, ⟨g0, ⟨g1, g2, g3, g4, g5, g6⟩⟩⟩ = [] := by simp [allS, ringIs, hi]
    rw [hv]
    exact all25no rm A c l g0 g1 g2 g3 g4 g5 g6 w hA hl hs hi
  · cases hg : (g5 != 0)
    · have hv : allS ⟨rm, l, ⟨g0, ⟨g1, g2, g3, g4, g5, g6⟩⟩⟩ = l := by simp [allS, ringIs, hi, hasGap, hg]
      rw [hv]
      exact all25plain rm A c l g0 g1 g2 g3 g4 g5 g6 w hA hl hs hi hg
    · have hv : allS ⟨rm, l, ⟨g0, ⟨g1, g2, g3, g4, g5, g6⟩⟩⟩ = l ++ [⟨g0, ⟨g1, g2, g3, g4, g5, g6⟩⟩] := by simp [allS, ringIs, hi, hasGap, hg]
      rw [hv]
      exact all25gap rm A c l g0 g1 g2 g3 g4 g5 g6 w hA hl hs hi hg
end Go.Proofs.Ytlegpbookbghbaa
