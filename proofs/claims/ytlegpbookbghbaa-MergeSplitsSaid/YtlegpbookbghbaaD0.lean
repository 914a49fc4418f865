/- Plans: their shape, and the small walks of config and its reference; the numbers are int64's. -/
import Derived.Test.YtlegpbookbghbaaA0
set_option linter.unusedVariables false
set_option linter.unusedSimpArgs false
namespace Go.Proofs.Ytlegpbookbghbaa
open Go.RowKit

/-- An int64. -/
def I64 (n : Int) : Prop := -9223372036854775808 ≤ n ∧ n ≤ 9223372036854775807
structure PartS where
  base : Int
  size : Int
  ring : Int
  cA : Option Addr
  cl : Nat
  cc : Nat
  fault : Int
  again : Int
structure WinS where
  part : Int
  ticks : Int
structure ChanS where
  kind : Int
  from_ : Int
  to_ : Int
  size : Int
  depth : Int
structure PlanS where
  mem : Int
  parts : List PartS
  wins : List WinS
  chans : List ChanS
def PartS.cells (p : PartS) : List Value := [.int .i64 p.base, .int .i64 p.size, .int .i64 p.ring, .slice p.cA p.cl p.cc, .int .i64 p.fault, .int .i64 p.again]
def WinS.cells (p : WinS) : List Value := [.int .i64 p.part, .int .i64 p.ticks]
def ChanS.cells (p : ChanS) : List Value := [.int .i64 p.kind, .int .i64 p.from_, .int .i64 p.to_, .int .i64 p.size, .int .i64 p.depth]
def partCells (l : List PartS) : List Value := l.flatMap PartS.cells
def winCells (l : List WinS) : List Value := l.flatMap WinS.cells
def chanCells (l : List ChanS) : List Value := l.flatMap ChanS.cells
structure PartS.Ok (p : PartS) : Prop where
  base : I64 p.base
  size : I64 p.size

def withinB (n a b : Int) : Bool := decide (a ≤ n) && decide (n ≤ b)
def apartB (a b : PartS) : Bool := decide (a.size < 1) || decide (b.size < 1) || decide (b.base + b.size ≤ a.base) || decide (a.base + a.size ≤ b.base)

theorem wrapU (x : Int) : IntKind.u64.wrap x = x % 18446744073709551616 := by
  unfold IntKind.wrap
  simp [IntKind.signed, IntKind.bits]
set_option maxRecDepth 100000 in set_option maxHeartbeats 1000000 in
theorem within86 (n a b : Int) (w : World) : Calls Try.prog 86 #[.int .i64 n, .int .i64 a, .int .i64 b] w fun e w' => e = .returned (.bool (withinB n a b)) ∧ w' = w := by
  by_cases h : a ≤ n
  · by_cases h2 : n ≤ b
    · go_enter Try.func86, Try.ntmps86
      go_wp2
      go_ret
      exact ⟨retBool (by simp [withinB, h, h2] <;> omega), rfl⟩
    · go_enter Try.func86, Try.ntmps86
      go_wp2
      go_ret
      exact ⟨retBool (by simp [withinB, h, h2] <;> omega), rfl⟩
  · go_enter Try.func86, Try.ntmps86
    go_wp2
    go_ret
    exact ⟨retBool (by simp [withinB]; omega), rfl⟩
set_option maxRecDepth 100000 in set_option maxHeartbeats 1000000 in
theorem beyond69 (p b s : Int) (w : World) (hp : I64 p) (hb : I64 b) (hs : I64 s) (h1 : 1 ≤ s) : Calls Try.prog 69 #[.int .i64 p, .int .i64 b, .int .i64 s] w fun e w' => e = .returned (.bool (decide (b + s ≤ p))) ∧ w' = w := by
  obtain ⟨p1, p2⟩ := hp
  obtain ⟨b1, b2⟩ := hb
  obtain ⟨s1, s2⟩ := hs
  by_cases h : b ≤ 9223372036854775807 - s
  · have h3 : b + s ≤ 9223372036854775807 := by omega
    go_enter Try.func69, Try.ntmps69
    go_wp2
    all_goals go_ret
    all_goals exact ⟨retBool (by simp <;> omega), rfl⟩
  · go_enter Try.func69, Try.ntmps69
    go_wp2
    all_goals go_ret
    all_goals exact ⟨retBool (by simp <;> omega), rfl⟩
set_option maxRecDepth 100000 in set_option maxHeartbeats 1000000 in
theorem apart31 (a b : PartS) (w : World) (ha : a.Ok) (hb : b.Ok) : Calls Try.prog 31 #[.agg #[.int .i64 a.base, .int .i64 a.size, .int .i64 a.ring, .slice a.cA a.cl a.cc, .int .i64 a.fault, .int .i64 a.again], .agg #[.int .i64 b.base, .int .i64 b.size, .int .i64 b.ring, .slice b.cA b.cl b.cc, .int .i64 b.fault, .int .i64 b.again]] w fun e w' => e = .returned (.bool (apartB a b)) ∧ Below w.heap.size w w' := by
  have hu55 := Try.underlying55
  by_cases h1 : a.size < 1
  · go_enter Try.func31, Try.ntmps31
    go_wp2
    go_ret
    exact ⟨retBool (by simp [apartB, h1]), bAl (bAl (Below.refl _ _) _) _⟩
  · by_cases h2 : b.size < 1
    · go_enter Try.func31, Try.ntmps31
      go_wp2
      go_ret
      exact ⟨retBool (by simp [apartB, h2]), bAl (bAl (Below.refl _ _) _) _⟩
    · by_cases h3 : b.base + b.size ≤ a.base
      · go_enter Try.func31, Try.ntmps31
        go_wp2_with (go_at_call 69; refine (beyond69 _ _ _ _ ?_ ?_ ?_ ?_).mono ?_; exact ha.base; exact hb.base; exact hb.size; omega; rintro e w1 ⟨rfl, rfl⟩)
        go_ret
        exact ⟨retBool (by simp [apartB, h3]), bAl (bAl (Below.refl _ _) _) _⟩
      · go_enter Try.func31, Try.ntmps31
        go_wp2_with (first | (go_at_call 69; refine (beyond69 _ _ _ _ ?_ ?_ ?_ ?_).mono ?_; exact ha.base; exact hb.base; exact hb.size; omega; rintro e w1 ⟨rfl, rfl⟩) | (go_at_call 69; refine (beyond69 _ _ _ _ ?_ ?_ ?_ ?_).mono ?_; exact hb.base; exact ha.base; exact ha.size; omega; rintro e w1 ⟨rfl, rfl⟩))
        go_ret
        exact ⟨retBool (by have g1 : ¬ a.size < 1 := by omega
                           have g2 : ¬ b.size < 1 := by omega
                           simp [apartB, g1, g2]), bAl (bAl (Below.refl _ _) _) _⟩
set_option maxRecDepth 100000 in set_option maxHeartbeats 1000000 in
theorem behind70 (a b : PartS) (w : World) (ha : a.Ok) (hb : b.Ok) (hs : 1 ≤ b.size) : Calls Try.prog 70 #[.agg #[.int .i64 a.base, .int .i64 a.size, .int .i64 a.ring, .slice a.cA a.cl a.cc, .int .i64 a.fault, .int .i64 a.again], .agg #[.int .i64 b.base, .int .i64 b.size, .int .i64 b.ring, .slice b.cA b.cl b.cc, .int .i64 b.fault, .int .i64 b.again]] w fun e w' => e = .returned (.bool (decide (b.base + b.size ≤ a.base))) ∧ Below w.heap.size w w' := by
  have hu55 := Try.underlying55
  obtain ⟨p1, p2⟩ := ha.base
  obtain ⟨b1, b2⟩ := hb.base
  obtain ⟨s1, s2⟩ := hb.size
  by_cases h : b.base ≤ a.base
  · have hw : IntKind.u64.wrap (IntKind.u64.wrap a.base - IntKind.u64.wrap b.base) = a.base - b.base := by
      rw [wrapU, wrapU, wrapU]
      omega
    have hw2 : IntKind.u64.wrap b.size = b.size := by
      rw [wrapU]
      omega
    go_enter Try.func70, Try.ntmps70
    go_wp2
    go_ret
    refine ⟨retBool ?_, bAl (bAl (Below.refl _ _) _) _⟩
    rw [decide_eq_decide]
    omega
  · go_enter Try.func70, Try.ntmps70
    go_wp2
    go_ret
    refine ⟨retBool ?_, bAl (bAl (Below.refl _ _) _) _⟩
    simp
    omega
set_option maxRecDepth 100000 in set_option maxHeartbeats 1000000 in
theorem refApart32 (a b : PartS) (w : World) (ha : a.Ok) (hb : b.Ok) : Calls Try.prog 32 #[.agg #[.int .i64 a.base, .int .i64 a.size, .int .i64 a.ring, .slice a.cA a.cl a.cc, .int .i64 a.fault, .int .i64 a.again], .agg #[.int .i64 b.base, .int .i64 b.size, .int .i64 b.ring, .slice b.cA b.cl b.cc, .int .i64 b.fault, .int .i64 b.again]] w fun e w' => e = .returned (.bool (apartB a b)) ∧ Below w.heap.size w w' := by
  have hu55 := Try.underlying55
  by_cases h1 : a.size < 1
  · go_enter Try.func32, Try.ntmps32
    go_wp2
    go_ret
    exact ⟨retBool (by simp [apartB, h1]), bAl (bAl (Below.refl _ _) _) _⟩
  · by_cases h2 : b.size < 1
    · go_enter Try.func32, Try.ntmps32
      go_wp2
      go_ret
      exact ⟨retBool (by simp [apartB, h2]), bAl (bAl (Below.refl _ _) _) _⟩
    · have HA := Lib.hid ha
      have HO := Lib.hid hb
      have HB : Hid (Below w.heap.size w w) := Below.refl _ _
      by_cases h3 : b.base + b.size ≤ a.base
      · go_enter Try.func32, Try.ntmps32
        go_wp2_with fail
        refine (behind70 _ _ _ HA.out HO.out (by omega)).mono ?_
        rintro e w1 ⟨rfl, hb⟩
        (replace B2 : Hid (Blk w1 (w.heap.size) _ _) := Blk.below (by repeat (first | (with_reducible exact B2.out) | ((with_reducible apply Blk.newAt); (first | (with_reducible rfl) | (simp <;> omega))) | (with_reducible apply Blk.alloc) | (with_reducible apply Blk.drew) | (with_reducible apply Blk.drewN) | (with_reducible apply Blk.set) | ((with_reducible apply Blk.setO); (first | (with_reducible assumption) | omega | (simp <;> omega))))) hb); (replace c2 := (B2.out).cell); (replace f2 := (B2.out).froz); (replace l2 := (B2.out).lt)
        (replace B3 : Hid (Blk w1 (w.heap.size + 1) _ _) := Blk.below (by repeat (first | (with_reducible exact B3.out) | ((with_reducible apply Blk.newAt); (first | (with_reducible rfl) | (simp <;> omega))) | (with_reducible apply Blk.alloc) | (with_reducible apply Blk.drew) | (with_reducible apply Blk.drewN) | (with_reducible apply Blk.set) | ((with_reducible apply Blk.setO); (first | (with_reducible assumption) | omega | (simp <;> omega))))) hb); (replace c3 := (B3.out).cell); (replace f3 := (B3.out).froz); (replace l3 := (B3.out).lt)
        (replace HB : Hid (Below w.heap.size w w1) := bCall (by repeat (first | (with_reducible exact HB.out) | (with_reducible apply bAl) | (with_reducible apply bDr) | (with_reducible apply bDrN) | ((with_reducible refine bSt ?_ ?_ _); (first | (with_reducible assumption) | omega | (simp <;> omega))))) hb); clear hb; (have := HB.out.size)
        go_wp2
        go_ret
        refine ⟨retBool (by simp [apartB, h3]), ?_⟩
        repeat (first | (with_reducible exact HB.out) | (with_reducible apply bAl) | (with_reducible apply bDr) | (with_reducible apply bDrN) | ((with_reducible refine bSt ?_ ?_ _); (first | (with_reducible assumption) | omega | (simp <;> omega))))
      · go_enter Try.func32, Try.ntmps32
        go_wp2_with fail
        refine (behind70 _ _ _ HA.out HO.out (by omega)).mono ?_
        rintro e w1 ⟨rfl, hb⟩
        (replace B2 : Hid (Blk w1 (w.heap.size) _ _) := Blk.below (by repeat (first | (with_reducible exact B2.out) | ((with_reducible apply Blk.newAt); (first | (with_reducible rfl) | (simp <;> omega))) | (with_reducible apply Blk.alloc) | (with_reducible apply Blk.drew) | (with_reducible apply Blk.drewN) | (with_reducible apply Blk.set) | ((with_reducible apply Blk.setO); (first | (with_reducible assumption) | omega | (simp <;> omega))))) hb); (replace c2 := (B2.out).cell); (replace f2 := (B2.out).froz); (replace l2 := (B2.out).lt)
        (replace B3 : Hid (Blk w1 (w.heap.size + 1) _ _) := Blk.below (by repeat (first | (with_reducible exact B3.out) | ((with_reducible apply Blk.newAt); (first | (with_reducible rfl) | (simp <;> omega))) | (with_reducible apply Blk.alloc) | (with_reducible apply Blk.drew) | (with_reducible apply Blk.drewN) | (with_reducible apply Blk.set) | ((with_reducible apply Blk.setO); (first | (with_reducible assumption) | omega | (simp <;> omega))))) hb); (replace c3 := (B3.out).cell); (replace f3 := (B3.out).froz); (replace l3 := (B3.out).lt)
        (replace HB : Hid (Below w.heap.size w w1) := bCall (by repeat (first | (with_reducible exact HB.out) | (with_reducible apply bAl) | (with_reducible apply bDr) | (with_reducible apply bDrN) | ((with_reducible refine bSt ?_ ?_ _); (first | (with_reducible assumption) | omega | (simp <;> omega))))) hb); clear hb; (have := HB.out.size)
        go_wp2_with fail
        refine (behind70 _ _ _ HO.out HA.out (by omega)).mono ?_
        rintro e w2 ⟨rfl, hb⟩
        (replace HB : Hid (Below w.heap.size w w2) := bCall (by repeat (first | (with_reducible exact HB.out) | (with_reducible apply bAl) | (with_reducible apply bDr) | (with_reducible apply bDrN) | ((with_reducible refine bSt ?_ ?_ _); (first | (with_reducible assumption) | omega | (simp <;> omega))))) hb); clear hb; (have := HB.out.size)
        go_wp2
        go_ret
        refine ⟨retBool (by have g1 : ¬ a.size < 1 := by omega
                            have g2 : ¬ b.size < 1 := by omega
                            simp [apartB, g1, g2]), ?_⟩
        repeat (first | (with_reducible exact HB.out) | (with_reducible apply bAl) | (with_reducible apply bDr) | (with_reducible apply bDrN) | ((with_reducible refine bSt ?_ ?_ _); (first | (with_reducible assumption) | omega | (simp <;> omega))))
end Go.Proofs.Ytlegpbookbghbaa
