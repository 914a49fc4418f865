/- The rules of a plan: the closures; the plan lies in memory. -/
import Derived.Test.YtlegpbookbghbaaD2
set_option linter.unusedVariables false
set_option linter.unusedSimpArgs false
namespace Go.Proofs.Ytlegpbookbghbaa
open Go.RowKit

def numbersB (p : PlanS) : Bool := !(withinB p.mem 1 4096) || !(withinB p.parts.length 1 8) || !(withinB p.wins.length 1 32) || decide (16 < (p.chans.length : Int))
def partB0 (m : Int) (x : PartS) : Bool := decide (x.base < 0) || decide (x.size < 1) || decide (m - x.base < x.size)
def partB1 (l : List PartS) (i : Nat) (x : PartS) : Bool := (l.take i).any fun y => !apartB y x
def partB2 (x : PartS) : Bool := !(withinB x.ring 2 64) || !(withinB x.cl 1 256) || !(withinB x.again 0 100)
def partB3 (x : PartS) : Bool := !(withinB x.fault 1 3)
def winB0 (n : Nat) (x : WinS) : Bool := !(withinB x.part (-1) ((n : Int) - 1))
def winB1 (x : WinS) : Bool := !(withinB x.ticks 1 1000)
def traceB (p : PlanS) : Bool := decide (sumT drainW p.wins = 0)
def chanB0 (x : ChanS) : Bool := !(withinB x.kind 1 2)
def chanB1 (n : Nat) (x : ChanS) : Bool := !(withinB x.from_ 0 ((n : Int) - 1)) || !(withinB x.to_ 0 ((n : Int) - 1)) || decide (x.from_ = x.to_)
def chanB2 (x : ChanS) : Bool := !(withinB x.size 1 8) || !(withinB x.depth 1 16) || (decide (x.kind = 1) && !(decide (x.depth = 1)))

set_option maxRecDepth 100000 in set_option maxHeartbeats 1000000 in
theorem numbers85 (p : PlanS) (A B C : Option Addr) (a b c : Nat) (kb : Nat) (w : World) (c0 : ∀ j, w.cell? ⟨kb, j, none⟩ = (#[.int .i64 p.mem, .slice A p.parts.length a, .slice B p.wins.length b, .slice C p.chans.length c] : Array Value)[j]?) :
    Calls Try.prog 85 #[.pointer (some ⟨kb, 0, none⟩)] w fun e w' => e = .returned (.bool (numbersB p)) ∧ w' = w := by
  have hu50 := Try.underlying50
  cases h1 : withinB p.mem 1 4096
  · have H1 := Lib.hid h1
    have hv : numbersB p = true := by simp [numbersB, h1]
    rw [hv]; clear h1 hv
    go_enter Try.func85, Try.ntmps85
    go_wp2_with fail
    refine (within86 _ _ _ _).mono ?_; rw [H1.out]; rintro e w1 ⟨rfl, rfl⟩
    go_wp2
    go_ret
    exact ⟨rfl, rfl⟩
  · cases h2 : withinB p.parts.length 1 8
    · have H1 := Lib.hid h1
      have H2 := Lib.hid h2
      have hv : numbersB p = true := by simp [numbersB, h1, h2]
      rw [hv]; clear h1 h2 hv
      go_enter Try.func85, Try.ntmps85
      go_wp2_with fail
      refine (within86 _ _ _ _).mono ?_; rw [H1.out]; rintro e w1 ⟨rfl, rfl⟩
      go_wp2_with fail
      refine (within86 _ _ _ _).mono ?_; rw [H2.out]; rintro e w1 ⟨rfl, rfl⟩
      go_wp2
      go_ret
      exact ⟨rfl, rfl⟩
    · cases h3 : withinB p.wins.length 1 32
      · have H1 := Lib.hid h1
        have H2 := Lib.hid h2
        have H3 := Lib.hid h3
        have hv : numbersB p = true := by simp [numbersB, h1, h2, h3]
        rw [hv]; clear h1 h2 h3 hv
        go_enter Try.func85, Try.ntmps85
        go_wp2_with fail
        refine (within86 _ _ _ _).mono ?_; rw [H1.out]; rintro e w1 ⟨rfl, rfl⟩
        go_wp2_with fail
        refine (within86 _ _ _ _).mono ?_; rw [H2.out]; rintro e w1 ⟨rfl, rfl⟩
        go_wp2_with fail
        refine (within86 _ _ _ _).mono ?_; rw [H3.out]; rintro e w1 ⟨rfl, rfl⟩
        go_wp2
        go_ret
        exact ⟨rfl, rfl⟩
      · have H1 := Lib.hid h1
        have H2 := Lib.hid h2
        have H3 := Lib.hid h3
        have hv : numbersB p = decide (16 < (p.chans.length : Int)) := by simp [numbersB, h1, h2, h3]
        rw [hv]; clear h1 h2 h3 hv
        go_enter Try.func85, Try.ntmps85
        go_wp2_with fail
        refine (within86 _ _ _ _).mono ?_; rw [H1.out]; rintro e w1 ⟨rfl, rfl⟩
        go_wp2_with fail
        refine (within86 _ _ _ _).mono ?_; rw [H2.out]; rintro e w1 ⟨rfl, rfl⟩
        go_wp2_with fail
        refine (within86 _ _ _ _).mono ?_; rw [H3.out]; rintro e w1 ⟨rfl, rfl⟩
        go_wp2
        go_ret
        exact ⟨rfl, rfl⟩
set_option maxRecDepth 100000 in set_option maxHeartbeats 1000000 in
theorem part90 (p : PlanS) (A B C : Option Addr) (a b c : Nat) (kb ka at_ : Nat) (i : Nat) (w : World) (c0 : ∀ j, w.cell? ⟨kb, j, none⟩ = (#[.int .i64 p.mem, .slice A p.parts.length a, .slice B p.wins.length b, .slice C p.chans.length c] : Array Value)[j]?) (c1 : w.cell? ⟨ka, 0, none⟩ = some (.pointer (some ⟨at_, 0, none⟩))) (c2 : w.cell? ⟨at_, 0, none⟩ = some (.int .i64 i)) (hA : Rd w A (partCells p.parts)) (hi : i < p.parts.length) :
    Calls Try.prog 90 #[.pointer (some ⟨kb, 0, none⟩), .pointer (some ⟨ka, 0, none⟩)] w fun e w' => e = .returned (.bool (partB3 p.parts[i])) ∧ Below w.heap.size w w' := by
  have hu50 := Try.underlying50
  have hu55 := Try.underlying55
  obtain ⟨b', o', rfl, s0, s1, s2, s3, s4, s5⟩ := hA.part i hi
  have hi' : (i : Int) < (p.parts.length : Int) := by omega
  clear hA
  go_enter Try.func90, Try.ntmps90
  go_wp2_with fail
  go_quiet (first | (go_at_call 86; refine Calls.quiet_of_same (within86 _ _ _ _)))
  go_wp2
  go_ret
  exact ⟨rfl, bDrN (Below.refl _ _) _⟩
set_option maxRecDepth 100000 in set_option maxHeartbeats 1000000 in
theorem win91 (p : PlanS) (A B C : Option Addr) (a b c : Nat) (kb ka at_ : Nat) (i : Nat) (w : World) (c0 : ∀ j, w.cell? ⟨kb, j, none⟩ = (#[.int .i64 p.mem, .slice A p.parts.length a, .slice B p.wins.length b, .slice C p.chans.length c] : Array Value)[j]?) (c1 : w.cell? ⟨ka, 0, none⟩ = some (.pointer (some ⟨at_, 0, none⟩))) (c2 : w.cell? ⟨at_, 0, none⟩ = some (.int .i64 i)) (hA : Rd w B (winCells p.wins)) (hi : i < p.wins.length) (hn : p.parts.length ≤ 20) :
    Calls Try.prog 91 #[.pointer (some ⟨kb, 0, none⟩), .pointer (some ⟨ka, 0, none⟩)] w fun e w' => e = .returned (.bool (winB0 p.parts.length p.wins[i])) ∧ Below w.heap.size w w' := by
  have hu50 := Try.underlying50
  have hu61 := Try.underlying61
  obtain ⟨b', o', rfl, s0, s1⟩ := hA.win i hi
  have hi' : (i : Int) < (p.wins.length : Int) := by omega
  clear hA
  go_enter Try.func91, Try.ntmps91
  go_wp2_with fail
  go_quiet (first | (go_at_call 86; refine Calls.quiet_of_same (within86 _ _ _ _)))
  go_wp2
  go_ret
  exact ⟨rfl, bDrN (Below.refl _ _) _⟩
set_option maxRecDepth 100000 in set_option maxHeartbeats 1000000 in
theorem win92 (p : PlanS) (A B C : Option Addr) (a b c : Nat) (kb ka at_ : Nat) (i : Nat) (w : World) (c0 : ∀ j, w.cell? ⟨kb, j, none⟩ = (#[.int .i64 p.mem, .slice A p.parts.length a, .slice B p.wins.length b, .slice C p.chans.length c] : Array Value)[j]?) (c1 : w.cell? ⟨ka, 0, none⟩ = some (.pointer (some ⟨at_, 0, none⟩))) (c2 : w.cell? ⟨at_, 0, none⟩ = some (.int .i64 i)) (hA : Rd w B (winCells p.wins)) (hi : i < p.wins.length) :
    Calls Try.prog 92 #[.pointer (some ⟨kb, 0, none⟩), .pointer (some ⟨ka, 0, none⟩)] w fun e w' => e = .returned (.bool (winB1 p.wins[i])) ∧ Below w.heap.size w w' := by
  have hu50 := Try.underlying50
  have hu61 := Try.underlying61
  obtain ⟨b', o', rfl, s0, s1⟩ := hA.win i hi
  have hi' : (i : Int) < (p.wins.length : Int) := by omega
  clear hA
  go_enter Try.func92, Try.ntmps92
  go_wp2_with fail
  go_quiet (first | (go_at_call 86; refine Calls.quiet_of_same (within86 _ _ _ _)))
  go_wp2
  go_ret
  exact ⟨rfl, bDrN (Below.refl _ _) _⟩
set_option maxRecDepth 100000 in set_option maxHeartbeats 1000000 in
theorem chan94 (p : PlanS) (A B C : Option Addr) (a b c : Nat) (kb ka at_ : Nat) (i : Nat) (w : World) (c0 : ∀ j, w.cell? ⟨kb, j, none⟩ = (#[.int .i64 p.mem, .slice A p.parts.length a, .slice B p.wins.length b, .slice C p.chans.length c] : Array Value)[j]?) (c1 : w.cell? ⟨ka, 0, none⟩ = some (.pointer (some ⟨at_, 0, none⟩))) (c2 : w.cell? ⟨at_, 0, none⟩ = some (.int .i64 i)) (hA : Rd w C (chanCells p.chans)) (hi : i < p.chans.length) :
    Calls Try.prog 94 #[.pointer (some ⟨kb, 0, none⟩), .pointer (some ⟨ka, 0, none⟩)] w fun e w' => e = .returned (.bool (chanB0 p.chans[i])) ∧ Below w.heap.size w w' := by
  have hu50 := Try.underlying50
  have hu63 := Try.underlying63
  obtain ⟨b', o', rfl, s0, s1, s2, s3, s4⟩ := hA.chan i hi
  have hi' : (i : Int) < (p.chans.length : Int) := by omega
  clear hA
  go_enter Try.func94, Try.ntmps94
  go_wp2_with fail
  go_quiet (first | (go_at_call 86; refine Calls.quiet_of_same (within86 _ _ _ _)))
  go_wp2
  go_ret
  exact ⟨rfl, bDrN (Below.refl _ _) _⟩
set_option maxRecDepth 100000 in set_option maxHeartbeats 1000000 in
theorem trace93 (p : PlanS) (A B C : Option Addr) (a b c : Nat) (kb : Nat) (w : World) (c0 : ∀ j, w.cell? ⟨kb, j, none⟩ = (#[.int .i64 p.mem, .slice A p.parts.length a, .slice B p.wins.length b, .slice C p.chans.length c] : Array Value)[j]?) (hB : Rd w B (winCells p.wins)) (hl : p.wins.length ≤ 100) :
    Calls Try.prog 93 #[.pointer (some ⟨kb, 0, none⟩)] w fun e w' => e = .returned (.bool (traceB p)) ∧ Below w.heap.size w w' := by
  have hu50 := Try.underlying50
  have HR : Hid (Rd w B (winCells p.wins)) := hB
  have HB : Hid (Below w.heap.size w w) := Below.refl _ _
  clear hB
  go_enter Try.func93, Try.ntmps93
  go_wp2_with fail
  refine (drains35 p A B C a b c _ ?hR hl).mono ?_
  case hR => exact HR.out.below (by repeat (first | (with_reducible exact HB.out) | (with_reducible apply bAl) | (with_reducible apply bDr) | (with_reducible apply bDrN) | ((with_reducible refine bSt ?_ ?_ _); (first | (with_reducible assumption) | omega | (simp <;> omega)))))
  rintro e w1 ⟨rfl, hb⟩
  (replace HB : Hid (Below w.heap.size w w1) := bCall (by repeat (first | (with_reducible exact HB.out) | (with_reducible apply bAl) | (with_reducible apply bDr) | (with_reducible apply bDrN) | ((with_reducible refine bSt ?_ ?_ _); (first | (with_reducible assumption) | omega | (simp <;> omega))))) hb); clear hb; (have := HB.out.size)
  go_wp2
  go_ret
  exact ⟨retBool (by unfold traceB; rw [Bool.eq_iff_iff]; simp), HB.out⟩
end Go.Proofs.Ytlegpbookbghbaa
