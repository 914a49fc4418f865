/- What the rings' functions on whole rings answer: rightness, a new one, the head (the program's and the document's): the walks; no condition. -/
import Derived.Test.YtlegpbookbghbaaA2
namespace Go.Proofs.Ytlegpbookbghbaa
open Go.RowKit
attribute [local go_sem high] eqIn27

set_option maxRecDepth 100000 in
theorem ringIs21 (rm : Int) (A : Option Addr) (n c : Nat) (g0 g1 g2 g3 g4 g5 g6 : Int) (w : World) :
    Calls Try.prog 21 #[.agg #[.int .i64 rm, .slice A n c, .int .u64 g0, .int .u64 g1, .int .i64 g2, .int .i64 g3, .int .i64 g4, .int .i64 g5, .int .i64 g6]] w fun e w' =>
      e = .returned (.bool (ringIsN rm n ⟨g0, ⟨g1, g2, g3, g4, g5, g6⟩⟩)) ∧ Below w.heap.size w w' := by
  have hu29 := Try.underlying29
  have hu27 := Try.underlying27
  go_enter Try.func21, Try.ntmps21
  go_wp2_with (first | (go_at_call 53; refine (room53 _ _).mono ?_; rintro e w' ⟨rfl, rfl⟩) | (go_at_call 59; refine (isGap59 _ _ _ _ _ _ _ _).mono ?_; rintro e w' ⟨rfl, hb⟩))
  all_goals go_ret
  all_goals first
    | refine ⟨retBool ?_, (belowAlloc _ _).trans (Below.mono (by assumption) (by simp))⟩
    | refine ⟨retBool ?_, belowAlloc _ _⟩
  all_goals (simp_all [ringIsN]; try (intros; omega))
set_option maxRecDepth 100000 in
theorem hasGap55 (rm : Int) (A : Option Addr) (n c : Nat) (g0 g1 g2 g3 g4 g5 g6 : Int) (w : World) :
    Calls Try.prog 55 #[.agg #[.int .i64 rm, .slice A n c, .int .u64 g0, .int .u64 g1, .int .i64 g2, .int .i64 g3, .int .i64 g4, .int .i64 g5, .int .i64 g6]] w fun e w' =>
      e = .returned (.bool (g5 != 0)) ∧ Below w.heap.size w w' := by
  have hu29 := Try.underlying29
  have hu27 := Try.underlying27
  go_enter Try.func55, Try.ntmps55
  go_wp2
  go_ret
  exact ⟨rfl, belowAlloc _ _⟩
set_option maxRecDepth 100000 in
theorem refGap60 (st sq tk pt kd a b : Int) (w : World) :
    Calls Try.prog 60 #[.agg #[.int .u64 st, .int .u64 sq, .int .i64 tk, .int .i64 pt, .int .i64 kd, .int .i64 a, .int .i64 b]] w fun e w' => e = .returned (.bool (gapB ⟨st, ⟨sq, tk, pt, kd, a, b⟩⟩)) ∧ Below w.heap.size w w' := by
  have hu27 := Try.underlying27
  have hu25 := Try.underlying25
  go_enter Try.func60, Try.ntmps60
  go_wp2_with (go_at_call 57; refine (refEvIs57 _ _ _ _ _ _ _).mono ?_; rintro e w' ⟨rfl, hb⟩; obtain ⟨hc, hf⟩ := bcell hb)
  all_goals go_ret
  all_goals refine ⟨retBool ?_, (belowAlloc _ _).trans (Below.mono (by assumption) (by simp))⟩
  all_goals (simp_all [gapB]; try omega)
set_option maxRecDepth 100000 in
theorem refIs22 (rm : Int) (A : Option Addr) (n c : Nat) (g0 g1 g2 g3 g4 g5 g6 : Int) (w : World) :
    Calls Try.prog 22 #[.agg #[.int .i64 rm, .slice A n c, .int .u64 g0, .int .u64 g1, .int .i64 g2, .int .i64 g3, .int .i64 g4, .int .i64 g5, .int .i64 g6]] w fun e w' =>
      e = .returned (.bool (ringIsN rm n ⟨g0, ⟨g1, g2, g3, g4, g5, g6⟩⟩)) ∧ Below w.heap.size w w' := by
  have hu29 := Try.underlying29
  have hu27 := Try.underlying27
  have hE := entEq_iff g0 0 g1 0 g2 0 g3 0 g4 0 g5 0 g6 0
  have HE := Lib.hid hE
  clear hE
  go_enter Try.func22, Try.ntmps22
  go_wp2_with (go_at_call 60; refine (refGap60 _ _ _ _ _ _ _ _).mono ?_; rintro e w' ⟨rfl, hb⟩)
  all_goals go_ret
  all_goals have hE := HE.out
  all_goals first
    | refine ⟨retBool ?_, (belowAlloc _ _).trans (Below.mono (by assumption) (by simp))⟩
    | refine ⟨retBool ?_, belowAlloc _ _⟩
  all_goals (simp_all [ringIsN, roomB, inB, isGap, ent0, ev0]; try (intros; omega))
end Go.Proofs.Ytlegpbookbghbaa
