/- What the rings' small functions answer (ranges, events, gaps, rooms, a ring's rightness; the program's and the document's): the walks; no condition. -/
import Derived.Test.YtlegpbookbghbaaA0
import Derived.Test.YtlegpbookbghbaaA1
namespace Go.Proofs.Ytlegpbookbghbaa
open Go.RowKit

theorem eqStep {P : Program} {d : Nat} {xs ys : Array Value} {f : Field} {fs : List Field} {a b : Value} {r s : Bool} {w : World}
    (hn : (f.name == "_") = false) (ha : (part f.type xs f.offset).run P w = .ok a w) (hb : (part f.type ys f.offset).run P w = .ok b w) (he : (Op.equalIn d f.type a b).run P w = .ok r w)
    (hr : (Op.eqFields d xs ys fs).run P w = .ok s w) : (Op.eqFields d xs ys (f :: fs)).run P w = .ok (r && s) w := by
  have hn' : f.name ≠ "_" := by simpa using hn
  rw [Op.eqFields]
  simp only [if_pos hn', Sem.run_bind, ha, hb, he, Result.andThen_ok]
  cases r
  · simp
  · simpa using hr
theorem eqNil {P : Program} {d : Nat} {xs ys : Array Value} {w : World} : (Op.eqFields d xs ys []).run P w = .ok true w := by simp [Op.eqFields]
theorem eqAgg {P : Program} {d : Nat} {xs ys : Array Value} {r : Bool} {w : World} {t : TypeId} {fs : Array Field} (hu : P.underlying t = some (.struct fs)) (hp : P.stoodInHeld t = false)
    (h : (Op.eqFields d xs ys fs.toList).run P w = .ok r w) : (Op.equalIn (d + 1) t (.agg xs) (.agg ys)).run P w = .ok r w := by
  have hf : P.fieldsOf t = fs := by simp [Program.fieldsOf, hu]
  rw [run_equalIn_struct (P := P) w d t xs ys (by rw [hf]; exact hu) hp, hf]
  exact h
theorem eqIn25 (d : Nat) (w : World) (x1 y1 x2 y2 x3 y3 x4 y4 x5 y5 x6 y6 : Int) :
    (Op.equalIn (d + 2) 25 (.agg #[.int .u64 x1, .int .i64 x2, .int .i64 x3, .int .i64 x4, .int .i64 x5, .int .i64 x6]) (.agg #[.int .u64 y1, .int .i64 y2, .int .i64 y3, .int .i64 y4, .int .i64 y5, .int .i64 y6])).run Try.prog w = .ok (evEq x1 y1 x2 y2 x3 y3 x4 y4 x5 y5 x6 y6) w := by
  have h : evEq x1 y1 x2 y2 x3 y3 x4 y4 x5 y5 x6 y6 = (x1 == y1 && (x2 == y2 && (x3 == y3 && (x4 == y4 && (x5 == y5 && (x6 == y6 && true)))))) := by simp [evEq]
  rw [h]
  refine eqAgg Try.underlying25 (by kernel_rfl) ?_
  refine eqStep (by rfl) (by go_simp; rfl) (by go_simp; rfl) (by go_simp) ?_
  refine eqStep (by rfl) (by go_simp; rfl) (by go_simp; rfl) (by go_simp) ?_
  refine eqStep (by rfl) (by go_simp; rfl) (by go_simp; rfl) (by go_simp) ?_
  refine eqStep (by rfl) (by go_simp; rfl) (by go_simp; rfl) (by go_simp) ?_
  refine eqStep (by rfl) (by go_simp; rfl) (by go_simp; rfl) (by go_simp) ?_
  exact eqStep (by rfl) (by go_simp; rfl) (by go_simp; rfl) (by go_simp) eqNil
theorem eqIn27 (d : Nat) (w : World) (x0 y0 x1 y1 x2 y2 x3 y3 x4 y4 x5 y5 x6 y6 : Int) :
    (Op.equalIn (d + 3) 27 (.agg #[.int .u64 x0, .int .u64 x1, .int .i64 x2, .int .i64 x3, .int .i64 x4, .int .i64 x5, .int .i64 x6]) (.agg #[.int .u64 y0, .int .u64 y1, .int .i64 y2, .int .i64 y3, .int .i64 y4, .int .i64 y5, .int .i64 y6])).run Try.prog w = .ok (entEq x0 y0 x1 y1 x2 y2 x3 y3 x4 y4 x5 y5 x6 y6) w := by
  have h : entEq x0 y0 x1 y1 x2 y2 x3 y3 x4 y4 x5 y5 x6 y6 = (x0 == y0 && (evEq x1 y1 x2 y2 x3 y3 x4 y4 x5 y5 x6 y6 && true)) := by simp [entEq, evEq]
  rw [h]
  refine eqAgg Try.underlying27 (by kernel_rfl) ?_
  refine eqStep (by rfl) (by go_simp; rfl) (by go_simp; rfl) (by go_simp) ?_
  exact eqStep (by rfl) (by go_simp) (by go_simp) (eqIn25 d w _ _ _ _ _ _ _ _ _ _ _ _) eqNil
attribute [local go_sem high] eqIn27

theorem within84 (n lo hi : Int) (w : World) :
    Calls Try.prog 84 #[.int .i64 n, .int .i64 lo, .int .i64 hi] w fun e w' => e = .returned (.bool (inB n lo hi)) ∧ w = w' := by
  go_enter Try.func84, Try.ntmps84
  go_wp2
  all_goals go_ret
  · exact ⟨by simp [*, inB], rfl⟩
  · exact ⟨by rw [inB, decide_eq_false (by omega)]; rfl, rfl⟩
theorem room53 (n : Int) (w : World) :
    Calls Try.prog 53 #[.int .i64 n] w fun e w' => e = .returned (.bool (roomB n)) ∧ w = w' := by
  go_enter Try.func53, Try.ntmps53
  go_wp2
  all_goals go_ret
  · exact ⟨by simp [*, roomB, inB], rfl⟩
  · exact ⟨by rw [roomB, inB, decide_eq_false (by omega)]; rfl, rfl⟩
theorem evIs54 (sq tk pt kd a b : Int) (w : World) :
    Calls Try.prog 54 #[.agg #[.int .u64 sq, .int .i64 tk, .int .i64 pt, .int .i64 kd, .int .i64 a, .int .i64 b]] w fun e w' => e = .returned (.bool (evIs ⟨sq, tk, pt, kd, a, b⟩)) ∧ Below w.heap.size w w' := by
  go_enter Try.func54, Try.ntmps54
  go_wp2_with (go_at_call 84; refine (within84 _ _ _ _).mono ?_; rintro e w' ⟨rfl, rfl⟩)
  all_goals go_ret
  all_goals exact ⟨by simp [*, evIs], belowAlloc _ _⟩
theorem refEvIs57 (sq tk pt kd a b : Int) (w : World) :
    Calls Try.prog 57 #[.agg #[.int .u64 sq, .int .i64 tk, .int .i64 pt, .int .i64 kd, .int .i64 a, .int .i64 b]] w fun e w' => e = .returned (.bool (evIs ⟨sq, tk, pt, kd, a, b⟩)) ∧ Below w.heap.size w w' := by
  go_enter Try.func57, Try.ntmps57
  go_wp2
  all_goals go_ret
  all_goals refine ⟨retBool ?_, belowAlloc _ _⟩
  all_goals (rw [Bool.eq_iff_iff]; simp [evIs, inB]; try omega)
set_option maxRecDepth 100000 in
theorem isGap59 (st sq tk pt kd a b : Int) (w : World) :
    Calls Try.prog 59 #[.agg #[.int .u64 st, .int .u64 sq, .int .i64 tk, .int .i64 pt, .int .i64 kd, .int .i64 a, .int .i64 b]] w fun e w' => e = .returned (.bool (isGap ⟨st, ⟨sq, tk, pt, kd, a, b⟩⟩)) ∧ Below w.heap.size w w' := by
  have hu27 := Try.underlying27
  have hu25 := Try.underlying25
  go_enter Try.func59, Try.ntmps59
  go_wp2_with (go_at_call 54; refine (evIs54 _ _ _ _ _ _ _).mono ?_; rintro e w' ⟨rfl, hb⟩; obtain ⟨hc, hf⟩ := bcell hb)
  all_goals go_ret
  · refine ⟨?_, belowAlloc _ _⟩
    rename_i h
    rw [entEq_iff] at h
    simp [isGap, ent0, ev0, of_decide_eq_true h]
  all_goals
    refine ⟨?_, (belowAlloc _ _).trans (Below.mono (by assumption) (by simp))⟩
    have h : entEq st 0 sq 0 tk 0 pt 0 kd 0 a 0 b 0 = false := by first | assumption | (simp only [*] at *; assumption)
    rw [entEq_iff] at h
    simp_all [isGap, ent0, ev0, gapB]
    try omega
end Go.Proofs.Ytlegpbookbghbaa
