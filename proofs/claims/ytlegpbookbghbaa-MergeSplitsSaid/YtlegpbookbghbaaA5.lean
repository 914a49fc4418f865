/- New rings, entries of a stamp, heads, put (the program's and the document's): the walks; lengths at most 1000. -/
import Derived.Test.YtlegpbookbghbaaA4
namespace Go.Proofs.Ytlegpbookbghbaa
open Go.RowKit
attribute [local go_sem high] eqIn27

theorem entry23 (st : Int) (w : World) :
    Calls Try.prog 23 #[.int .u64 st] w fun e w' => e = .returned (.agg #[.int .u64 st, .int .u64 0, .int .i64 5, .int .i64 1, .int .i64 3, .int .i64 9, .int .i64 0]) ∧ Below w.heap.size w w' := by
  have hu27 := Try.underlying27
  have hu25 := Try.underlying25
  go_enter Try.func23, Try.ntmps23
  go_wp2
  exact bodyPost_ret (v := .agg #[.int .u64 st, .int .u64 0, .int .i64 5, .int .i64 1, .int .i64 3, .int .i64 9, .int .i64 0]) (by simp [results, Try.results23, go_sem]) rfl ⟨rfl, belowAlloc _ _⟩
def NewPost (w : World) (r : RingS × Int) (e : Ending) (w' : World) : Prop := e = .returned (.tuple #[ringVal none 0 r.1, .int .i64 r.2]) ∧ Below w.heap.size w w'
set_option maxRecDepth 100000 in
theorem new15 (rm : Int) (w : World) : Calls Try.prog 15 #[.int .i64 rm] w (NewPost w (newS rm)) := by
  have hu29 := Try.underlying29
  have hu27 := Try.underlying27
  cases hr : roomB rm
  · have hv : newS rm = (ring0, 2) := by simp [newS, hr]
    rw [hv]
    go_enter Try.func15, Try.ntmps15
    go_wp2_with (go_at_call 53; refine (room53 _ _).mono ?_; rintro e w' ⟨rfl, rfl⟩)
    exact bodyPost_ret (v := .tuple #[ringVal none 0 ring0, .int .i64 2]) (by simp [results, Try.results15, go_sem, ringVal, ring0, ent0, ev0]) rfl ⟨rfl, belowAlloc _ _⟩
  · have hv : newS rm = (⟨rm, [], ent0⟩, 0) := by simp [newS, hr]
    rw [hv]
    go_enter Try.func15, Try.ntmps15
    go_wp2_with (go_at_call 53; refine (room53 _ _).mono ?_; rintro e w' ⟨rfl, rfl⟩)
    exact bodyPost_ret (v := .tuple #[ringVal none 0 ⟨rm, [], ent0⟩, .int .i64 0]) (by simp [results, Try.results15, go_sem, ringVal, ent0, ev0]) rfl ⟨rfl, belowAlloc _ _⟩
set_option maxRecDepth 100000 in
theorem refNew16 (rm : Int) (w : World) : Calls Try.prog 16 #[.int .i64 rm] w (NewPost w (newS rm)) := by
  have hu29 := Try.underlying29
  have hu27 := Try.underlying27
  by_cases hr : 2 ≤ rm ∧ rm ≤ 64
  · have hv : newS rm = (⟨rm, [], ent0⟩, 0) := by simp [newS, roomB, inB, hr]
    obtain ⟨h1, h2⟩ := hr
    rw [hv]
    go_enter Try.func16, Try.ntmps16
    go_wp2
    exact bodyPost_ret (v := .tuple #[ringVal none 0 ⟨rm, [], ent0⟩, .int .i64 0]) (by simp [results, Try.results16, go_sem, ringVal, ent0, ev0]) rfl ⟨rfl, belowAlloc _ _⟩
  · have hv : newS rm = (ring0, 2) := by
      have : roomB rm = false := by
        rw [Bool.eq_false_iff]
        intro h
        exact hr (by simpa [roomB, inB] using h)
      simp [newS, this]
    rw [hv]
    by_cases h1 : rm < 2
    · go_enter Try.func16, Try.ntmps16
      go_wp2
      exact bodyPost_ret (v := .tuple #[ringVal none 0 ring0, .int .i64 2]) (by simp [results, Try.results16, go_sem, ringVal, ring0, ent0, ev0]) rfl ⟨rfl, belowAlloc _ _⟩
    · have h2 : 64 < rm := by omega
      have h3 : 2 ≤ rm := by omega
      go_enter Try.func16, Try.ntmps16
      go_wp2
      exact bodyPost_ret (v := .tuple #[ringVal none 0 ring0, .int .i64 2]) (by simp [results, Try.results16, go_sem, ringVal, ring0, ent0, ev0]) rfl ⟨rfl, belowAlloc _ _⟩
end Go.Proofs.Ytlegpbookbghbaa
