/- Disks: New: the walk; no condition. -/
import Derived.Test.YtlegpbookbghbaaG3
import Derived.Deep.OwnRows
set_option linter.unusedVariables false
set_option linter.unusedSimpArgs false
namespace Go.Proofs.Ytlegpbookbghbaa
open Go.RowKit Go.Deep

theorem made_eq (N : Nat) : madeCells #[.int .u8 0] N = (bcells (List.replicate N 0)).toArray := by
  apply Array.ext
  · simp [madeCells, bcells]
  · intro i h1 h2
    have : i % 1 = 0 := Nat.mod_one i
    simp [madeCells, bcells, this]
def newS (m s : Nat) : DiskS := ⟨m, s, List.replicate (m * s) 0, [], false, false, 0⟩
set_option maxRecDepth 100000 in set_option maxHeartbeats 2000000 in
theorem newBad45 (m s : Int) (w : World) (h : m < 1 ∨ 4096 < m ∨ s < 64 ∨ 1024 < s) :
    Calls Try.prog 45 #[.int .i64 m, .int .i64 s] w fun e w' => e = .returned (.tuple #[.pointer none, .int .i64 1]) ∧ w' = w := by
  by_cases h1 : m < 1
  · go_enter Try.func45, Try.ntmps45
    go_wp2
    go_ret2
    exact ⟨rfl, rfl⟩
  · by_cases h2 : 4096 < m
    · go_enter Try.func45, Try.ntmps45
      go_wp2
      go_ret2
      exact ⟨rfl, rfl⟩
    · by_cases h3 : s < 64
      · go_enter Try.func45, Try.ntmps45
        go_wp2
        go_ret2
        exact ⟨rfl, rfl⟩
      · have h4 : 1024 < s := by omega
        go_enter Try.func45, Try.ntmps45
        go_wp2
        go_ret2
        exact ⟨rfl, rfl⟩
set_option maxRecDepth 100000 in set_option maxHeartbeats 2000000 in
theorem new45 (m s : Nat) (w : World) (hm1 : 1 ≤ m) (hm2 : m ≤ 4096) (hs1 : 64 ≤ s) (hs2 : s ≤ 1024) :
    Calls Try.prog 45 #[.int .i64 m, .int .i64 s] w fun e w' => e = .returned (.tuple #[.pointer (some ⟨w.heap.size + 1 + 1, 0, none⟩), .int .i64 0]) ∧ Blk w' (w.heap.size + 1 + 1) #[.int .i64 (newS m s).many, .int .i64 (newS m s).size, .slice (some ⟨w.heap.size, 0, none⟩) ((newS m s).many * (newS m s).size) ((newS m s).many * (newS m s).size), .slice none (newS m s).pend.length 0, .slice none (newS m s).pend.length 0, .map (some (w.heap.size + 1)), .bool (newS m s).down, .bool (newS m s).breaks, .int .i64 (newS m s).left] 113 ∧
      Blk w' w.heap.size (bcells (newS m s).last).toArray 5 ∧ MapAt w' (w.heap.size + 1) 0 (.map []) ∧ w'.heap.size = w.heap.size + 1 + 1 + 1 ∧ Below w.heap.size w w' := by
  have hu113 := Try.underlying113
  have h3 : m * s ≤ 4096 * 1024 := Nat.mul_le_mul hm2 hs2
  have hmk := fun (W : World) => run_make_row' (P := Try.prog) 109 5 (.int .u8 0) 1 Try.underlying109 info5 rfl .i64 .i64 (m * s) (by omega) (by omega) W
  have hmm := @run_makeMap Try.prog
  have e1 : (m : Int) * (s : Int) = ((m * s : Nat) : Int) := by simp
  simp only [newS]
  have HB : Hid (Below w.heap.size w w) := Below.refl _ _
  generalize hN : m * s = N at *
  clear hN
  have i1 : (1 : Int) ≤ (m : Int) := by omega
  have i2 : (m : Int) ≤ 4096 := by omega
  have i3 : (64 : Int) ≤ (s : Int) := by omega
  have i4 : (s : Int) ≤ 1024 := by omega
  go_enter Try.func45, Try.ntmps45
  go_wp2
  go_ret2
  refine ⟨rfl, ?_, ?_, ?_, ?_, ?_⟩
  · repeat (first | ((with_reducible apply Blk.newAt); (first | (with_reducible rfl) | (simp <;> omega))) | (with_reducible apply Blk.alloc) | (with_reducible apply Blk.drew) | (with_reducible apply Blk.set) | ((with_reducible refine Blk.setO ?_ ?_ _); (first | (with_reducible assumption) | omega | (simp <;> omega))))
  · refine Blk.cast (cs' := madeCells #[.int .u8 0] N) ?_ (made_eq N)
    repeat (first | ((with_reducible apply Blk.newAt); (first | (with_reducible rfl) | (simp <;> omega))) | (with_reducible apply Blk.alloc) | (with_reducible apply Blk.drew) | (with_reducible apply Blk.set) | ((with_reducible refine Blk.setO ?_ ?_ _); (first | (with_reducible assumption) | omega | (simp <;> omega))))
  · have hm0 := (World.ownsMap_made (H := Unit) (w.alloc (.cells (madeCells #[.int .u8 0] N) 5)) Try.prog 3 (plainElem Try.prog 3)).alloc (.cells #[.int .i64 m, .int .i64 s, .slice (some ⟨w.heap.size, 0, none⟩) N N, .slice none 0 0, .slice none 0 0, .map (some (w.heap.size + 1)), .bool false, .bool false, .int .i64 0] 113)
    simpa using hm0
  · simp
  · repeat (first | (with_reducible exact HB.out) | (with_reducible apply bAl) | (with_reducible apply bDr) | (with_reducible apply bDrN) | ((with_reducible refine bSt ?_ ?_ _); (first | (with_reducible assumption) | omega | (simp <;> omega))))
end Go.Proofs.Ytlegpbookbghbaa
