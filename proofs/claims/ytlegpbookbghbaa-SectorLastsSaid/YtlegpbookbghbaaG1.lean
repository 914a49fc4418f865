/- Disks: refuse, count, settle, sector, Pending, Break: the walks; the disk lies in blocks of its own. -/
import Derived.Test.YtlegpbookbghbaaG0
set_option linter.unusedVariables false
set_option linter.unusedSimpArgs false
namespace Go.Proofs.Ytlegpbookbghbaa
open Go.RowKit

def refuseS (D : DiskS) (at_ : Int) : Int := if D.down then 9 else if at_ < 0 ∨ (D.many : Int) ≤ at_ then 6 else 0
def countS (D : DiskS) : DiskS := if D.breaks then (if D.left = 1 then { D with left := 0, breaks := false, down := true } else { D with left := D.left - 1 }) else D
set_option maxRecDepth 100000 in set_option maxHeartbeats 2000000 in
theorem refuse77 (D : DiskS) (kd kl km : Nat) (pA wA : Option Addr) (pc wc : Nat) (at_ : Int) (w : World) (c0 : ∀ j, w.cell? ⟨kd, j, none⟩ = (#[.int .i64 D.many, .int .i64 D.size, .slice (some ⟨kl, 0, none⟩) (D.many * D.size) (D.many * D.size), .slice pA D.pend.length pc, .slice wA D.pend.length wc, .map (some km), .bool D.down, .bool D.breaks, .int .i64 D.left] : Array Value)[j]?) :
    Calls Try.prog 77 #[.pointer (some ⟨kd, 0, none⟩), .int .i64 at_] w fun e w' => e = .returned (.int .i64 (refuseS D at_)) ∧ w' = w := by
  have hu113 := Try.underlying113
  cases hd : D.down
  · rw [hd] at c0
    by_cases h1 : at_ < 0
    · have hv : refuseS D at_ = 6 := by simp [refuseS, hd, h1]
      rw [hv]; clear hv
      go_enter Try.func77, Try.ntmps77
      go_wp2
      go_ret
      exact ⟨rfl, rfl⟩
    · by_cases h2 : (D.many : Int) ≤ at_
      · have hv : refuseS D at_ = 6 := by simp [refuseS, hd, h2]
        rw [hv]; clear hv
        go_enter Try.func77, Try.ntmps77
        go_wp2
        go_ret
        exact ⟨rfl, rfl⟩
      · have hv : refuseS D at_ = 0 := by simp [refuseS, hd, h1, h2]
        rw [hv]; clear hv
        go_enter Try.func77, Try.ntmps77
        go_wp2
        go_ret
        exact ⟨rfl, rfl⟩
  · rw [hd] at c0
    have hv : refuseS D at_ = 9 := by simp [refuseS, hd]
    rw [hv]; clear hv
    go_enter Try.func77, Try.ntmps77
    go_wp2
    go_ret
    exact ⟨rfl, rfl⟩
set_option maxRecDepth 100000 in set_option maxHeartbeats 2000000 in
theorem pending41 (D : DiskS) (kd kl km : Nat) (pA wA : Option Addr) (pc wc : Nat) (w : World) (c0 : ∀ j, w.cell? ⟨kd, j, none⟩ = (#[.int .i64 D.many, .int .i64 D.size, .slice (some ⟨kl, 0, none⟩) (D.many * D.size) (D.many * D.size), .slice pA D.pend.length pc, .slice wA D.pend.length wc, .map (some km), .bool D.down, .bool D.breaks, .int .i64 D.left] : Array Value)[j]?) :
    Calls Try.prog 41 #[.pointer (some ⟨kd, 0, none⟩)] w fun e w' => e = .returned (.int .i64 D.pend.length) ∧ w' = w := by
  have hu113 := Try.underlying113
  go_enter Try.func41, Try.ntmps41
  go_wp2
  go_ret
  exact ⟨rfl, rfl⟩
set_option maxRecDepth 100000 in set_option maxHeartbeats 2000000 in
theorem count78 (D : DiskS) (kd kl km : Nat) (pA wA : Option Addr) (pc wc : Nat) (w : World) (hB : Blk w kd #[.int .i64 D.many, .int .i64 D.size, .slice (some ⟨kl, 0, none⟩) (D.many * D.size) (D.many * D.size), .slice pA D.pend.length pc, .slice wA D.pend.length wc, .map (some km), .bool D.down, .bool D.breaks, .int .i64 D.left] 113) (hl : D.breaks = true → 1 ≤ D.left ∧ D.left ≤ 9223372036854775807) :
    Calls Try.prog 78 #[.pointer (some ⟨kd, 0, none⟩)] w fun e w' => (∃ v, e = .returned v) ∧ Blk w' kd #[.int .i64 (countS D).many, .int .i64 (countS D).size, .slice (some ⟨kl, 0, none⟩) ((countS D).many * (countS D).size) ((countS D).many * (countS D).size), .slice pA (countS D).pend.length pc, .slice wA (countS D).pend.length wc, .map (some km), .bool (countS D).down, .bool (countS D).breaks, .int .i64 (countS D).left] 113 ∧ Only (fun k => k = kd) w w' := by
  have hu113 := Try.underlying113
  cases hd : D.breaks
  · have hv : countS D = D := by simp [countS, hd]
    rw [hv]; clear hv
    have B0 := Lib.hid hB
    rw [hd] at hB
    have c0 := hB.cell
    clear hB hl
    go_enter Try.func78, Try.ntmps78
    go_wp2
    refine bodyPost_ret (v := .tuple #[]) (by simp [results, Try.results78, go_sem]) rfl ?_
    exact ⟨⟨_, rfl⟩, B0.out, Only.refl _ _⟩
  · obtain ⟨hl1, hl2⟩ := hl hd
    by_cases h1 : D.left = 1
    · have hv : countS D = { D with left := 0, breaks := false, down := true } := by simp [countS, hd, h1]
      rw [hv]; clear hv
      rw [hd, h1] at hB
      have B0 := Lib.hid hB
      have c0 := hB.cell
      have f0 := hB.froz
      clear hB
      go_enter Try.func78, Try.ntmps78
      go_wp2
      refine bodyPost_end (v := .tuple #[]) (by simp [results, Try.results78, go_sem]) rfl ?_
      refine ⟨⟨_, rfl⟩, ?_, by repeat (first | (with_reducible exact Only.refl _ _) | (with_reducible apply Only.alloc) | (with_reducible apply Only.drew) | ((with_reducible refine Only.set ?_ ?_ _); (first | (with_reducible exact .inl rfl) | (simp <;> omega))))⟩
      (apply Blk.cast); (focus (repeat (first | (with_reducible exact B0.out) | ((with_reducible apply Blk.newAt); (first | (with_reducible rfl) | (simp <;> omega))) | (with_reducible apply Blk.alloc) | (with_reducible apply Blk.drew) | (with_reducible apply Blk.drewN) | (with_reducible apply Blk.set) | ((with_reducible apply Blk.setO); (first | (with_reducible assumption) | omega | (simp <;> omega)))))); simp only [List.setIfInBounds_toArray, List.set_cons_zero, List.set_cons_succ]
    · have hv : countS D = { D with left := D.left - 1 } := by simp [countS, hd, h1]
      rw [hv]; clear hv
      rw [hd] at hB
      have B0 := Lib.hid hB
      have c0 := hB.cell
      have f0 := hB.froz
      clear hB
      have h2 : ¬ D.left - 1 = 0 := by omega
      have h3 : (D.left - 1 == 0) = false := by simp; omega
      go_enter Try.func78, Try.ntmps78
      go_wp2
      refine bodyPost_end (v := .tuple #[]) (by simp [results, Try.results78, go_sem]) rfl ?_
      refine ⟨⟨_, rfl⟩, ?_, by repeat (first | (with_reducible exact Only.refl _ _) | (with_reducible apply Only.alloc) | (with_reducible apply Only.drew) | ((with_reducible refine Only.set ?_ ?_ _); (first | (with_reducible exact .inl rfl) | (simp <;> omega))))⟩
      simp only [hd]
      (apply Blk.cast); (focus (repeat (first | (with_reducible exact B0.out) | ((with_reducible apply Blk.newAt); (first | (with_reducible rfl) | (simp <;> omega))) | (with_reducible apply Blk.alloc) | (with_reducible apply Blk.drew) | (with_reducible apply Blk.drewN) | (with_reducible apply Blk.set) | ((with_reducible apply Blk.setO); (first | (with_reducible assumption) | omega | (simp <;> omega)))))); simp only [List.setIfInBounds_toArray, List.set_cons_zero, List.set_cons_succ]
end Go.Proofs.Ytlegpbookbghbaa
