/- Disks: Break, settle, sector, Image: the walks; the disk lies in blocks of its own. -/
import Derived.Test.YtlegpbookbghbaaG1
set_option linter.unusedVariables false
set_option linter.unusedSimpArgs false
namespace Go.Proofs.Ytlegpbookbghbaa
open Go.RowKit Go.ChangeMaps Go.MapKept
open Go.WideElems (Fit rd rg pl rd_val elemAt)
open Go.Maps (Keyed)

set_option maxRecDepth 100000 in set_option maxHeartbeats 2000000 in
theorem break46 (D : DiskS) (kd kl km : Nat) (pA wA : Option Addr) (pc wc : Nat) (n : Int) (w : World) (hB : Blk w kd #[.int .i64 D.many, .int .i64 D.size, .slice (some ⟨kl, 0, none⟩) (D.many * D.size) (D.many * D.size), .slice pA D.pend.length pc, .slice wA D.pend.length wc, .map (some km), .bool D.down, .bool D.breaks, .int .i64 D.left] 113) (hn : 0 ≤ n) :
    Calls Try.prog 46 #[.pointer (some ⟨kd, 0, none⟩), .int .i64 n] w fun e w' => e = .returned (.int .i64 0) ∧ Blk w' kd #[.int .i64 ({ D with breaks := decide (0 < n), left := n, down := decide (n = 0) } : DiskS).many, .int .i64 ({ D with breaks := decide (0 < n), left := n, down := decide (n = 0) } : DiskS).size, .slice (some ⟨kl, 0, none⟩) (({ D with breaks := decide (0 < n), left := n, down := decide (n = 0) } : DiskS).many * ({ D with breaks := decide (0 < n), left := n, down := decide (n = 0) } : DiskS).size) (({ D with breaks := decide (0 < n), left := n, down := decide (n = 0) } : DiskS).many * ({ D with breaks := decide (0 < n), left := n, down := decide (n = 0) } : DiskS).size), .slice pA ({ D with breaks := decide (0 < n), left := n, down := decide (n = 0) } : DiskS).pend.length pc, .slice wA ({ D with breaks := decide (0 < n), left := n, down := decide (n = 0) } : DiskS).pend.length wc, .map (some km), .bool ({ D with breaks := decide (0 < n), left := n, down := decide (n = 0) } : DiskS).down, .bool ({ D with breaks := decide (0 < n), left := n, down := decide (n = 0) } : DiskS).breaks, .int .i64 ({ D with breaks := decide (0 < n), left := n, down := decide (n = 0) } : DiskS).left] 113 ∧ Only (fun k => k = kd) w w' := by
  have hu113 := Try.underlying113
  have B0 := Lib.hid hB
  have c0 := hB.cell
  have f0 := hB.froz
  clear hB
  go_enter Try.func46, Try.ntmps46
  go_wp2
  go_ret
  refine ⟨rfl, ?_, by repeat (first | (with_reducible exact Only.refl _ _) | (with_reducible apply Only.alloc) | (with_reducible apply Only.drew) | ((with_reducible refine Only.set ?_ ?_ _); (first | (with_reducible exact .inl rfl) | (simp <;> omega))))⟩
  (apply Blk.cast); (focus (repeat (first | (with_reducible exact B0.out) | ((with_reducible apply Blk.newAt); (first | (with_reducible rfl) | (simp <;> omega))) | (with_reducible apply Blk.alloc) | (with_reducible apply Blk.drew) | (with_reducible apply Blk.drewN) | (with_reducible apply Blk.set) | ((with_reducible apply Blk.setO); (first | (with_reducible assumption) | omega | (simp <;> omega)))))); simp only [List.setIfInBounds_toArray, List.set_cons_zero, List.set_cons_succ]
  rfl
abbrev MapAt (w : World) (km n : Nat) (M : DataW Unit) : Prop := w.ownsMap Try.prog 3 (plainElem Try.prog 3) km n M
theorem runClear {W : World} {km n : Nat} {M : DataW Unit} (h : MapAt W km n M) (ty : TypeId) : ∃ w1, (Builtin.clear_ #[111] ty #[.map (some km)]).run Try.prog W = .ok (.tuple #[]) w1 ∧ MapAt w1 km 0 (.map []) ∧ W.grownBy w1 (some km) := by
  obtain ⟨es, clock, hb, F, hs, rfl⟩ := h
  refine ⟨setBlock W km (.map #[] clock), ?_, ⟨#[], clock, heap_setBlock_same hb _, ⟨by simp, stamped_empty clock, by simp⟩, Nat.le_refl _, rfl⟩, ⟨rfl, rfl, rfl, by simp [setBlock], fun i _ hi => heap_setBlock_other hb _ (fun e => hi (by rw [e]))⟩⟩
  simp [Builtin.clear_, run_underlying Try.underlying111, MapKept.run_getObj_map hb, run_setObj_map _ hb, Result.andThen, setBlock]
theorem mapBlk_ne {w : World} {k km n : Nat} {cs : Array Value} {t : TypeId} {M : DataW Unit} (h : Blk w k cs t) (hm : MapAt w km n M) : k ≠ km := by
  rintro rfl
  obtain ⟨es, clock, hb, _⟩ := hm
  unfold Blk at h
  rw [h] at hb
  cases hb
set_option maxRecDepth 100000 in set_option maxHeartbeats 2000000 in
theorem settle76 (D : DiskS) (kd kl km : Nat) (pA wA : Option Addr) (pc wc : Nat) (n : Nat) (M : DataW Unit) (w : World) (hB : Blk w kd #[.int .i64 D.many, .int .i64 D.size, .slice (some ⟨kl, 0, none⟩) (D.many * D.size) (D.many * D.size), .slice pA D.pend.length pc, .slice wA D.pend.length wc, .map (some km), .bool D.down, .bool D.breaks, .int .i64 D.left] 113) (hM : MapAt w km n M) :
    Calls Try.prog 76 #[.pointer (some ⟨kd, 0, none⟩)] w fun e w' => (∃ v, e = .returned v) ∧ Blk w' kd #[.int .i64 ({ D with pend := [] } : DiskS).many, .int .i64 ({ D with pend := [] } : DiskS).size, .slice (some ⟨kl, 0, none⟩) (({ D with pend := [] } : DiskS).many * ({ D with pend := [] } : DiskS).size) (({ D with pend := [] } : DiskS).many * ({ D with pend := [] } : DiskS).size), .slice none ({ D with pend := [] } : DiskS).pend.length 0, .slice none ({ D with pend := [] } : DiskS).pend.length 0, .map (some km), .bool ({ D with pend := [] } : DiskS).down, .bool ({ D with pend := [] } : DiskS).breaks, .int .i64 ({ D with pend := [] } : DiskS).left] 113 ∧ MapAt w' km 0 (.map []) ∧ Only (fun k => k = kd ∨ k = km) w w' := by
  have hu113 := Try.underlying113
  have hu111 := Try.underlying111
  have B0 := Lib.hid hB
  have hne := mapBlk_ne hB hM
  have HM := Lib.hid hM
  have c0 := hB.cell
  have f0 := hB.froz
  obtain ⟨w1, hr, hm1, hg1⟩ := runClear ((hM.setCell (a := ⟨kd, 3, none⟩) (Ne.symm hne) (.slice none 0 0)).setCell (a := ⟨kd, 4, none⟩) (Ne.symm hne) (.slice none 0 0)) 0
  have hB1 : Blk w1 kd #[.int .i64 ({ D with pend := [] } : DiskS).many, .int .i64 ({ D with pend := [] } : DiskS).size, .slice (some ⟨kl, 0, none⟩) (({ D with pend := [] } : DiskS).many * ({ D with pend := [] } : DiskS).size) (({ D with pend := [] } : DiskS).many * ({ D with pend := [] } : DiskS).size), .slice none ({ D with pend := [] } : DiskS).pend.length 0, .slice none ({ D with pend := [] } : DiskS).pend.length 0, .map (some km), .bool ({ D with pend := [] } : DiskS).down, .bool ({ D with pend := [] } : DiskS).breaks, .int .i64 ({ D with pend := [] } : DiskS).left] 113 := by
    refine (Only.ofGrown hg1).blk ?_ (by exact hne)
    (apply Blk.cast); (focus (repeat (first | (with_reducible exact B0.out) | ((with_reducible apply Blk.newAt); (first | (with_reducible rfl) | (simp <;> omega))) | (with_reducible apply Blk.alloc) | (with_reducible apply Blk.drew) | (with_reducible apply Blk.drewN) | (with_reducible apply Blk.set) | ((with_reducible apply Blk.setO); (first | (with_reducible assumption) | omega | (simp <;> omega)))))); simp only [List.setIfInBounds_toArray, List.set_cons_zero, List.set_cons_succ]
    rfl
  have HF := Lib.hid (And.intro hm1 hB1)
  have ho : Only (fun k => k = kd ∨ k = km) w w1 := by
    refine Only.trans ?_ ((Only.ofGrown hg1).mono fun k _ h => .inr h)
    refine Only.set (.inl (.inl rfl)) (Only.set (.inl (.inl rfl)) (Only.refl _ _) _) _
  have HO := Lib.hid ho
  clear hB hM hm1 hg1 hB1 ho
  go_enter Try.func76, Try.ntmps76
  go_wp2
  refine bodyPost_end (v := .tuple #[]) (by simp [results, Try.results76, go_sem]) rfl ?_
  refine ⟨⟨_, rfl⟩, ?_, HF.out.1, HO.out⟩
  exact HF.out.2
end Go.Proofs.Ytlegpbookbghbaa
