/- ConfigChecks: the walk; the partitions' numbers are int64's. -/
import Derived.Test.YtlegpbookbghbaaF0
set_option linter.unusedVariables false
set_option linter.unusedSimpArgs false
namespace Go.Proofs.Ytlegpbookbghbaa
open Go.RowKit

set_option maxRecDepth 100000 in set_option maxHeartbeats 2000000 in
theorem configChecks6 (p : PlanS) (A B C : Option Addr) (a b c : Nat) (w : World) (hA : Rd w A (partCells p.parts)) (hB : Rd w B (winCells p.wins)) (hC : Rd w C (chanCells p.chans)) (ho : ∀ x ∈ p.parts, x.Ok) :
    Calls Try.prog 6 #[.agg #[.int .i64 p.mem, .slice A p.parts.length a, .slice B p.wins.length b, .slice C p.chans.length c]] w fun e w' => e = .returned (.bool true) ∧ Below w.heap.size w w' := by
  have hu50 := Try.underlying50
  have HB : Hid (Below w.heap.size w w) := Below.refl _ _
  have HM : Hid (Rd w A (partCells p.parts) ∧ Rd w B (winCells p.wins) ∧ Rd w C (chanCells p.chans)) := ⟨hA, hB, hC⟩
  have HO := Lib.hid ho
  clear hA hB hC ho
  go_enter Try.func6, Try.ntmps6
  go_wp2_with fail
  refine (big27 p A B C a b c _ (HM.out.1.below (by repeat (first | (with_reducible exact HB.out) | (with_reducible apply bAl) | (with_reducible apply bDr) | (with_reducible apply bDrN) | ((with_reducible refine bSt ?_ ?_ _); (first | (with_reducible assumption) | omega | (simp <;> omega))))))).mono ?_
  rintro e w1 ⟨⟨r, rfl, hr⟩, hb⟩
  have B0 : Hid (Blk w1 w.heap.size #[.int .i64 p.mem, .slice A p.parts.length a, .slice B p.wins.length b, .slice C p.chans.length c] 50) := Blk.below (by repeat (first | ((with_reducible apply Blk.newAt); (first | (with_reducible rfl) | (simp <;> omega))) | (with_reducible apply Blk.alloc) | (with_reducible apply Blk.drew) | (with_reducible apply Blk.set) | ((with_reducible refine Blk.setO ?_ ?_ _); (first | (with_reducible assumption) | omega | (simp <;> omega))))) hb
  have c0 := (B0.out).cell; have f0 := (B0.out).froz; have l0 := (B0.out).lt
  (replace HB : Hid (Below w.heap.size w w1) := bCall (by repeat (first | (with_reducible exact HB.out) | (with_reducible apply bAl) | (with_reducible apply bDr) | (with_reducible apply bDrN) | ((with_reducible refine bSt ?_ ?_ _); (first | (with_reducible assumption) | omega | (simp <;> omega))))) hb); clear hb; (have := HB.out.size)
  cases r
  · have HN := Lib.hid (hr rfl)
    clear hr
    go_wp2_with fail
    go_region_held3 (fun w' => (∀ j, w'.cell? ⟨w.heap.size, j, none⟩ = (#[.int .i64 p.mem, .slice A p.parts.length a, .slice B p.wins.length b, .slice C p.chans.length c] : Array Value)[j]?))
      (exact Blk.cell (by repeat (first | (with_reducible exact B0.out) | ((with_reducible apply Blk.newAt); (first | (with_reducible rfl) | (simp <;> omega))) | (with_reducible apply Blk.alloc) | (with_reducible apply Blk.drew) | (with_reducible apply Blk.drewN) | (with_reducible apply Blk.set) | ((with_reducible apply Blk.setO); (first | (with_reducible assumption) | omega | (simp <;> omega))))))
      (first
        | (go_at_call 28; refine (planned28 _).mono ?_; rintro e v1 ⟨rfl, hb⟩; (replace B0 : Hid (Blk v1 (w.heap.size) _ _) := Blk.below (by repeat (first | (with_reducible exact B0.out) | ((with_reducible apply Blk.newAt); (first | (with_reducible rfl) | (simp <;> omega))) | (with_reducible apply Blk.alloc) | (with_reducible apply Blk.drew) | (with_reducible apply Blk.drewN) | (with_reducible apply Blk.set) | ((with_reducible apply Blk.setO); (first | (with_reducible assumption) | omega | (simp <;> omega))))) hb); (replace c0 := (B0.out).cell); (replace f0 := (B0.out).froz); (replace l0 := (B0.out).lt); (replace HB : Hid (Below w.heap.size w v1) := bCall (by repeat (first | (with_reducible exact HB.out) | (with_reducible apply bAl) | (with_reducible apply bDr) | (with_reducible apply bDrN) | ((with_reducible refine bSt ?_ ?_ _); (first | (with_reducible assumption) | omega | (simp <;> omega))))) hb); clear hb; (have := HB.out.size))
        | (go_at_call 29; refine (check29 p A B C a b c _ (HM.out.1.below (by repeat (first | (with_reducible exact HB.out) | (with_reducible apply bAl) | (with_reducible apply bDr) | (with_reducible apply bDrN) | ((with_reducible refine bSt ?_ ?_ _); (first | (with_reducible assumption) | omega | (simp <;> omega)))))) (HM.out.2.1.below (by repeat (first | (with_reducible exact HB.out) | (with_reducible apply bAl) | (with_reducible apply bDr) | (with_reducible apply bDrN) | ((with_reducible refine bSt ?_ ?_ _); (first | (with_reducible assumption) | omega | (simp <;> omega)))))) (HM.out.2.2.below (by repeat (first | (with_reducible exact HB.out) | (with_reducible apply bAl) | (with_reducible apply bDr) | (with_reducible apply bDrN) | ((with_reducible refine bSt ?_ ?_ _); (first | (with_reducible assumption) | omega | (simp <;> omega)))))) HN.out.1 HN.out.2.1 HN.out.2.2 HO.out).mono ?_; rintro e v2 ⟨rfl, hb⟩; (replace B0 : Hid (Blk v2 (w.heap.size) _ _) := Blk.below (by repeat (first | (with_reducible exact B0.out) | ((with_reducible apply Blk.newAt); (first | (with_reducible rfl) | (simp <;> omega))) | (with_reducible apply Blk.alloc) | (with_reducible apply Blk.drew) | (with_reducible apply Blk.drewN) | (with_reducible apply Blk.set) | ((with_reducible apply Blk.setO); (first | (with_reducible assumption) | omega | (simp <;> omega))))) hb); (replace c0 := (B0.out).cell); (replace f0 := (B0.out).froz); (replace l0 := (B0.out).lt); (replace HB : Hid (Below w.heap.size w v2) := bCall (by repeat (first | (with_reducible exact HB.out) | (with_reducible apply bAl) | (with_reducible apply bDr) | (with_reducible apply bDrN) | ((with_reducible refine bSt ?_ ?_ _); (first | (with_reducible assumption) | omega | (simp <;> omega))))) hb); clear hb; (have := HB.out.size))
        | (go_at_call 30; refine (refCheck30 p A B C a b c _ (HM.out.1.below (by repeat (first | (with_reducible exact HB.out) | (with_reducible apply bAl) | (with_reducible apply bDr) | (with_reducible apply bDrN) | ((with_reducible refine bSt ?_ ?_ _); (first | (with_reducible assumption) | omega | (simp <;> omega)))))) (HM.out.2.1.below (by repeat (first | (with_reducible exact HB.out) | (with_reducible apply bAl) | (with_reducible apply bDr) | (with_reducible apply bDrN) | ((with_reducible refine bSt ?_ ?_ _); (first | (with_reducible assumption) | omega | (simp <;> omega)))))) (HM.out.2.2.below (by repeat (first | (with_reducible exact HB.out) | (with_reducible apply bAl) | (with_reducible apply bDr) | (with_reducible apply bDrN) | ((with_reducible refine bSt ?_ ?_ _); (first | (with_reducible assumption) | omega | (simp <;> omega)))))) HN.out.1 HN.out.2.1 HN.out.2.2 HO.out).mono ?_; rintro e v3 ⟨rfl, hb⟩; (replace B0 : Hid (Blk v3 (w.heap.size) _ _) := Blk.below (by repeat (first | (with_reducible exact B0.out) | ((with_reducible apply Blk.newAt); (first | (with_reducible rfl) | (simp <;> omega))) | (with_reducible apply Blk.alloc) | (with_reducible apply Blk.drew) | (with_reducible apply Blk.drewN) | (with_reducible apply Blk.set) | ((with_reducible apply Blk.setO); (first | (with_reducible assumption) | omega | (simp <;> omega))))) hb); (replace c0 := (B0.out).cell); (replace f0 := (B0.out).froz); (replace l0 := (B0.out).lt); (replace HB : Hid (Below w.heap.size w v3) := bCall (by repeat (first | (with_reducible exact HB.out) | (with_reducible apply bAl) | (with_reducible apply bDr) | (with_reducible apply bDrN) | ((with_reducible refine bSt ?_ ?_ _); (first | (with_reducible assumption) | omega | (simp <;> omega))))) hb); clear hb; (have := HB.out.size)))
    go_wp2
    go_ret
    exact ⟨retBool (by simp), HB.out⟩
  · go_wp2
    go_ret
    exact ⟨rfl, HB.out⟩
end Go.Proofs.Ytlegpbookbghbaa
