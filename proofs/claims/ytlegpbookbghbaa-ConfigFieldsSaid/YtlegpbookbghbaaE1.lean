/- Whether a plan is big, and the small plan; no condition. -/
import Derived.Test.YtlegpbookbghbaaE0
set_option linter.unusedVariables false
set_option linter.unusedSimpArgs false
namespace Go.Proofs.Ytlegpbookbghbaa
open Go.RowKit

def BigSaid (p : PlanS) (e : Ending) : Prop := ∃ r : Bool, e = .returned (.bool r) ∧ (r = false → p.parts.length ≤ 20 ∧ p.wins.length ≤ 100 ∧ p.chans.length ≤ 100)
set_option maxRecDepth 100000 in set_option maxHeartbeats 1000000 in
theorem big27 (p : PlanS) (A B C : Option Addr) (a b c : Nat) (w : World) (hA : Rd w A (partCells p.parts)) :
    Calls Try.prog 27 #[.agg #[.int .i64 p.mem, .slice A p.parts.length a, .slice B p.wins.length b, .slice C p.chans.length c]] w fun e w' => BigSaid p e ∧ Below w.heap.size w w' := by
  have hu50 := Try.underlying50
  have hu55 := Try.underlying55
  have HR : Hid (Rd w A (partCells p.parts)) := hA
  clear hA
  by_cases h20 : p.parts.length ≤ 20
  · have h20' : (p.parts.length : Int) ≤ 20 := by omega
    go_enter Try.func27, Try.ntmps27
    go_wp2
    go_loopw [3, 4] (fun n i wr => ∃ (k : Nat) (m : Int), 0 ≤ m ∧ m ≤ 10000 * k ∧ k ≤ p.parts.length ∧ n = .int .i64 m ∧ i = .int .i64 k ∧ Blk wr w.heap.size #[.int .i64 p.mem, .slice A p.parts.length a, .slice B p.wins.length b, .slice C p.chans.length c] 50 ∧ Below w.heap.size w wr) (fun _ i _ => p.parts.length - (intOf i).toNat)
    case atStart => exact ⟨0, 0, by omega, by omega, by omega, rfl, rfl, Blk.newAt _ _ _ _ rfl, bAl (Below.refl _ _) _⟩
    case round =>
      obtain ⟨k, m, hm0, hm1, hk, rfl, rfl, hBl, hbel⟩ := hrel
      have HB : Hid (Below w.heap.size w wr) := hbel
      have B0 : Hid (Blk wr w.heap.size _ _) := hBl
      have c0 := hBl.cell
      have hz := hbel.size
      by_cases hlt : k < p.parts.length
      · obtain ⟨b', o', rfl, s0, s1, s2, s3, s4, s5⟩ := HR.out.part k hlt
        have d3 : wr.cell? ⟨b', o' + k * 6 + 3, none⟩ = some (.slice p.parts[k].cA p.parts[k].cl p.parts[k].cc) := (hbel.cell (World.block_lt_of_cell? w _ s3)).trans s3
        have hlt' : (k : Int) < (p.parts.length : Int) := by omega
        clear hbel hBl s0 s1 s2 s3 s4 s5
        generalize p.parts[k] = x at d3
        by_cases hc : (x.cl : Int) < 10000
        · go_wp2
          exact ⟨⟨k + 1, m + x.cl, by omega, by omega, by omega, rfl, by go_num, B0.out, HB.out⟩, by simp [intOf]; omega⟩
        · go_wp2
          exact ⟨⟨k + 1, m + (if (10000 : Int) < x.cl then 10000 else (x.cl : Int)), by split <;> omega, by split <;> omega, by omega, rfl, by go_num, B0.out, HB.out⟩, by simp [intOf]; omega⟩
      · have hkk : k = p.parts.length := by omega
        subst hkk
        by_cases h1 : (3000 : Int) < m
        · go_wp2
          go_ret
          exact ⟨⟨true, retBool (by simp <;> omega), fun h => by cases h⟩, HB.out⟩
        · by_cases h2 : (100 : Int) < (p.wins.length : Int)
          · go_wp2
            go_ret
            exact ⟨⟨true, retBool (by simp <;> omega), fun h => by cases h⟩, HB.out⟩
          · by_cases h3 : (100 : Int) < (p.chans.length : Int)
            · go_wp2
              go_ret
              exact ⟨⟨true, retBool (by simp <;> omega), fun h => by cases h⟩, HB.out⟩
            · go_wp2
              go_ret
              exact ⟨⟨false, retBool (by simp <;> omega), fun _ => by omega⟩, HB.out⟩
  · have h20' : (20 : Int) < (p.parts.length : Int) := by omega
    go_enter Try.func27, Try.ntmps27
    go_wp2
    go_loopw [4] (fun i wr => i = .int .i64 0 ∧ Blk wr w.heap.size #[.int .i64 p.mem, .slice A p.parts.length a, .slice B p.wins.length b, .slice C p.chans.length c] 50 ∧ Below w.heap.size w wr) (fun _ _ => 0)
    case atStart => exact ⟨rfl, Blk.newAt _ _ _ _ rfl, bAl (Below.refl _ _) _⟩
    case round =>
      obtain ⟨rfl, hBl, hbel⟩ := hrel
      have HB : Hid (Below w.heap.size w wr) := hbel
      have c0 := hBl.cell
      have hz : (0 : Int) < (p.parts.length : Int) := by omega
      clear hbel hBl
      go_wp2
      go_ret
      exact ⟨⟨true, retBool (by simp <;> omega), fun h => by cases h⟩, HB.out⟩

/-- The small plan; its code lies at ca. -/
def smallP (m : Int) (ca : Option Addr) (cc : Nat) : PlanS := ⟨m, [⟨0, 4, 2, ca, 1, cc, 3, 0⟩, ⟨4, 4, 2, ca, 1, cc, 1, 0⟩], [⟨0, 3⟩, ⟨-1, 2⟩, ⟨1, 1⟩], [⟨2, 0, 1, 1, 2⟩]⟩
set_option maxRecDepth 100000 in set_option maxHeartbeats 1000000 in
theorem small61 (w : World) :
    Calls Try.prog 61 #[] w fun e w' => ∃ (ka kb kc kd : Nat), e = .returned (.agg #[.int .i64 (smallP 8 (some ⟨kd, 0, none⟩) 1).mem, .slice (some ⟨ka, 0, none⟩) (smallP 8 (some ⟨kd, 0, none⟩) 1).parts.length 2, .slice (some ⟨kb, 0, none⟩) (smallP 8 (some ⟨kd, 0, none⟩) 1).wins.length 3, .slice (some ⟨kc, 0, none⟩) (smallP 8 (some ⟨kd, 0, none⟩) 1).chans.length 1]) ∧
      Blk w' ka (partCells (smallP 8 (some ⟨kd, 0, none⟩) 1).parts).toArray 55 ∧ Blk w' kb (winCells (smallP 8 (some ⟨kd, 0, none⟩) 1).wins).toArray 61 ∧ Blk w' kc (chanCells (smallP 8 (some ⟨kd, 0, none⟩) 1).chans).toArray 63 ∧ Below w.heap.size w w' := by
  have hu50 := Try.underlying50
  have hu55 := Try.underlying55
  have hu61 := Try.underlying61
  have hu63 := Try.underlying63
  have HB : Hid (Below w.heap.size w w) := Below.refl _ _
  go_enter Try.func61, Try.ntmps61
  go_wp2_with fail
  refine bodyPost_ret (v := .agg #[.int .i64 8, .slice (some ⟨w.heap.size + 1 + 1, 0, none⟩) 2 2, .slice (some ⟨w.heap.size + 1 + 1 + 1, 0, none⟩) 3 3, .slice (some ⟨w.heap.size + 1 + 1 + 1 + 1, 0, none⟩) 1 1]) (by simp [results, Try.results61, go_sem]) rfl ⟨w.heap.size + 1 + 1, w.heap.size + 1 + 1 + 1, w.heap.size + 1 + 1 + 1 + 1, w.heap.size + 1, rfl, ?_, ?_, ?_, ?_⟩
  · show Blk _ _ #[.int .i64 0, .int .i64 4, .int .i64 2, .slice (some ⟨w.heap.size + 1, 0, none⟩) 1 1, .int .i64 3, .int .i64 0, .int .i64 4, .int .i64 4, .int .i64 2, .slice (some ⟨w.heap.size + 1, 0, none⟩) 1 1, .int .i64 1, .int .i64 0] _
    repeat (first | ((with_reducible apply Blk.newAt); (first | (with_reducible rfl) | (simp <;> omega))) | (with_reducible apply Blk.alloc) | (with_reducible apply Blk.drew) | ((with_reducible refine Blk.setO ?_ ?_ _); (first | (with_reducible assumption) | omega | (simp <;> omega))))
  · show Blk _ _ #[.int .i64 0, .int .i64 3, .int .i64 (-1), .int .i64 2, .int .i64 1, .int .i64 1] _
    repeat (first | ((with_reducible apply Blk.newAt); (first | (with_reducible rfl) | (simp <;> omega))) | (with_reducible apply Blk.alloc) | (with_reducible apply Blk.drew) | ((with_reducible refine Blk.setO ?_ ?_ _); (first | (with_reducible assumption) | omega | (simp <;> omega))))
  · show Blk _ _ #[.int .i64 2, .int .i64 0, .int .i64 1, .int .i64 1, .int .i64 2] _
    repeat (first | ((with_reducible apply Blk.newAt); (first | (with_reducible rfl) | (simp <;> omega))) | (with_reducible apply Blk.alloc) | (with_reducible apply Blk.drew) | ((with_reducible refine Blk.setO ?_ ?_ _); (first | (with_reducible assumption) | omega | (simp <;> omega))))
  · repeat (first | (with_reducible exact HB.out) | (with_reducible apply bAl) | (with_reducible apply bDr) | (with_reducible apply bDrN) | ((with_reducible refine bSt ?_ ?_ _); (first | (with_reducible assumption) | omega | (simp <;> omega))))
end Go.Proofs.Ytlegpbookbghbaa
