/- The rule that partitions are apart: the closure's loop; the plan lies in memory. -/
import Derived.Test.YtlegpbookbghbaaD4
import Derived.Deep.RegionHeld3
set_option linter.unusedVariables false
set_option linter.unusedSimpArgs false
namespace Go.Proofs.Ytlegpbookbghbaa
open Go.RowKit

set_option maxRecDepth 100000 in set_option maxHeartbeats 1000000 in
theorem part88 (p : PlanS) (A B C : Option Addr) (a b c : Nat) (kb ka at_ : Nat) (i : Nat) (w : World) (c0 : ∀ j, w.cell? ⟨kb, j, none⟩ = (#[.int .i64 p.mem, .slice A p.parts.length a, .slice B p.wins.length b, .slice C p.chans.length c] : Array Value)[j]?) (c1 : w.cell? ⟨ka, 0, none⟩ = some (.pointer (some ⟨at_, 0, none⟩))) (c2 : w.cell? ⟨at_, 0, none⟩ = some (.int .i64 i)) (hA : Rd w A (partCells p.parts)) (hi : i < p.parts.length) (ho : ∀ x ∈ p.parts, x.Ok) (hn : p.parts.length ≤ 20) :
    Calls Try.prog 88 #[.pointer (some ⟨ka, 0, none⟩), .pointer (some ⟨kb, 0, none⟩)] w fun e w' => e = .returned (.bool (partB1 p.parts i p.parts[i])) ∧ Below w.heap.size w w' := by
  have hu50 := Try.underlying50
  have hu55 := Try.underlying55
  have HA : Hid (Rd w A (partCells p.parts)) := hA
  have HO := Lib.hid ho
  have lb : kb < w.heap.size := World.block_lt_of_cell? w _ ((c0 0).trans rfl)
  have la : ka < w.heap.size := World.block_lt_of_cell? w _ c1
  have lt : at_ < w.heap.size := World.block_lt_of_cell? w _ c2
  have hi' : (i : Int) < (p.parts.length : Int) := by omega
  clear hA ho
  go_enter Try.func88, Try.ntmps88
  go_wp2
  go_loopw [7] (fun n wr => ∃ k : Nat, k ≤ i ∧ n = .int .i64 k ∧ (p.parts.take k).any (fun y => !apartB y p.parts[i]) = false ∧ Below w.heap.size w wr) (fun n _ => i - (intOf n).toNat)
  case atStart => exact ⟨0, by omega, rfl, rfl, Below.refl _ _⟩
  case round =>
    obtain ⟨k, hk, rfl, hany, hbel⟩ := hrel
    have HB : Hid (Below w.heap.size w wr) := hbel
    have HN := Lib.hid hany
    have hz := hbel.size
    by_cases hlt : k < i
    · have hk' : k < p.parts.length := by omega
      obtain ⟨b', o', rfl, s0, s1, s2, s3, s4, s5⟩ := HA.out.part k hk'
      obtain ⟨b2, o2, e, t0, t1, t2, t3, t4, t5⟩ := HA.out.part i hi
      simp only [Option.some.injEq, Addr.mk.injEq, and_true] at e
      obtain ⟨rfl, rfl⟩ := e
      have lx : b' < w.heap.size := World.block_lt_of_cell? w _ s0
      have hlt' : (k : Int) < (i : Int) := by omega
      have hk'' : (k : Int) < (p.parts.length : Int) := by omega
      have K : ∀ b o, b < w.heap.size → wr.cell? ⟨b, o, none⟩ = w.cell? ⟨b, o, none⟩ := (bcell hbel).1
      have d0 : ∀ j, wr.cell? ⟨kb, j, none⟩ = (#[.int .i64 p.mem, .slice (some ⟨b', o', none⟩) p.parts.length a, .slice B p.wins.length b, .slice C p.chans.length c] : Array Value)[j]? := fun j => (K _ _ lb).trans (c0 j)
      have d1 := (K _ _ la).trans c1
      have d2 := (K _ _ lt).trans c2
      replace s0 := (K _ _ lx).trans s0
      replace s1 := (K _ _ lx).trans s1
      replace s2 := (K _ _ lx).trans s2
      replace s3 := (K _ _ lx).trans s3
      replace s4 := (K _ _ lx).trans s4
      replace s5 := (K _ _ lx).trans s5
      replace t0 := (K _ _ lx).trans t0
      replace t1 := (K _ _ lx).trans t1
      replace t2 := (K _ _ lx).trans t2
      replace t3 := (K _ _ lx).trans t3
      replace t4 := (K _ _ lx).trans t4
      replace t5 := (K _ _ lx).trans t5
      have ok1 := HO.out p.parts[k] (List.getElem_mem _)
      have ok2 := HO.out p.parts[i] (List.getElem_mem _)
      have hstep : (p.parts.take (k + 1)).any (fun y => !apartB y p.parts[i]) = !apartB p.parts[k] p.parts[i] := by
        rw [List.take_succ_eq_append_getElem hk', List.any_append, HN.out]
        simp
      have hall : apartB p.parts[k] p.parts[i] = false → partB1 p.parts i p.parts[i] = true := fun h => by
        unfold partB1
        rw [List.any_eq_true]
        exact ⟨p.parts[k], List.mem_take_iff_getElem.2 ⟨k, by omega, rfl⟩, by simp [h]⟩
      clear K c0 c1 c2 hany hbel
      generalize hx : p.parts[k] = x at *
      generalize hy : p.parts[i] = y at *
      have HX := Lib.hid hall
      have HS := Lib.hid hstep
      have HY := Lib.hid hy
      clear hall hstep hx hy
      have HZ : Hid (Below wr.heap.size wr wr) := Below.refl _ _
      cases hq : apartB x y
      · have HQ := Lib.hid hq
        clear hq
        go_wp2_with fail
        go_region_held3 (fun w' => ((∀ j, w'.cell? ⟨kb, j, none⟩ = (#[.int .i64 p.mem, .slice (some ⟨b', o', none⟩) p.parts.length a, .slice B p.wins.length b, .slice C p.chans.length c] : Array Value)[j]?) ∧ w'.cell? ⟨ka, 0, none⟩ = some (.pointer (some ⟨at_, 0, none⟩)) ∧ w'.cell? ⟨at_, 0, none⟩ = some (.int .i64 i) ∧ w'.cell? ⟨b', o' + k * 6, none⟩ = some (.int .i64 x.base) ∧ w'.cell? ⟨b', o' + k * 6 + 1, none⟩ = some (.int .i64 x.size) ∧ w'.cell? ⟨b', o' + k * 6 + 2, none⟩ = some (.int .i64 x.ring) ∧ w'.cell? ⟨b', o' + k * 6 + 3, none⟩ = some (.slice x.cA x.cl x.cc) ∧ w'.cell? ⟨b', o' + k * 6 + 4, none⟩ = some (.int .i64 x.fault) ∧ w'.cell? ⟨b', o' + k * 6 + 5, none⟩ = some (.int .i64 x.again) ∧ w'.cell? ⟨b', o' + i * 6, none⟩ = some (.int .i64 y.base) ∧ w'.cell? ⟨b', o' + i * 6 + 1, none⟩ = some (.int .i64 y.size) ∧ w'.cell? ⟨b', o' + i * 6 + 2, none⟩ = some (.int .i64 y.ring) ∧ w'.cell? ⟨b', o' + i * 6 + 3, none⟩ = some (.slice y.cA y.cl y.cc) ∧ w'.cell? ⟨b', o' + i * 6 + 4, none⟩ = some (.int .i64 y.fault) ∧ w'.cell? ⟨b', o' + i * 6 + 5, none⟩ = some (.int .i64 y.again)))
          (first | exact ⟨d0, d1, d2, s0, s1, s2, s3, s4, s5, t0, t1, t2, t3, t4, t5⟩ | exact ⟨fun j => (K2 _ _ (by simp <;> omega)).trans (d0 j), (K2 _ _ (by simp <;> omega)).trans d1, (K2 _ _ (by simp <;> omega)).trans d2, (K2 _ _ (by simp <;> omega)).trans s0, (K2 _ _ (by simp <;> omega)).trans s1, (K2 _ _ (by simp <;> omega)).trans s2, (K2 _ _ (by simp <;> omega)).trans s3, (K2 _ _ (by simp <;> omega)).trans s4, (K2 _ _ (by simp <;> omega)).trans s5, (K2 _ _ (by simp <;> omega)).trans t0, (K2 _ _ (by simp <;> omega)).trans t1, (K2 _ _ (by simp <;> omega)).trans t2, (K2 _ _ (by simp <;> omega)).trans t3, (K2 _ _ (by simp <;> omega)).trans t4, (K2 _ _ (by simp <;> omega)).trans t5⟩)
          (first | (go_at_call 31; refine (apart31 x y _ ok1 ok2).mono ?_; rw [HQ.out]; rintro e w2 ⟨rfl, hb⟩; (have K2 := (bcell hb).1); (replace HB : Hid (Below w.heap.size w w2) := bCall (by repeat (first | (with_reducible exact HB.out) | (with_reducible apply bAl) | (with_reducible apply bDr) | (with_reducible apply bDrN) | ((with_reducible refine bSt ?_ ?_ _); (first | (with_reducible assumption) | omega | (simp <;> omega))))) hb); clear hb; (have := HB.out.size)))
        go_wp2
        go_ret
        exact ⟨retBool (by rw [HY.out]; exact (HX.out HQ.out).symm), HB.out⟩
      · have HQ := Lib.hid hq
        clear hq
        go_wp2_with fail
        go_region_held3 (fun w' => ((∀ j, w'.cell? ⟨kb, j, none⟩ = (#[.int .i64 p.mem, .slice (some ⟨b', o', none⟩) p.parts.length a, .slice B p.wins.length b, .slice C p.chans.length c] : Array Value)[j]?) ∧ w'.cell? ⟨ka, 0, none⟩ = some (.pointer (some ⟨at_, 0, none⟩)) ∧ w'.cell? ⟨at_, 0, none⟩ = some (.int .i64 i) ∧ w'.cell? ⟨b', o' + k * 6, none⟩ = some (.int .i64 x.base) ∧ w'.cell? ⟨b', o' + k * 6 + 1, none⟩ = some (.int .i64 x.size) ∧ w'.cell? ⟨b', o' + k * 6 + 2, none⟩ = some (.int .i64 x.ring) ∧ w'.cell? ⟨b', o' + k * 6 + 3, none⟩ = some (.slice x.cA x.cl x.cc) ∧ w'.cell? ⟨b', o' + k * 6 + 4, none⟩ = some (.int .i64 x.fault) ∧ w'.cell? ⟨b', o' + k * 6 + 5, none⟩ = some (.int .i64 x.again) ∧ w'.cell? ⟨b', o' + i * 6, none⟩ = some (.int .i64 y.base) ∧ w'.cell? ⟨b', o' + i * 6 + 1, none⟩ = some (.int .i64 y.size) ∧ w'.cell? ⟨b', o' + i * 6 + 2, none⟩ = some (.int .i64 y.ring) ∧ w'.cell? ⟨b', o' + i * 6 + 3, none⟩ = some (.slice y.cA y.cl y.cc) ∧ w'.cell? ⟨b', o' + i * 6 + 4, none⟩ = some (.int .i64 y.fault) ∧ w'.cell? ⟨b', o' + i * 6 + 5, none⟩ = some (.int .i64 y.again)))
          (first | exact ⟨d0, d1, d2, s0, s1, s2, s3, s4, s5, t0, t1, t2, t3, t4, t5⟩ | exact ⟨fun j => (K2 _ _ (by simp <;> omega)).trans (d0 j), (K2 _ _ (by simp <;> omega)).trans d1, (K2 _ _ (by simp <;> omega)).trans d2, (K2 _ _ (by simp <;> omega)).trans s0, (K2 _ _ (by simp <;> omega)).trans s1, (K2 _ _ (by simp <;> omega)).trans s2, (K2 _ _ (by simp <;> omega)).trans s3, (K2 _ _ (by simp <;> omega)).trans s4, (K2 _ _ (by simp <;> omega)).trans s5, (K2 _ _ (by simp <;> omega)).trans t0, (K2 _ _ (by simp <;> omega)).trans t1, (K2 _ _ (by simp <;> omega)).trans t2, (K2 _ _ (by simp <;> omega)).trans t3, (K2 _ _ (by simp <;> omega)).trans t4, (K2 _ _ (by simp <;> omega)).trans t5⟩)
          (first | (go_at_call 31; refine (apart31 x y _ ok1 ok2).mono ?_; rw [HQ.out]; rintro e w2 ⟨rfl, hb⟩; (have K2 := (bcell hb).1); (replace HB : Hid (Below w.heap.size w w2) := bCall (by repeat (first | (with_reducible exact HB.out) | (with_reducible apply bAl) | (with_reducible apply bDr) | (with_reducible apply bDrN) | ((with_reducible refine bSt ?_ ?_ _); (first | (with_reducible assumption) | omega | (simp <;> omega))))) hb); clear hb; (have := HB.out.size)))
        go_wp2
        refine ⟨⟨k + 1, by omega, by go_num, by rw [HS.out, HQ.out]; rfl, HB.out⟩, by simp [intOf]; omega⟩
    · obtain rfl : k = i := by omega
      have hv : partB1 p.parts k p.parts[k] = false := HN.out
      have HV := Lib.hid hv
      have d1 := ((bcell hbel).1 _ 0 la).trans c1
      clear hbel c0 c1 c2 hv hany
      go_wp2
      go_ret
      exact ⟨retBool HV.out.symm, HB.out⟩
end Go.Proofs.Ytlegpbookbghbaa
