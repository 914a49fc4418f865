/- take: the walks; the entries lie in memory, at most 1000 of them. -/
import Derived.Test.YtlegpbookbghbaaA9
import Derived.Deep.RegionHeld3
set_option linter.unusedVariables false
set_option linter.unusedSimpArgs false
namespace Go.Proofs.Ytlegpbookbghbaa
open Go.RowKit
attribute [local go_sem high] eqIn27

def TakePost (w : World) (r : Ent × RingS × Bool) (e : Ending) (w' : World) : Prop :=
  ∃ A' c', e = .returned (.tuple #[entVal r.1, ringVal A' c' r.2.1, .bool r.2.2]) ∧ r.2.1.L.length ≤ c' ∧ RdN w' w.heap.size A' (entCells r.2.1.L) ∧ Below w.heap.size w w'
set_option maxRecDepth 100000 in set_option maxHeartbeats 1000000 in
theorem take24gap (rm : Int) (A : Option Addr) (c : Nat) (g0 g1 g2 g3 g4 g5 g6 : Int) (w : World) (hi : ringIsN rm 0 ⟨g0, ⟨g1, g2, g3, g4, g5, g6⟩⟩ = true) (hg : (g5 != 0) = true) :
    Calls Try.prog 24 #[.agg #[.int .i64 rm, .slice A 0 c, .int .u64 g0, .int .u64 g1, .int .i64 g2, .int .i64 g3, .int .i64 g4, .int .i64 g5, .int .i64 g6]] w (TakePost w (⟨g0, ⟨g1, g2, g3, g4, g5, g6⟩⟩, ⟨rm, [], ent0⟩, true)) := by
  have hu29 := Try.underlying29; have hu27 := Try.underlying27; have hu25 := Try.underlying25
  have HB : Hid (Below w.heap.size w w) := Below.refl _ _
  go_enter Try.func24, Try.ntmps24
  go_wp2_with fail; refine (head58gap _ _ _ _ _ _ _ _ _ _ _ hi hg).mono ?_; rintro e w1 ⟨rfl, hb⟩
  (replace B0 : Hid (Blk w1 (w.heap.size) _ _) := Blk.below (by repeat (first | (with_reducible exact B0.out) | ((with_reducible apply Blk.newAt); (first | (with_reducible rfl) | (simp <;> omega))) | (with_reducible apply Blk.alloc) | (with_reducible apply Blk.drew) | (with_reducible apply Blk.drewN) | (with_reducible apply Blk.set) | ((with_reducible apply Blk.setO); (first | (with_reducible assumption) | omega | (simp <;> omega))))) hb); (replace c0 := (B0.out).cell); (replace f0 := (B0.out).froz); (replace l0 := (B0.out).lt); (replace B1 : Hid (Blk w1 (w.heap.size + 1) _ _) := Blk.below (by repeat (first | (with_reducible exact B1.out) | ((with_reducible apply Blk.newAt); (first | (with_reducible rfl) | (simp <;> omega))) | (with_reducible apply Blk.alloc) | (with_reducible apply Blk.drew) | (with_reducible apply Blk.drewN) | (with_reducible apply Blk.set) | ((with_reducible apply Blk.setO); (first | (with_reducible assumption) | omega | (simp <;> omega))))) hb); (replace c1 := (B1.out).cell); (replace f1 := (B1.out).froz); (replace l1 := (B1.out).lt); (replace B2 : Hid (Blk w1 (w.heap.size + 1 + 1) _ _) := Blk.below (by repeat (first | (with_reducible exact B2.out) | ((with_reducible apply Blk.newAt); (first | (with_reducible rfl) | (simp <;> omega))) | (with_reducible apply Blk.alloc) | (with_reducible apply Blk.drew) | (with_reducible apply Blk.drewN) | (with_reducible apply Blk.set) | ((with_reducible apply Blk.setO); (first | (with_reducible assumption) | omega | (simp <;> omega))))) hb); (replace c2 := (B2.out).cell); (replace f2 := (B2.out).froz); (replace l2 := (B2.out).lt)
  (replace HB : Hid (Below w.heap.size w w1) := bCall (by repeat (first | (with_reducible exact HB.out) | (with_reducible apply bAl) | (with_reducible apply bDr) | (with_reducible apply bDrN) | ((with_reducible refine bSt ?_ ?_ _); (first | (with_reducible assumption) | omega | (simp <;> omega))))) hb); clear hb; (have := HB.out.size)
  go_wp2
  go_region_held3 (fun w' => w'.cell? ⟨w.heap.size, 0, none⟩ = some (.int .i64 rm) ∧ w'.cell? ⟨w.heap.size, 2, none⟩ = some (.int .u64 g0) ∧ w'.cell? ⟨w.heap.size, 3, none⟩ = some (.int .u64 g1) ∧ w'.cell? ⟨w.heap.size, 4, none⟩ = some (.int .i64 g2) ∧ w'.cell? ⟨w.heap.size, 5, none⟩ = some (.int .i64 g3) ∧ w'.cell? ⟨w.heap.size, 6, none⟩ = some (.int .i64 g4) ∧ w'.cell? ⟨w.heap.size, 7, none⟩ = some (.int .i64 g5) ∧ w'.cell? ⟨w.heap.size, 8, none⟩ = some (.int .i64 g6)) ((simp [go_sem, c0]; done)) (fail)
  all_goals go_wp2
  all_goals
    refine bodyPost_ret (v := .tuple #[entVal ⟨g0, ⟨g1, g2, g3, g4, g5, g6⟩⟩, ringVal none 0 ⟨rm, [], ent0⟩, .bool true]) (by simp [results, Try.results24, go_sem, c1, c2, entVal, ringVal, ent0, ev0]) rfl ⟨none, 0, rfl, Nat.le_refl _, RdN.nil _ _ _, ?_⟩
    repeat (first | (with_reducible exact HB.out) | (with_reducible apply bAl) | (with_reducible apply bDr) | (with_reducible apply bDrN) | ((with_reducible refine bSt ?_ ?_ _); (first | (with_reducible assumption) | omega | (simp <;> omega))))
set_option maxRecDepth 100000 in set_option maxHeartbeats 1000000 in
theorem take24no (rm : Int) (A : Option Addr) (c : Nat) (l : List Ent) (g0 g1 g2 g3 g4 g5 g6 : Int) (w : World) (hA : Rd w A (entCells l)) (hl : l.length ≤ c) (hs : l.length ≤ 1000) (hh : headS ⟨rm, l, ⟨g0, ⟨g1, g2, g3, g4, g5, g6⟩⟩⟩ = (0, false)) :
    Calls Try.prog 24 #[.agg #[.int .i64 rm, .slice A l.length c, .int .u64 g0, .int .u64 g1, .int .i64 g2, .int .i64 g3, .int .i64 g4, .int .i64 g5, .int .i64 g6]] w (TakePost w (ent0, ⟨rm, l, ⟨g0, ⟨g1, g2, g3, g4, g5, g6⟩⟩⟩, false)) := by
  have hu29 := Try.underlying29; have hu27 := Try.underlying27; have hu25 := Try.underlying25; have HA : Hid (Rd w A (entCells l)) := hA; have HB : Hid (Below w.heap.size w w) := Below.refl _ _; clear hA
  have HH : Hid (headS ⟨rm, l, ⟨g0, ⟨g1, g2, g3, g4, g5, g6⟩⟩⟩ = (0, false)) := hh
  clear hh
  go_enter Try.func24, Try.ntmps24
  go_wp2_with fail
  refine (head58 rm A c l g0 g1 g2 g3 g4 g5 g6 _ ?hA hl hs).mono ?_
  case hA => exact HA.out.below (by repeat (first | (with_reducible exact HB.out) | (with_reducible apply bAl) | (with_reducible apply bDr) | (with_reducible apply bDrN) | ((with_reducible refine bSt ?_ ?_ _); (first | (with_reducible assumption) | omega | (simp <;> omega)))))
  rw [HH.out]
  rintro e w1 ⟨rfl, hb⟩
  (replace B0 : Hid (Blk w1 (w.heap.size) _ _) := Blk.below (by repeat (first | (with_reducible exact B0.out) | ((with_reducible apply Blk.newAt); (first | (with_reducible rfl) | (simp <;> omega))) | (with_reducible apply Blk.alloc) | (with_reducible apply Blk.drew) | (with_reducible apply Blk.drewN) | (with_reducible apply Blk.set) | ((with_reducible apply Blk.setO); (first | (with_reducible assumption) | omega | (simp <;> omega))))) hb); (replace c0 := (B0.out).cell); (replace f0 := (B0.out).froz); (replace l0 := (B0.out).lt); (replace B1 : Hid (Blk w1 (w.heap.size + 1) _ _) := Blk.below (by repeat (first | (with_reducible exact B1.out) | ((with_reducible apply Blk.newAt); (first | (with_reducible rfl) | (simp <;> omega))) | (with_reducible apply Blk.alloc) | (with_reducible apply Blk.drew) | (with_reducible apply Blk.drewN) | (with_reducible apply Blk.set) | ((with_reducible apply Blk.setO); (first | (with_reducible assumption) | omega | (simp <;> omega))))) hb); (replace c1 := (B1.out).cell); (replace f1 := (B1.out).froz); (replace l1 := (B1.out).lt); (replace B2 : Hid (Blk w1 (w.heap.size + 1 + 1) _ _) := Blk.below (by repeat (first | (with_reducible exact B2.out) | ((with_reducible apply Blk.newAt); (first | (with_reducible rfl) | (simp <;> omega))) | (with_reducible apply Blk.alloc) | (with_reducible apply Blk.drew) | (with_reducible apply Blk.drewN) | (with_reducible apply Blk.set) | ((with_reducible apply Blk.setO); (first | (with_reducible assumption) | omega | (simp <;> omega))))) hb); (replace c2 := (B2.out).cell); (replace f2 := (B2.out).froz); (replace l2 := (B2.out).lt)
  (replace HB : Hid (Below w.heap.size w w1) := bCall (by repeat (first | (with_reducible exact HB.out) | (with_reducible apply bAl) | (with_reducible apply bDr) | (with_reducible apply bDrN) | ((with_reducible refine bSt ?_ ?_ _); (first | (with_reducible assumption) | omega | (simp <;> omega))))) hb); clear hb; (have := HB.out.size)
  have m1 := l1
  have m2 := l2
  go_wp2
  go_region_held3 (fun w' => w'.cell? ⟨w.heap.size, 0, none⟩ = some (.int .i64 rm) ∧ w'.cell? ⟨w.heap.size, 1, none⟩ = some (.slice A l.length c) ∧ w'.cell? ⟨w.heap.size, 2, none⟩ = some (.int .u64 g0) ∧ w'.cell? ⟨w.heap.size, 3, none⟩ = some (.int .u64 g1) ∧ w'.cell? ⟨w.heap.size, 4, none⟩ = some (.int .i64 g2) ∧ w'.cell? ⟨w.heap.size, 5, none⟩ = some (.int .i64 g3) ∧ w'.cell? ⟨w.heap.size, 6, none⟩ = some (.int .i64 g4) ∧ w'.cell? ⟨w.heap.size, 7, none⟩ = some (.int .i64 g5) ∧ w'.cell? ⟨w.heap.size, 8, none⟩ = some (.int .i64 g6)) ((simp [go_sem, c0]; done))
    (first | (go_at_call 56; refine (grown56 A c l none 0 [] _ ?_ ?_ ?_).mono ?_; (exact HA.out.below (by repeat (first | (with_reducible exact HB.out) | (with_reducible apply bAl) | (with_reducible apply bDr) | (with_reducible apply bDrN) | ((with_reducible refine bSt ?_ ?_ _); (first | (with_reducible assumption) | omega | (simp <;> omega)))))); (exact Rd.nil _ _); (simp; omega); rintro e w4 ⟨A', c', rfl, hc', hR, hb⟩; (replace B0 : Hid (Blk w4 (w.heap.size) _ _) := Blk.below (by repeat (first | (with_reducible exact B0.out) | ((with_reducible apply Blk.newAt); (first | (with_reducible rfl) | (simp <;> omega))) | (with_reducible apply Blk.alloc) | (with_reducible apply Blk.drew) | (with_reducible apply Blk.drewN) | (with_reducible apply Blk.set) | ((with_reducible apply Blk.setO); (first | (with_reducible assumption) | omega | (simp <;> omega))))) hb); (replace c0 := (B0.out).cell); (replace f0 := (B0.out).froz); (replace l0 := (B0.out).lt); (replace B1 : Hid (Blk w4 (w.heap.size + 1) _ _) := Blk.below (by repeat (first | (with_reducible exact B1.out) | ((with_reducible apply Blk.newAt); (first | (with_reducible rfl) | (simp <;> omega))) | (with_reducible apply Blk.alloc) | (with_reducible apply Blk.drew) | (with_reducible apply Blk.drewN) | (with_reducible apply Blk.set) | ((with_reducible apply Blk.setO); (first | (with_reducible assumption) | omega | (simp <;> omega))))) hb); (replace c1 := (B1.out).cell); (replace f1 := (B1.out).froz); (replace l1 := (B1.out).lt); (replace B2 : Hid (Blk w4 (w.heap.size + 1 + 1) _ _) := Blk.below (by repeat (first | (with_reducible exact B2.out) | ((with_reducible apply Blk.newAt); (first | (with_reducible rfl) | (simp <;> omega))) | (with_reducible apply Blk.alloc) | (with_reducible apply Blk.drew) | (with_reducible apply Blk.drewN) | (with_reducible apply Blk.set) | ((with_reducible apply Blk.setO); (first | (with_reducible assumption) | omega | (simp <;> omega))))) hb); (replace c2 := (B2.out).cell); (replace f2 := (B2.out).froz); (replace l2 := (B2.out).lt); (have HR : Hid (l.length ≤ c' ∧ RdN w4 w1.heap.size A' (entCells l)) := ⟨hc', by simpa using hR⟩); clear hc' hR; (replace HB : Hid (Below w.heap.size w w4) := bCall (by repeat (first | (with_reducible exact HB.out) | (with_reducible apply bAl) | (with_reducible apply bDr) | (with_reducible apply bDrN) | ((with_reducible refine bSt ?_ ?_ _); (first | (with_reducible assumption) | omega | (simp <;> omega))))) hb); clear hb; (have := HB.out.size)))
  all_goals go_wp2
  all_goals
    refine bodyPost_ret (v := .tuple #[entVal ent0, ringVal A' c' ⟨rm, l, ⟨g0, ⟨g1, g2, g3, g4, g5, g6⟩⟩⟩, .bool false]) (by simp [results, Try.results24, go_sem, c1, c2, entVal, ringVal, ent0, ev0]) rfl ⟨A', c', rfl, by simpa using HR.out.1, RdN.mono (B := w1.heap.size) ?_ (by omega), ?_⟩
    · repeat (first | (with_reducible exact HR.out.2) | (with_reducible apply RdN.alloc) | (with_reducible apply RdN.drew) | ((with_reducible refine RdN.set ?_ ?_ _); (first | (with_reducible assumption) | omega | (simp <;> omega))))
    · repeat (first | (with_reducible exact HB.out) | (with_reducible apply bAl) | (with_reducible apply bDr) | (with_reducible apply bDrN) | ((with_reducible refine bSt ?_ ?_ _); (first | (with_reducible assumption) | omega | (simp <;> omega))))
theorem cut1 (b o n c : Nat) (h : n + 1 ≤ c) : ∃ A2 : Option Addr, (∀ W : World, (Instr.slice 22 (.slice (some ⟨b, o, none⟩) (n + 1) c) (some (.int .i64 1)) none none).run Try.prog W = .ok (.slice A2 n (c - 1)) W) ∧ (A2 = some ⟨b, o + 7, none⟩ ∨ n = 0) := by
  by_cases hc : c = 1
  · subst hc
    obtain rfl : n = 0 := by omega
    refine ⟨some ⟨b, o, none⟩, fun W => ?_, .inr rfl⟩
    simp [go_sem, Try.underlying22]
  · refine ⟨some ⟨b, o + 7, none⟩, fun W => ?_, .inl rfl⟩
    have h1 : (1 : Int) ≤ ((n : Int) + 1) := by omega
    simp [go_sem, Try.underlying22, hc, h1]
set_option maxRecDepth 100000 in set_option maxHeartbeats 1000000 in
theorem take24cons (rm : Int) (A : Option Addr) (c : Nat) (x : Ent) (l : List Ent) (g0 g1 g2 g3 g4 g5 g6 : Int) (w : World) (hA : Rd w A (entCells (x :: l))) (hi : ringIsN rm (l.length + 1) ⟨g0, ⟨g1, g2, g3, g4, g5, g6⟩⟩ = true) (hl : l.length + 1 ≤ c) (hs : l.length ≤ 1000) :
    Calls Try.prog 24 #[.agg #[.int .i64 rm, .slice A (l.length + 1) c, .int .u64 g0, .int .u64 g1, .int .i64 g2, .int .i64 g3, .int .i64 g4, .int .i64 g5, .int .i64 g6]] w (TakePost w (x, ⟨rm, l, ⟨g0, ⟨g1, g2, g3, g4, g5, g6⟩⟩⟩, true)) := by
  have hu29 := Try.underlying29; have hu27 := Try.underlying27; have hu25 := Try.underlying25
  have HB : Hid (Below w.heap.size w w) := Below.refl _ _
  obtain ⟨b, o, rfl, a0, a1, a2, a3, a4, a5, a6⟩ := hA.ent 0 (by simp)
  simp only [Nat.zero_mul, Nat.add_zero, List.getElem_cons_zero] at a0 a1 a2 a3 a4 a5 a6
  obtain ⟨A2, hcut, hA2⟩ := cut1 b o l.length c hl
  have HT : Hid (Rd w A2 (entCells l)) := by
    rcases hA2 with rfl | h0
    · have h := (hA.drop (1 * 7))
      rw [entCells_drop] at h
      exact h
    · obtain rfl := List.eq_nil_of_length_eq_zero h0
      exact Rd.nil _ _
  clear hA2
  have HC : Hid (Rd w (some ⟨b, o, none⟩) (entCells (x :: l))) := hA
  have hbl : b < w.heap.size := World.block_lt_of_cell? w _ a0
  clear hA
  have HI : Hid (ringIsN rm (l.length + 1) ⟨g0, ⟨g1, g2, g3, g4, g5, g6⟩⟩ = true) := hi
  clear hi
  have HX : Hid (w.cell? ⟨b, o, none⟩ = some (.int .u64 x.st) ∧ w.cell? ⟨b, o + 1, none⟩ = some (.int .u64 x.e.sq) ∧ w.cell? ⟨b, o + 2, none⟩ = some (.int .i64 x.e.tk) ∧ w.cell? ⟨b, o + 3, none⟩ = some (.int .i64 x.e.pt) ∧ w.cell? ⟨b, o + 4, none⟩ = some (.int .i64 x.e.kd) ∧ w.cell? ⟨b, o + 5, none⟩ = some (.int .i64 x.e.a) ∧ w.cell? ⟨b, o + 6, none⟩ = some (.int .i64 x.e.b)) := ⟨a0, a1, a2, a3, a4, a5, a6⟩
  clear a0 a1 a2 a3 a4 a5 a6
  go_enter Try.func24, Try.ntmps24
  go_wp2_with fail
  refine (head58cons rm _ c x l g0 g1 g2 g3 g4 g5 g6 _ ?hA HI.out).mono ?_
  case hA => exact HC.out.below (by repeat (first | (with_reducible exact HB.out) | (with_reducible apply bAl) | (with_reducible apply bDr) | (with_reducible apply bDrN) | ((with_reducible refine bSt ?_ ?_ _); (first | (with_reducible assumption) | omega | (simp <;> omega)))))
  rintro e w1 ⟨rfl, hb⟩
  (replace B0 : Hid (Blk w1 (w.heap.size) _ _) := Blk.below (by repeat (first | (with_reducible exact B0.out) | ((with_reducible apply Blk.newAt); (first | (with_reducible rfl) | (simp <;> omega))) | (with_reducible apply Blk.alloc) | (with_reducible apply Blk.drew) | (with_reducible apply Blk.drewN) | (with_reducible apply Blk.set) | ((with_reducible apply Blk.setO); (first | (with_reducible assumption) | omega | (simp <;> omega))))) hb); (replace c0 := (B0.out).cell); (replace f0 := (B0.out).froz); (replace l0 := (B0.out).lt); (replace B1 : Hid (Blk w1 (w.heap.size + 1) _ _) := Blk.below (by repeat (first | (with_reducible exact B1.out) | ((with_reducible apply Blk.newAt); (first | (with_reducible rfl) | (simp <;> omega))) | (with_reducible apply Blk.alloc) | (with_reducible apply Blk.drew) | (with_reducible apply Blk.drewN) | (with_reducible apply Blk.set) | ((with_reducible apply Blk.setO); (first | (with_reducible assumption) | omega | (simp <;> omega))))) hb); (replace c1 := (B1.out).cell); (replace f1 := (B1.out).froz); (replace l1 := (B1.out).lt); (replace B2 : Hid (Blk w1 (w.heap.size + 1 + 1) _ _) := Blk.below (by repeat (first | (with_reducible exact B2.out) | ((with_reducible apply Blk.newAt); (first | (with_reducible rfl) | (simp <;> omega))) | (with_reducible apply Blk.alloc) | (with_reducible apply Blk.drew) | (with_reducible apply Blk.drewN) | (with_reducible apply Blk.set) | ((with_reducible apply Blk.setO); (first | (with_reducible assumption) | omega | (simp <;> omega))))) hb); (replace c2 := (B2.out).cell); (replace f2 := (B2.out).froz); (replace l2 := (B2.out).lt)
  (replace HB : Hid (Below w.heap.size w w1) := bCall (by repeat (first | (with_reducible exact HB.out) | (with_reducible apply bAl) | (with_reducible apply bDr) | (with_reducible apply bDrN) | ((with_reducible refine bSt ?_ ?_ _); (first | (with_reducible assumption) | omega | (simp <;> omega))))) hb); clear hb; (have := HB.out.size)
  have m1 := l1
  have m2 := l2
  have hz : w.heap.size ≤ w1.heap.size := by assumption
  have k1 : b ≠ w.heap.size := by omega
  have k2 : b ≠ w.heap.size + 1 := by omega
  have k3 : b ≠ w.heap.size + 1 + 1 := by omega
  have k4 : w.heap.size ≠ b := by omega
  have k5 : w.heap.size + 1 ≠ b := by omega
  have k6 : w.heap.size + 1 + 1 ≠ b := by omega
  have q : ∀ j u, w.cell? ⟨b, j, none⟩ = some u → w1.cell? ⟨b, j, none⟩ = some u := fun j u h => (HB.out.cell (p := ⟨b, j, none⟩) hbl).trans h
  obtain ⟨h0, h1, h2, h3, h4, h5, h6⟩ := HX.out
  have a0 := q _ _ h0
  have a1 := q _ _ h1
  have a2 := q _ _ h2
  have a3 := q _ _ h3
  have a4 := q _ _ h4
  have a5 := q _ _ h5
  have a6 := q _ _ h6
  clear q h0 h1 h2 h3 h4 h5 h6
  have hpos : (0 : Int) < ((l.length : Int) + 1) := by omega
  have hone : (1 : Int) ≤ ((l.length : Int) + 1) := by omega
  go_wp2
  go_region_held3 (fun w' => w'.cell? ⟨w.heap.size, 0, none⟩ = some (.int .i64 rm) ∧ w'.cell? ⟨w.heap.size, 1, none⟩ = some (.slice (some ⟨b, o, none⟩) (l.length + 1) c) ∧ w'.cell? ⟨w.heap.size, 2, none⟩ = some (.int .u64 g0) ∧ w'.cell? ⟨w.heap.size, 3, none⟩ = some (.int .u64 g1) ∧ w'.cell? ⟨w.heap.size, 4, none⟩ = some (.int .i64 g2) ∧ w'.cell? ⟨w.heap.size, 5, none⟩ = some (.int .i64 g3) ∧ w'.cell? ⟨w.heap.size, 6, none⟩ = some (.int .i64 g4) ∧ w'.cell? ⟨w.heap.size, 7, none⟩ = some (.int .i64 g5) ∧ w'.cell? ⟨w.heap.size, 8, none⟩ = some (.int .i64 g6) ∧ w'.cell? ⟨b, o, none⟩ = some (.int .u64 x.st) ∧ w'.cell? ⟨b, o + 1, none⟩ = some (.int .u64 x.e.sq) ∧ w'.cell? ⟨b, o + 2, none⟩ = some (.int .i64 x.e.tk) ∧ w'.cell? ⟨b, o + 3, none⟩ = some (.int .i64 x.e.pt) ∧ w'.cell? ⟨b, o + 4, none⟩ = some (.int .i64 x.e.kd) ∧ w'.cell? ⟨b, o + 5, none⟩ = some (.int .i64 x.e.a) ∧ w'.cell? ⟨b, o + 6, none⟩ = some (.int .i64 x.e.b)) ((simp [go_sem, *]; done))
    (first | (go_at_call 56; refine (grown56 A2 (c - 1) l none 0 [] _ ?_ ?_ ?_).mono ?_; (exact HT.out.below (by repeat (first | (with_reducible exact HB.out) | (with_reducible apply bAl) | (with_reducible apply bDr) | (with_reducible apply bDrN) | ((with_reducible refine bSt ?_ ?_ _); (first | (with_reducible assumption) | omega | (simp <;> omega)))))); (exact Rd.nil _ _); (simp; omega); rintro e w4 ⟨A', c', rfl, hc', hR, hb⟩; (replace B0 : Hid (Blk w4 (w.heap.size) _ _) := Blk.below (by repeat (first | (with_reducible exact B0.out) | ((with_reducible apply Blk.newAt); (first | (with_reducible rfl) | (simp <;> omega))) | (with_reducible apply Blk.alloc) | (with_reducible apply Blk.drew) | (with_reducible apply Blk.drewN) | (with_reducible apply Blk.set) | ((with_reducible apply Blk.setO); (first | (with_reducible assumption) | omega | (simp <;> omega))))) hb); (replace c0 := (B0.out).cell); (replace f0 := (B0.out).froz); (replace l0 := (B0.out).lt); (replace B1 : Hid (Blk w4 (w.heap.size + 1) _ _) := Blk.below (by repeat (first | (with_reducible exact B1.out) | ((with_reducible apply Blk.newAt); (first | (with_reducible rfl) | (simp <;> omega))) | (with_reducible apply Blk.alloc) | (with_reducible apply Blk.drew) | (with_reducible apply Blk.drewN) | (with_reducible apply Blk.set) | ((with_reducible apply Blk.setO); (first | (with_reducible assumption) | omega | (simp <;> omega))))) hb); (replace c1 := (B1.out).cell); (replace f1 := (B1.out).froz); (replace l1 := (B1.out).lt); (replace B2 : Hid (Blk w4 (w.heap.size + 1 + 1) _ _) := Blk.below (by repeat (first | (with_reducible exact B2.out) | ((with_reducible apply Blk.newAt); (first | (with_reducible rfl) | (simp <;> omega))) | (with_reducible apply Blk.alloc) | (with_reducible apply Blk.drew) | (with_reducible apply Blk.drewN) | (with_reducible apply Blk.set) | ((with_reducible apply Blk.setO); (first | (with_reducible assumption) | omega | (simp <;> omega))))) hb); (replace c2 := (B2.out).cell); (replace f2 := (B2.out).froz); (replace l2 := (B2.out).lt); (have HR : Hid (l.length ≤ c' ∧ RdN w4 w1.heap.size A' (entCells l)) := ⟨hc', by simpa using hR⟩); clear hc' hR; (have q : ∀ j u, w.cell? ⟨b, j, none⟩ = some u → w4.cell? ⟨b, j, none⟩ = some u := fun j u h => ((bCall (by repeat (first | (with_reducible exact HB.out) | (with_reducible apply bAl) | (with_reducible apply bDr) | (with_reducible apply bDrN) | ((with_reducible refine bSt ?_ ?_ _); (first | (with_reducible assumption) | omega | (simp <;> omega))))) hb : Below w.heap.size w w4).cell (p := ⟨b, j, none⟩) hbl).trans h); obtain ⟨h0, h1, h2, h3, h4, h5, h6⟩ := HX.out; replace a0 := q _ _ h0; replace a1 := q _ _ h1; replace a2 := q _ _ h2; replace a3 := q _ _ h3; replace a4 := q _ _ h4; replace a5 := q _ _ h5; replace a6 := q _ _ h6; clear q h0 h1 h2 h3 h4 h5 h6; (replace HB : Hid (Below w.heap.size w w4) := bCall (by repeat (first | (with_reducible exact HB.out) | (with_reducible apply bAl) | (with_reducible apply bDr) | (with_reducible apply bDrN) | ((with_reducible refine bSt ?_ ?_ _); (first | (with_reducible assumption) | omega | (simp <;> omega))))) hb); clear hb; (have := HB.out.size)))
  all_goals go_wp2
  all_goals
    refine bodyPost_ret (v := .tuple #[entVal x, ringVal A' c' ⟨rm, l, ⟨g0, ⟨g1, g2, g3, g4, g5, g6⟩⟩⟩, .bool true]) (by simp [results, Try.results24, go_sem, c1, c2, entVal, ringVal]) rfl ⟨A', c', rfl, by simpa using HR.out.1, RdN.mono (B := w1.heap.size) ?_ (by omega), ?_⟩
    · repeat (first | (with_reducible exact HR.out.2) | (with_reducible apply RdN.alloc) | (with_reducible apply RdN.drew) | ((with_reducible refine RdN.set ?_ ?_ _); (first | (with_reducible assumption) | omega | (simp <;> omega))))
    · repeat (first | (with_reducible exact HB.out) | (with_reducible apply bAl) | (with_reducible apply bDr) | (with_reducible apply bDrN) | ((with_reducible refine bSt ?_ ?_ _); (first | (with_reducible assumption) | omega | (simp <;> omega))))
theorem take24 (rm : Int) (A : Option Addr) (c : Nat) (l : List Ent) (g0 g1 g2 g3 g4 g5 g6 : Int) (w : World) (hA : Rd w A (entCells l)) (hl : l.length ≤ c) (hs : l.length ≤ 1000) : Calls Try.prog 24 #[.agg #[.int .i64 rm, .slice A l.length c, .int .u64 g0, .int .u64 g1, .int .i64 g2, .int .i64 g3, .int .i64 g4, .int .i64 g5, .int .i64 g6]] w (TakePost w (takeS ⟨rm, l, ⟨g0, ⟨g1, g2, g3, g4, g5, g6⟩⟩⟩)) := by
  cases hi : ringIsN rm l.length ⟨g0, ⟨g1, g2, g3, g4, g5, g6⟩⟩
  · have hv : takeS ⟨rm, l, ⟨g0, ⟨g1, g2, g3, g4, g5, g6⟩⟩⟩ = (ent0, ⟨rm, l, ⟨g0, ⟨g1, g2, g3, g4, g5, g6⟩⟩⟩, false) := by simp [takeS, ringIs, hi]
    rw [hv]
    exact take24no rm A c l g0 g1 g2 g3 g4 g5 g6 w hA hl hs (by simp [headS, ringIs, hi])
  · cases l with
    | nil =>
      have hi' : ringIsN rm 0 ⟨g0, ⟨g1, g2, g3, g4, g5, g6⟩⟩ = true := hi
      cases hg : (g5 != 0)
      · have hv : takeS ⟨rm, [], ⟨g0, ⟨g1, g2, g3, g4, g5, g6⟩⟩⟩ = (ent0, ⟨rm, [], ⟨g0, ⟨g1, g2, g3, g4, g5, g6⟩⟩⟩, false) := by simp [takeS, ringIs, hi', hasGap, hg]
        rw [hv]
        exact take24no rm A c [] g0 g1 g2 g3 g4 g5 g6 w hA hl hs (by simp [headS, ringIs, hi', hasGap, hg])
      · have hv : takeS ⟨rm, [], ⟨g0, ⟨g1, g2, g3, g4, g5, g6⟩⟩⟩ = (⟨g0, ⟨g1, g2, g3, g4, g5, g6⟩⟩, ⟨rm, [], ent0⟩, true) := by simp [takeS, ringIs, hi', hasGap, hg]
        rw [hv]
        exact take24gap rm A c g0 g1 g2 g3 g4 g5 g6 w hi' hg
    | cons x l =>
      have hi' : ringIsN rm (l.length + 1) ⟨g0, ⟨g1, g2, g3, g4, g5, g6⟩⟩ = true := hi
      have hv : takeS ⟨rm, x :: l, ⟨g0, ⟨g1, g2, g3, g4, g5, g6⟩⟩⟩ = (x, ⟨rm, l, ⟨g0, ⟨g1, g2, g3, g4, g5, g6⟩⟩⟩, true) := by simp [takeS, ringIs, hi']
      rw [hv]
      have hs' : l.length + 1 ≤ 1000 := hs
      exact take24cons rm A c x l g0 g1 g2 g3 g4 g5 g6 w hA hi' hl (by omega)
end Go.Proofs.Ytlegpbookbghbaa
