/- Are two rows of entries, two rings, the same: the walks; the entries lie in memory. -/
import Derived.Test.YtlegpbookbghbaaA7
import Derived.Deep.QuietTactic
import Derived.BigQuiet
set_option linter.unusedVariables false
set_option linter.unusedSimpArgs false
namespace Go.Proofs.Ytlegpbookbghbaa
open Go.RowKit
attribute [local go_sem high] eqIn27

theorem notFalse {b : Bool} (h : (!b) = false) : b = true := by cases b <;> simp_all
/-- The seven cells of entry k. -/
theorem Rd.ent {w : World} {A : Option Addr} {l : List Ent} (h : Rd w A (entCells l)) (k : Nat) (hk : k < l.length) : ∃ b o, A = some ⟨b, o, none⟩ ∧
    w.cell? ⟨b, o + k * 7, none⟩ = some (.int .u64 l[k].st) ∧ w.cell? ⟨b, o + k * 7 + 1, none⟩ = some (.int .u64 l[k].e.sq) ∧ w.cell? ⟨b, o + k * 7 + 2, none⟩ = some (.int .i64 l[k].e.tk) ∧ w.cell? ⟨b, o + k * 7 + 3, none⟩ = some (.int .i64 l[k].e.pt) ∧
    w.cell? ⟨b, o + k * 7 + 4, none⟩ = some (.int .i64 l[k].e.kd) ∧ w.cell? ⟨b, o + k * 7 + 5, none⟩ = some (.int .i64 l[k].e.a) ∧ w.cell? ⟨b, o + k * 7 + 6, none⟩ = some (.int .i64 l[k].e.b) := by
  have h0 : (entCells l)[k * 7 + 0]? = some (.int .u64 l[k].st) := by rw [entCells_get l k hk 0 (by decide)]; rfl
  obtain ⟨b, o, rfl, hc⟩ := h.at_ h0
  have g : ∀ j u, j < 7 → l[k].cells[j]? = some u → w.cell? ⟨b, o + k * 7 + j, none⟩ = some u := fun j u hj hu => by
    have := hc (k * 7 + j) u (by rw [entCells_get l k hk j hj]; exact hu)
    rwa [← Nat.add_assoc] at this
  exact ⟨b, o, rfl, g 0 _ (by decide) rfl, g 1 _ (by decide) rfl, g 2 _ (by decide) rfl, g 3 _ (by decide) rfl, g 4 _ (by decide) rfl, g 5 _ (by decide) rfl, g 6 _ (by decide) rfl⟩

set_option maxRecDepth 100000 in set_option maxHeartbeats 1000000 in
theorem entries26 (A : Option Addr) (c : Nat) (l : List Ent) (S : Option Addr) (d : Nat) (m : List Ent) (w : World) (hA : Rd w A (entCells l)) (hS : Rd w S (entCells m)) (hl : l.length ≤ 100000) (hm : m.length ≤ 100000) :
    Calls Try.prog 26 #[.slice A l.length c, .slice S m.length d] w fun e w' => e = .returned (.bool (decide (l = m))) ∧ Below w.heap.size w w' := by
  have hu27 := Try.underlying27
  have hu25 := Try.underlying25
  have HA : Hid (Rd w A (entCells l)) := hA
  have HS : Hid (Rd w S (entCells m)) := hS
  clear hA hS
  by_cases he : l.length = m.length
  · rw [← he]
    have HE : Hid (l.length = m.length) := he
    clear he
    go_enter Try.func26, Try.ntmps26
    go_wp2
    go_loopw [5] (fun i wr => ∃ k j : Nat, k ≤ l.length ∧ i = .int .i64 k ∧ wr = w.drewN j ∧ l.take k = m.take k) (fun i _ => l.length - (intOf i).toNat)
    case atStart => exact ⟨0, 0, by omega, rfl, rfl, rfl⟩
    case round =>
      obtain ⟨k, j, hk, rfl, rfl, ht⟩ := hrel
      have HT : Hid (l.take k = m.take k) := ht
      clear ht
      by_cases hlt : k < l.length
      · obtain ⟨b, o, rfl, a0, a1, a2, a3, a4, a5, a6⟩ := HA.out.ent k hlt
        obtain ⟨b', o', rfl, s0, s1, s2, s3, s4, s5, s6⟩ := HS.out.ent k (by rw [← HE.out]; exact hlt)
        have hlt' : (k : Int) < (l.length : Int) := by omega
        go_wp2
        go_quiet (fail)
        go_wp2
        · go_ret
          refine ⟨retBool ?_, bDrN (bDrN (Below.refl _ _) _) _⟩
          rename_i h
          rw [entEq_iff] at h
          refine (decide_eq_false ?_).symm
          rintro rfl
          simp at h
        · refine ⟨⟨k + 1, _, by omega, by go_num, rfl, ?_⟩, by simp [intOf]; omega⟩
          rename_i h
          rw [entEq_iff] at h
          have h' : l[k] = m[k]'(by rw [← HE.out]; exact hlt) := of_decide_eq_true (notFalse h)
          rw [List.take_succ_eq_append_getElem hlt, List.take_succ_eq_append_getElem (by rw [← HE.out]; exact hlt), HT.out, h']
      · go_wp2
        go_ret
        refine ⟨retBool ?_, bDrN (Below.refl _ _) _⟩
        refine (decide_eq_true ?_).symm
        have h := HT.out
        rw [List.take_of_length_le (by omega), List.take_of_length_le (by rw [← HE.out]; omega)] at h
        exact h
  · have hne : ((l.length : Int) != (m.length : Int)) = true := by
      rw [bne_iff_ne]
      omega
    go_enter Try.func26, Try.ntmps26
    go_wp2
    go_ret
    exact ⟨retBool (decide_eq_false (fun h => he (by rw [h]))).symm, Below.refl _ _⟩
set_option maxRecDepth 100000 in set_option maxHeartbeats 1000000 in
theorem same20 (rm : Int) (A : Option Addr) (c : Nat) (l : List Ent) (g0 g1 g2 g3 g4 g5 g6 rn : Int) (S : Option Addr) (d : Nat) (m : List Ent) (h0 h1 h2 h3 h4 h5 h6 : Int) (w : World) (hA : Rd w A (entCells l)) (hS : Rd w S (entCells m)) (hl : l.length ≤ 100000) (hm : m.length ≤ 100000) :
    Calls Try.prog 20 #[.agg #[.int .i64 rm, .slice A l.length c, .int .u64 g0, .int .u64 g1, .int .i64 g2, .int .i64 g3, .int .i64 g4, .int .i64 g5, .int .i64 g6], .agg #[.int .i64 rn, .slice S m.length d, .int .u64 h0, .int .u64 h1, .int .i64 h2, .int .i64 h3, .int .i64 h4, .int .i64 h5, .int .i64 h6]] w fun e w' =>
      e = .returned (.bool (decide ((⟨rm, l, ⟨g0, ⟨g1, g2, g3, g4, g5, g6⟩⟩⟩ : RingS) = ⟨rn, m, ⟨h0, ⟨h1, h2, h3, h4, h5, h6⟩⟩⟩))) ∧ Below w.heap.size w w' := by
  have hu29 := Try.underlying29; have hu27 := Try.underlying27; have hu25 := Try.underlying25
  have HA : Hid (Rd w A (entCells l)) := hA
  have HS : Hid (Rd w S (entCells m)) := hS
  have HB : Hid (Below w.heap.size w w) := Below.refl _ _
  clear hA hS
  by_cases hr : rm = rn
  · subst hr
    cases hg : entEq g0 h0 g1 h1 g2 h2 g3 h3 g4 h4 g5 h5 g6 h6
    · have hv : decide ((⟨rm, l, ⟨g0, ⟨g1, g2, g3, g4, g5, g6⟩⟩⟩ : RingS) = ⟨rm, m, ⟨h0, ⟨h1, h2, h3, h4, h5, h6⟩⟩⟩) = false := by
        rw [entEq_iff] at hg
        refine decide_eq_false fun h => ?_
        simp only [RingS.mk.injEq] at h
        rw [h.2.2] at hg
        simp at hg
      rw [hv]
      go_enter Try.func20, Try.ntmps20
      go_wp2
      go_ret
      refine ⟨rfl, ?_⟩
      repeat (first | (with_reducible exact HB.out) | (with_reducible apply bAl) | (with_reducible apply bDr) | (with_reducible apply bDrN) | ((with_reducible refine bSt ?_ ?_ _); (first | (with_reducible assumption) | omega | (simp <;> omega))))
    · have hv : decide ((⟨rm, l, ⟨g0, ⟨g1, g2, g3, g4, g5, g6⟩⟩⟩ : RingS) = ⟨rm, m, ⟨h0, ⟨h1, h2, h3, h4, h5, h6⟩⟩⟩) = decide (l = m) := by
        rw [entEq_iff] at hg
        have hg' := of_decide_eq_true hg
        rw [hg']
        simp
      rw [hv]
      have HV : Hid (l.length ≤ 100000 ∧ m.length ≤ 100000) := ⟨hl, hm⟩
      clear hv hl hm
      go_enter Try.func20, Try.ntmps20
      go_wp2_with fail
      refine (entries26 A c l S d m _ ?hA ?hS HV.out.1 HV.out.2).mono ?_
      case hA => exact HA.out.below (by repeat (first | (with_reducible exact HB.out) | (with_reducible apply bAl) | (with_reducible apply bDr) | (with_reducible apply bDrN) | ((with_reducible refine bSt ?_ ?_ _); (first | (with_reducible assumption) | omega | (simp <;> omega)))))
      case hS => exact HS.out.below (by repeat (first | (with_reducible exact HB.out) | (with_reducible apply bAl) | (with_reducible apply bDr) | (with_reducible apply bDrN) | ((with_reducible refine bSt ?_ ?_ _); (first | (with_reducible assumption) | omega | (simp <;> omega)))))
      rintro e w1 ⟨rfl, hb⟩
      (replace HB : Hid (Below w.heap.size w w1) := bCall (by repeat (first | (with_reducible exact HB.out) | (with_reducible apply bAl) | (with_reducible apply bDr) | (with_reducible apply bDrN) | ((with_reducible refine bSt ?_ ?_ _); (first | (with_reducible assumption) | omega | (simp <;> omega))))) hb); clear hb; (have := HB.out.size)
      go_wp2
      go_ret
      refine ⟨rfl, ?_⟩
      repeat (first | (with_reducible exact HB.out) | (with_reducible apply bAl) | (with_reducible apply bDr) | (with_reducible apply bDrN) | ((with_reducible refine bSt ?_ ?_ _); (first | (with_reducible assumption) | omega | (simp <;> omega))))
  · have hv : decide ((⟨rm, l, ⟨g0, ⟨g1, g2, g3, g4, g5, g6⟩⟩⟩ : RingS) = ⟨rn, m, ⟨h0, ⟨h1, h2, h3, h4, h5, h6⟩⟩⟩) = false := by
      refine decide_eq_false fun h => ?_
      simp only [RingS.mk.injEq] at h
      exact hr h.1
    rw [hv]
    have hr' : (rm == rn) = false := by simpa using hr
    go_enter Try.func20, Try.ntmps20
    go_wp2
    go_ret
    refine ⟨rfl, ?_⟩
    repeat (first | (with_reducible exact HB.out) | (with_reducible apply bAl) | (with_reducible apply bDr) | (with_reducible apply bDrN) | ((with_reducible refine bSt ?_ ?_ _); (first | (with_reducible assumption) | omega | (simp <;> omega))))
end Go.Proofs.Ytlegpbookbghbaa
