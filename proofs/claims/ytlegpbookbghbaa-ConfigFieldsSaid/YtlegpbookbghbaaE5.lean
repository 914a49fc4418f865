/- What a plan that may be is like, plainly; no condition. -/
import Derived.Test.YtlegpbookbghbaaE0
set_option linter.unusedVariables false
set_option linter.unusedSimpArgs false
namespace Go.Proofs.Ytlegpbookbghbaa
open Go.RowKit

theorem firstErr_mem {l : List Int} (h : firstErr l = 0) : ∀ x ∈ l, x = 0 := by
  induction l with
  | nil => intro x hx; cases hx
  | cons e l ih =>
    simp only [firstErr] at h
    split at h
    · rename_i he
      intro x hx
      rcases List.mem_cons.1 hx with rfl | hx
      · exact he
      · exact ih h x hx
    · rename_i he
      exact absurd h he
theorem orErr_zero {e f : Int} (h : orErr e f = 0) : e = 0 ∧ f = 0 := by
  unfold orErr at h
  split at h <;> simp_all
structure PartOk (p : PlanS) (i : Nat) (x : PartS) : Prop where
  lo : 0 ≤ x.base
  size : 1 ≤ x.size
  hi : x.base + x.size ≤ p.mem
  apart : ∀ k (hk : k < p.parts.length), k < i → apartB p.parts[k] x = true
  ring : 2 ≤ x.ring ∧ x.ring ≤ 64
  code : 1 ≤ x.cl ∧ x.cl ≤ 256
  again : 0 ≤ x.again ∧ x.again ≤ 100
  fault : 1 ≤ x.fault ∧ x.fault ≤ 3
structure WinOk (n : Nat) (x : WinS) : Prop where
  part : -1 ≤ x.part ∧ x.part ≤ (n : Int) - 1
  ticks : 1 ≤ x.ticks ∧ x.ticks ≤ 1000
structure ChanOk (n : Nat) (x : ChanS) : Prop where
  kind : 1 ≤ x.kind ∧ x.kind ≤ 2
  to_ : 0 ≤ x.to_ ∧ x.to_ ≤ (n : Int) - 1
structure PlanOk (p : PlanS) : Prop where
  mem : 1 ≤ p.mem ∧ p.mem ≤ 4096
  np : 1 ≤ p.parts.length ∧ p.parts.length ≤ 8
  nw : 1 ≤ p.wins.length ∧ p.wins.length ≤ 32
  nc : p.chans.length ≤ 16
  parts : ∀ i (hi : i < p.parts.length), PartOk p i p.parts[i]
  wins : ∀ x ∈ p.wins, WinOk p.parts.length x
  drains : sumT drainW p.wins ≠ 0
  chans : ∀ x ∈ p.chans, ChanOk p.parts.length x
theorem withinB_true {n a b : Int} (h : withinB n a b = true) : a ≤ n ∧ n ≤ b := by
  simpa [withinB] using h
theorem checkS_ok {p : PlanS} (h : checkS p = 0) : PlanOk p := by
  unfold checkS at h
  cases hn : numbersB p
  · rw [hn] at h
    simp only [Bool.false_eq_true, if_false] at h
    obtain ⟨h1, h⟩ := orErr_zero h
    obtain ⟨h2, h⟩ := orErr_zero h
    cases ht : traceB p
    · rw [ht] at h
      simp only [Bool.false_eq_true, if_false] at h
      simp only [numbersB, Bool.or_eq_false_iff, Bool.not_eq_false', decide_eq_false_iff_not] at hn
      obtain ⟨⟨⟨n1, n2⟩, n3⟩, n4⟩ := hn
      have n1 := withinB_true n1
      have n2 := withinB_true n2
      have n3 := withinB_true n3
      refine ⟨n1, by omega, by omega, by omega, fun i hi => ?_, fun x hx => ?_, ?_, fun x hx => ?_⟩
      · have he := firstErr_mem h1 (partErr p i p.parts[i]) (by
          unfold partErrs
          exact List.mem_iff_getElem.2 ⟨i, by simpa using hi, by simp⟩)
        generalize p.parts[i] = x at he
        unfold partErr at he
        cases b0 : partB0 p.mem x
        · cases b1 : partB1 p.parts i x
          · cases b2 : partB2 x
            · cases b3 : partB3 x
              · simp only [partB0, Bool.or_eq_false_iff, decide_eq_false_iff_not] at b0
                simp only [partB2, Bool.or_eq_false_iff, Bool.not_eq_false'] at b2
                simp only [partB3, Bool.not_eq_false'] at b3
                obtain ⟨⟨r1, r2⟩, r3⟩ := b2
                have r1 := withinB_true r1
                have r2 := withinB_true r2
                have r3 := withinB_true r3
                have r4 := withinB_true b3
                refine ⟨by omega, by omega, by omega, fun k hk hki => ?_, r1, by omega, r3, r4⟩
                unfold partB1 at b1
                rw [List.any_eq_false] at b1
                have := b1 p.parts[k] (List.mem_take_iff_getElem.2 ⟨k, by omega, rfl⟩)
                simpa using this
              · simp [b0, b1, b2, b3] at he
            · simp [b0, b1, b2] at he
          · simp [b0, b1] at he
        · simp [b0] at he
      · have he := firstErr_mem h2 (winErr p.parts.length x) (List.mem_map.2 ⟨x, hx, rfl⟩)
        unfold winErr at he
        cases b0 : winB0 p.parts.length x
        · cases b1 : winB1 x
          · simp only [winB0, Bool.not_eq_false'] at b0
            simp only [winB1, Bool.not_eq_false'] at b1
            exact ⟨withinB_true b0, withinB_true b1⟩
          · simp [b0, b1] at he
        · simp [b0] at he
      · simpa [traceB] using ht
      · have he := firstErr_mem h (chanErr p.parts.length x) (List.mem_map.2 ⟨x, hx, rfl⟩)
        unfold chanErr at he
        cases b0 : chanB0 x
        · cases b1 : chanB1 p.parts.length x
          · simp only [chanB0, Bool.not_eq_false'] at b0
            simp only [chanB1, Bool.or_eq_false_iff, Bool.not_eq_false'] at b1
            exact ⟨withinB_true b0, withinB_true b1.1.2⟩
          · simp [b0, b1] at he
        · simp [b0] at he
    · rw [ht] at h
      simp at h
  · rw [hn] at h
    simp at h
theorem apartB_symm (x y : PartS) : apartB x y = apartB y x := by
  unfold apartB
  rw [Bool.eq_iff_iff]
  simp only [Bool.or_eq_true, decide_eq_true_eq]
  omega
theorem apartB_self {x : PartS} (h : 1 ≤ x.size) : apartB x x = false := by
  unfold apartB
  simp only [Bool.or_eq_false_iff, decide_eq_false_iff_not]
  omega
/-- Parts of a plan that may be are apart, each from each. -/
theorem PlanOk.apart {p : PlanS} (h : PlanOk p) {i k : Nat} (hi : i < p.parts.length) (hk : k < p.parts.length) (hne : i ≠ k) : apartB p.parts[i] p.parts[k] = true := by
  by_cases hlt : i < k
  · exact (h.parts k hk).apart i hi hlt
  · rw [apartB_symm]
    exact (h.parts i hi).apart k hk (by omega)
theorem sumT_le (l : List WinS) : sumT drainW l ≤ sumT allW l := by
  induction l with
  | nil => exact Int.le_refl _
  | cons x l ih =>
    have := clampT_in x.ticks
    simp only [sumT, allW, if_true, List.map_cons, List.sum_cons] at ih ⊢
    split <;> omega
end Go.Proofs.Ytlegpbookbghbaa
