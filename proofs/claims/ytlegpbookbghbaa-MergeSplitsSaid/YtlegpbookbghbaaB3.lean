/- RingKeeps answers true: the plain facts and the walk; the entries lie in memory. -/
import Derived.Test.YtlegpbookbghbaaB2
set_option linter.unusedVariables false
set_option linter.unusedSimpArgs false
namespace Go.Proofs.Ytlegpbookbghbaa
open Go.RowKit
attribute [local go_sem high] eqIn27

/-! the contracts with whole rings and entries -/
theorem allR (r : RingS) (A : Option Addr) (c : Nat) (w : World) (hA : Rd w A (entCells r.L)) (hl : r.L.length ≤ c) (hs : r.L.length ≤ 1000) : Calls Try.prog 25 #[.agg #[.int .i64 r.room, .slice A r.L.length c, .int .u64 r.gap.st, .int .u64 r.gap.e.sq, .int .i64 r.gap.e.tk, .int .i64 r.gap.e.pt, .int .i64 r.gap.e.kd, .int .i64 r.gap.e.a, .int .i64 r.gap.e.b]] w (AllPost w (allS r)) :=
  all25 r.room A c r.L r.gap.st r.gap.e.sq r.gap.e.tk r.gap.e.pt r.gap.e.kd r.gap.e.a r.gap.e.b w hA hl hs
theorem takeR (r : RingS) (A : Option Addr) (c : Nat) (w : World) (hA : Rd w A (entCells r.L)) (hl : r.L.length ≤ c) (hs : r.L.length ≤ 1000) : Calls Try.prog 24 #[.agg #[.int .i64 r.room, .slice A r.L.length c, .int .u64 r.gap.st, .int .u64 r.gap.e.sq, .int .i64 r.gap.e.tk, .int .i64 r.gap.e.pt, .int .i64 r.gap.e.kd, .int .i64 r.gap.e.a, .int .i64 r.gap.e.b]] w (TakePost w (takeS r)) :=
  take24 r.room A c r.L r.gap.st r.gap.e.sq r.gap.e.tk r.gap.e.pt r.gap.e.kd r.gap.e.a r.gap.e.b w hA hl hs
theorem putR (r : RingS) (x : Ent) (A : Option Addr) (c : Nat) (w : World) (hA : Rd w A (entCells r.L)) (hs : r.L.length ≤ 1000) : Calls Try.prog 17 #[.agg #[.int .i64 r.room, .slice A r.L.length c, .int .u64 r.gap.st, .int .u64 r.gap.e.sq, .int .i64 r.gap.e.tk, .int .i64 r.gap.e.pt, .int .i64 r.gap.e.kd, .int .i64 r.gap.e.a, .int .i64 r.gap.e.b], .agg #[.int .u64 x.st, .int .u64 x.e.sq, .int .i64 x.e.tk, .int .i64 x.e.pt, .int .i64 x.e.kd, .int .i64 x.e.a, .int .i64 x.e.b]] w (PutPost w (putS r x)) :=
  put17 r.room A c r.L r.gap.st r.gap.e.sq r.gap.e.tk r.gap.e.pt r.gap.e.kd r.gap.e.a r.gap.e.b x.st x.e.sq x.e.tk x.e.pt x.e.kd x.e.a x.e.b w hA hs
theorem headR (r : RingS) (A : Option Addr) (c : Nat) (w : World) (hA : Rd w A (entCells r.L)) (hl : r.L.length ≤ c) (hs : r.L.length ≤ 1000) :
    Calls Try.prog 58 #[.agg #[.int .i64 r.room, .slice A r.L.length c, .int .u64 r.gap.st, .int .u64 r.gap.e.sq, .int .i64 r.gap.e.tk, .int .i64 r.gap.e.pt, .int .i64 r.gap.e.kd, .int .i64 r.gap.e.a, .int .i64 r.gap.e.b]] w fun e w' => e = .returned (.tuple #[.int .u64 (headS r).1, .bool (headS r).2]) ∧ Below w.heap.size w w' :=
  head58 r.room A c r.L r.gap.st r.gap.e.sq r.gap.e.tk r.gap.e.pt r.gap.e.kd r.gap.e.a r.gap.e.b w hA hl hs
theorem isR (r : RingS) (A : Option Addr) (c : Nat) (w : World) : Calls Try.prog 21 #[.agg #[.int .i64 r.room, .slice A r.L.length c, .int .u64 r.gap.st, .int .u64 r.gap.e.sq, .int .i64 r.gap.e.tk, .int .i64 r.gap.e.pt, .int .i64 r.gap.e.kd, .int .i64 r.gap.e.a, .int .i64 r.gap.e.b]] w fun e w' => e = .returned (.bool (ringIs r)) ∧ Below w.heap.size w w' :=
  ringIs21 r.room A r.L.length c r.gap.st r.gap.e.sq r.gap.e.tk r.gap.e.pt r.gap.e.kd r.gap.e.a r.gap.e.b w
theorem entriesSelf (A : Option Addr) (c : Nat) (l : List Ent) (S : Option Addr) (d : Nat) (w : World) (hA : Rd w A (entCells l)) (hS : Rd w S (entCells l)) (hl : l.length ≤ 100000) :
    Calls Try.prog 26 #[.slice A l.length c, .slice S l.length d] w fun e w' => e = .returned (.bool true) ∧ Below w.heap.size w w' := by
  have := entries26 A c l S d l w hA hS hl hl
  rw [decide_eq_true (rfl : l = l)] at this
  exact this
theorem entEq_self (x : Ent) : entEq x.st x.st x.e.sq x.e.sq x.e.tk x.e.tk x.e.pt x.e.pt x.e.kd x.e.kd x.e.a x.e.a x.e.b x.e.b = true := by simp [entEq]

/-! the plain facts -/
theorem putS_err (r : RingS) (x : Ent) : (putS r x).2 = 0 ∨ (putS r x).2 = 1 := by
  unfold putS
  split
  · split
    · split <;> simp
    · split <;> simp
  · simp
theorem allS_len (r : RingS) : (allS r).length ≤ r.L.length + 1 := by
  unfold allS
  split
  · split <;> simp
  · simp
theorem isGap_hasGap {g : Ent} (h : isGap g = true) (h0 : g.e.a = 0) : g = ent0 := by
  simp only [isGap, Bool.or_eq_true, decide_eq_true_eq] at h
  rcases h with h | h
  · exact h
  · simp only [gapB, Bool.and_eq_true, decide_eq_true_eq] at h
    omega
theorem ringIs_iff (r : RingS) : ringIs r = true ↔ (2 ≤ r.room ∧ r.room ≤ 64 ∧ (r.L.length : Int) ≤ r.room ∧ isGap r.gap = true) := by
  simp [ringIs, ringIsN, roomB, inB, and_assoc]
theorem isGap_ent0 : isGap ent0 = true := by decide
theorem gapB_evIs {g : Ent} (h : gapB g = true) : g.e.kd = 7 ∧ 1 ≤ g.e.a ∧ g.e.sq = 0 ∧ g.e.b = 0 ∧ 0 ≤ g.e.tk ∧ g.e.tk ≤ 1099511627776 ∧ -1 ≤ g.e.pt ∧ g.e.pt ≤ 31 ∧ g.e.a ≤ 4294967295 := by
  simp only [gapB, evIs, inB, Bool.and_eq_true, decide_eq_true_eq, beq_iff_eq] at h
  omega
theorem gapB_mk {g : Ent} (h : g.e.kd = 7 ∧ 1 ≤ g.e.a ∧ g.e.sq = 0 ∧ g.e.b = 0 ∧ 0 ≤ g.e.tk ∧ g.e.tk ≤ 1099511627776 ∧ -1 ≤ g.e.pt ∧ g.e.pt ≤ 31 ∧ g.e.a ≤ 4294967295) : gapB g = true := by
  simp only [gapB, evIs, inB, Bool.and_eq_true, decide_eq_true_eq, beq_iff_eq]
  omega
theorem isGap_parts {g : Ent} (h : isGap g = true) (h0 : g.e.a ≠ 0) : gapB g = true := by
  simp only [isGap, Bool.or_eq_true, decide_eq_true_eq] at h
  rcases h with h | h
  · subst h; exact absurd rfl h0
  · exact h
theorem evIs_parts {e : Ev} (h : evIs e = true) : 1 ≤ e.kd ∧ e.kd ≤ 8 ∧ 0 ≤ e.tk ∧ e.tk ≤ 1099511627776 ∧ -1 ≤ e.pt ∧ e.pt ≤ 31 ∧ 0 ≤ e.a ∧ e.a ≤ 4294967295 ∧ 0 ≤ e.b ∧ e.b ≤ 4294967295 := by
  simp only [evIs, inB, Bool.and_eq_true, decide_eq_true_eq] at h
  omega
/-- What put makes is right again, and its room is the same. -/
theorem putS_is {r : RingS} {x : Ent} (h : (putS r x).2 = 0) : ringIs (putS r x).1 = true ∧ (putS r x).1.room = r.room ∧ ringIs r = true ∧ evIs x.e = true := by
  unfold putS at h ⊢
  by_cases hc : (ringIs r && evIs x.e) = true
  · rw [if_pos hc] at h ⊢
    have hr : ringIs r = true := by simp at hc; exact hc.1
    have he : evIs x.e = true := by simp at hc; exact hc.2
    obtain ⟨h1, h2, h3, h4⟩ := (ringIs_iff r).1 hr
    have hp := evIs_parts he
    by_cases hg : hasGap r = true
    · rw [if_pos hg] at h ⊢
      have hga : r.gap.e.a ≠ 0 := by simpa [hasGap] using hg
      have hgp := gapB_evIs (isGap_parts h4 hga)
      by_cases hr2 : (r.L.length : Int) + 2 ≤ r.room
      · rw [if_pos hr2]
        refine ⟨(ringIs_iff _).2 ⟨h1, h2, ?_, isGap_ent0⟩, rfl, hr, he⟩
        simp
        omega
      · rw [if_neg hr2]
        refine ⟨(ringIs_iff _).2 ⟨h1, h2, h3, ?_⟩, rfl, hr, he⟩
        have : gapB (bump r.gap) = true := gapB_mk (by simp only [bump]; omega)
        simp [isGap, this]
    · rw [if_neg hg] at h ⊢
      by_cases hr2 : (r.L.length : Int) + 1 ≤ r.room
      · rw [if_pos hr2]
        refine ⟨(ringIs_iff _).2 ⟨h1, h2, ?_, h4⟩, rfl, hr, he⟩
        simp
        omega
      · rw [if_neg hr2]
        refine ⟨(ringIs_iff _).2 ⟨h1, h2, h3, ?_⟩, rfl, hr, he⟩
        have : gapB (newGap x) = true := gapB_mk (by simp [newGap]; omega)
        simp [isGap, this]
  · rw [if_neg hc] at h
    simp at h
/-- How long all of what put makes is: it doesn't hang on the entry. -/
def putLen (r : RingS) : Nat :=
  if hasGap r then (if (r.L.length : Int) + 2 ≤ r.room then r.L.length + 2 else r.L.length + 1) else r.L.length + 1
theorem allS_put {r : RingS} {x : Ent} (h : (putS r x).2 = 0) : (allS (putS r x).1).length = putLen r ∧ (allS r).length ≤ putLen r := by
  obtain ⟨hi, -, hr, he⟩ := putS_is h
  have ha : (allS r).length = if hasGap r then r.L.length + 1 else r.L.length := by
    simp only [allS, hr, if_true]
    split <;> simp
  have hb : (allS (putS r x).1).length = if hasGap (putS r x).1 then (putS r x).1.L.length + 1 else (putS r x).1.L.length := by
    simp only [allS, hi, if_true]
    split <;> simp
  rw [ha, hb]
  obtain ⟨h1, h2, h3, h4⟩ := (ringIs_iff r).1 hr
  unfold putS putLen
  simp only [hr, he, Bool.and_self, if_true]
  by_cases hg : hasGap r = true
  · simp only [hg, if_true]
    have hga : r.gap.e.a ≠ 0 := by simpa [hasGap] using hg
    have hgp := gapB_evIs (isGap_parts h4 hga)
    by_cases hr2 : (r.L.length : Int) + 2 ≤ r.room
    · simp [hr2, hasGap, ent0, ev0]
    · have : (bump r.gap).e.a ≠ 0 := by simp only [bump]; omega
      simp [hr2, hasGap, this]
  · have hg' : hasGap r = false := by simpa using hg
    simp only [hg', Bool.false_eq_true, if_false]
    by_cases hr2 : (r.L.length : Int) + 1 ≤ r.room
    · have : r.gap.e.a = 0 := by simpa [hasGap] using hg'
      simp [hr2, hasGap, this]
    · simp [hr2, hasGap, newGap]
theorem takeS_no {r : RingS} (h : (takeS r).2.2 = false) : allS r = [] := by
  unfold takeS at h
  unfold allS
  by_cases hr : ringIs r = true
  · simp only [hr, if_true] at h ⊢
    cases hL : r.L with
    | nil =>
      rw [hL] at h
      by_cases hg : hasGap r = true
      · simp [hg] at h
      · simp [hg]
    | cons x l => rw [hL] at h; simp at h
  · simp [hr]
theorem takeS_yes {r : RingS} (h : (takeS r).2.2 = true) : allS r = (takeS r).1 :: allS (takeS r).2.1 := by
  unfold takeS at h ⊢
  by_cases hr : ringIs r = true
  · simp only [hr, if_true] at h ⊢
    obtain ⟨h1, h2, h3, h4⟩ := (ringIs_iff r).1 hr
    cases hL : r.L with
    | nil =>
      rw [hL] at h
      by_cases hg : hasGap r = true
      · have hi : ringIs ⟨r.room, [], ent0⟩ = true := (ringIs_iff _).2 ⟨h1, h2, by simp; omega, isGap_ent0⟩
        simp [hg, allS, hr, hi, hL, hasGap, ent0, ev0] at hg ⊢
        simp [hg]
      · simp [hg] at h
    | cons x l =>
      have hi : ringIs ⟨r.room, l, r.gap⟩ = true := (ringIs_iff _).2 ⟨h1, h2, by rw [hL] at h3; simp at h3 ⊢; omega, h4⟩
      simp only [allS, hr, hi, hL, if_true, hasGap]
      split <;> simp_all
  · simp [hr] at h
end Go.Proofs.Ytlegpbookbghbaa
