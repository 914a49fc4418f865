/- What Check tells, plainly; no condition. -/
import Derived.Test.YtlegpbookbghbaaD7
set_option linter.unusedVariables false
set_option linter.unusedSimpArgs false
namespace Go.Proofs.Ytlegpbookbghbaa
open Go.RowKit

def partErr (p : PlanS) (i : Nat) (x : PartS) : Int := if partB0 p.mem x then 6 else if partB1 p.parts i x then 14 else if partB2 x then 2 else if partB3 x then 12 else 0
def winErr (n : Nat) (x : WinS) : Int := if winB0 n x then 1 else if winB1 x then 2 else 0
def chanErr (n : Nat) (x : ChanS) : Int := if chanB0 x then 12 else if chanB1 n x then 1 else if chanB2 x then 2 else 0
/-- The first one that is not 0; 0, if there is none. -/
def firstErr : List Int → Int
  | [] => 0
  | e :: l => if e = 0 then firstErr l else e
def orErr (e f : Int) : Int := if e = 0 then f else e
def partErrs (p : PlanS) : List Int := p.parts.mapIdx fun i x => partErr p i x
def winErrs (p : PlanS) : List Int := p.wins.map (winErr p.parts.length)
def chanErrs (p : PlanS) : List Int := p.chans.map (chanErr p.parts.length)
def checkS (p : PlanS) : Int :=
  if numbersB p then 2 else orErr (firstErr (partErrs p)) (orErr (firstErr (winErrs p)) (if traceB p then 7 else firstErr (chanErrs p)))
theorem firstErr_append (l m : List Int) : firstErr (l ++ m) = orErr (firstErr l) (firstErr m) := by
  induction l with
  | nil => simp [firstErr, orErr]
  | cons e l ih =>
    simp only [List.cons_append, firstErr]
    split
    · exact ih
    · rename_i h
      simp [orErr, h]
theorem firstErr_take {l : List Int} {k : Nat} (hk : k < l.length) (h : firstErr (l.take k) = 0) (he : l[k] ≠ 0) : firstErr l = l[k] := by
  have hl : firstErr l = firstErr (l.take k ++ (l[k] :: l.drop (k + 1))) := by rw [← List.drop_eq_getElem_cons hk, List.take_append_drop]
  rw [hl, firstErr_append, h]
  simp only [orErr, firstErr, if_true, he, if_false]
theorem firstErr_step {l : List Int} {k : Nat} (hk : k < l.length) (h : firstErr (l.take k) = 0) (he : l[k] = 0) : firstErr (l.take (k + 1)) = 0 := by
  rw [List.take_succ_eq_append_getElem hk, firstErr_append, h]
  simp [orErr, firstErr, he]
def listErr (p : PlanS) : Nat → Int
  | 0 => if numbersB p then 2 else 0
  | 1 => firstErr (partErrs p)
  | 2 => firstErr (winErrs p)
  | 3 => if traceB p then 7 else 0
  | 4 => firstErr (chanErrs p)
  | _ => 0
theorem checkS_none (p : PlanS) (h : ∀ i, i < 5 → listErr p i = 0) : checkS p = 0 := by
  have h0 := h 0 (by decide)
  have h1 := h 1 (by decide)
  have h2 := h 2 (by decide)
  have h3 := h 3 (by decide)
  have h4 := h 4 (by decide)
  simp only [listErr] at h0 h1 h2 h3 h4
  unfold checkS
  rw [h1, h2, h4]
  split <;> simp_all [orErr]
theorem checkS_some (p : PlanS) (k : Nat) (hk : k < 5) (h : ∀ i, i < k → listErr p i = 0) (he : listErr p k ≠ 0) : checkS p = listErr p k := by
  unfold checkS
  match k, hk with
  | 0, _ =>
    simp only [listErr] at he ⊢
    split <;> simp_all
  | 1, _ =>
    have h0 := h 0 (by decide)
    simp only [listErr] at h0 he ⊢
    have h0' : numbersB p = false := by cases hq : numbersB p <;> simp_all
    simp [h0', orErr, he]
  | 2, _ =>
    have h0 := h 0 (by decide)
    have h1 := h 1 (by decide)
    simp only [listErr] at h0 h1 he ⊢
    have h0' : numbersB p = false := by cases hq : numbersB p <;> simp_all
    simp [h0', h1, orErr, he]
  | 3, _ =>
    have h0 := h 0 (by decide)
    have h1 := h 1 (by decide)
    have h2 := h 2 (by decide)
    simp only [listErr] at h0 h1 h2 he ⊢
    have h0' : numbersB p = false := by cases hq : numbersB p <;> simp_all
    have h3' : traceB p = true := by cases hq : traceB p <;> simp_all
    simp [h0', h1, h2, h3', orErr]
  | 4, _ =>
    have h0 := h 0 (by decide)
    have h1 := h 1 (by decide)
    have h2 := h 2 (by decide)
    have h3 := h 3 (by decide)
    simp only [listErr] at h0 h1 h2 h3 he ⊢
    have h0' : numbersB p = false := by cases hq : numbersB p <;> simp_all
    have h3' : traceB p = false := by cases hq : traceB p <;> simp_all
    simp [h0', h1, h2, h3', orErr]
end Go.Proofs.Ytlegpbookbghbaa
