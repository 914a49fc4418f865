/- Rings drained, plainly: what is held, the least head, some and then some more; no condition. -/
import Derived.Test.YtlegpbookbghbaaJ4
set_option linter.unusedVariables false
set_option linter.unusedSimpArgs false
namespace Go.Proofs.Ytlegpbookbghbaa

def stepD (s : List Ent × List RingS) : List Ent × List RingS :=
  if h : 0 ≤ firstL s.2 ∧ (firstL s.2).toNat < s.2.length then (s.1 ++ [(takeS (s.2[(firstL s.2).toNat]'h.2)).1], s.2.set (firstL s.2).toNat (takeS (s.2[(firstL s.2).toNat]'h.2)).2.1) else s
/-- So many are drained. -/
def drainN (l : List RingS) : Nat → List Ent × List RingS
  | 0 => ([], l)
  | k + 1 => stepD (drainN l k)
theorem leastL_or (l : List RingS) (k : Nat) : (leastL l k).1 = -1 ∨ ∃ i, ∃ h : i < l.length, (leastL l k).1 = (i : Int) ∧ (headS l[i]).2 = true := by
  induction k with
  | zero => exact .inl rfl
  | succ k ih =>
    unfold leastL
    split
    · rename_i h
      unfold stepL
      split
      · rename_i h2
        exact .inr ⟨k, h, rfl, h2.1⟩
      · exact ih
    · exact ih
theorem leastL_none (l : List RingS) (k : Nat) : (leastL l k).1 < 0 → ∀ i, ∀ h : i < l.length, i < k → (headS l[i]).2 = false := by
  induction k with
  | zero => intro _ i h h0; exact absurd h0 (Nat.not_lt_zero _)
  | succ k ih =>
    intro hn i h hik
    unfold leastL at hn
    split at hn
    · rename_i hk
      unfold stepL at hn
      split at hn
      · simp at hn
        omega
      · rename_i h2
        by_cases e : i = k
        · subst e
          cases hh : (headS l[i]).2
          · rfl
          · exact absurd ⟨hh, .inl hn⟩ h2
        · exact ih hn i h (by omega)
    · rename_i hk
      exact ih hn i h (by omega)
theorem firstL_ok {l : List RingS} (h : 0 ≤ firstL l) : ∃ hi : (firstL l).toNat < l.length, (headS l[(firstL l).toNat]).2 = true := by
  rcases leastL_or l l.length with h1 | ⟨i, hi, h1, h2⟩
  · unfold firstL at h
    omega
  · have e : (firstL l).toNat = i := by unfold firstL; omega
    refine ⟨by rw [e]; exact hi, ?_⟩
    simp only [e]
    exact h2
theorem isGap_ent0' : isGap ent0 = true := by decide
theorem ringIs_parts {r : RingS} (h : ringIs r = true) : roomB r.room = true ∧ (r.L.length : Int) ≤ r.room ∧ isGap r.gap = true := by
  unfold ringIs ringIsN at h
  simp only [Bool.and_eq_true, decide_eq_true_eq] at h
  exact h
theorem ringIs_mk {r : RingS} (h : roomB r.room = true ∧ (r.L.length : Int) ≤ r.room ∧ isGap r.gap = true) : ringIs r = true := by
  unfold ringIs ringIsN
  simp only [Bool.and_eq_true, decide_eq_true_eq]
  exact h
theorem roomB_pos {n : Int} (h : roomB n = true) : 2 ≤ n := by
  unfold roomB inB at h
  simp only [Bool.and_eq_true, decide_eq_true_eq] at h
  exact h.1
theorem head_take {r : RingS} (h : (headS r).2 = true) : (takeS r).2.2 = true ∧ heldS r = heldS (takeS r).2.1 + 1 ∧ (takeS r).2.1.L.length ≤ r.L.length := by
  unfold headS at h
  split at h
  · rename_i hi
    obtain ⟨h1, h2, h3⟩ := ringIs_parts hi
    obtain ⟨rm, L, g⟩ := r
    cases L with
    | cons x l =>
      have hi2 : ringIs ⟨rm, l, g⟩ = true := ringIs_mk ⟨h1, by simp at h2 ⊢; omega, h3⟩
      have e : takeS ⟨rm, x :: l, g⟩ = (x, ⟨rm, l, g⟩, true) := by simp [takeS, hi]
      rw [e]
      refine ⟨rfl, ?_, by simp⟩
      have e2 : hasGap ⟨rm, x :: l, g⟩ = hasGap ⟨rm, l, g⟩ := rfl
      simp only [heldS, hi, hi2, e2, if_true, List.length_cons]
      split <;> omega
    | nil =>
      dsimp only at h
      split at h
      · rename_i hg
        have e : takeS ⟨rm, [], g⟩ = (g, ⟨rm, [], ent0⟩, true) := by simp [takeS, hi, hg]
        rw [e]
        have hi2 : ringIs ⟨rm, [], ent0⟩ = true := ringIs_mk ⟨h1, by have := roomB_pos h1; simp at this ⊢; omega, isGap_ent0'⟩
        have hg2 : hasGap ⟨rm, [], ent0⟩ = false := by simp [hasGap, ent0, ev0]
        exact ⟨rfl, by simp [heldS, hi, hi2, hg, hg2], by simp⟩
      · cases h
  · cases h
theorem held_head {r : RingS} (h : 0 < heldS r) : (headS r).2 = true := by
  unfold heldS at h
  split at h
  · rename_i hi
    unfold headS
    rw [if_pos hi]
    obtain ⟨rm, L, g⟩ := r
    cases L with
    | cons x l => rfl
    | nil =>
      dsimp only
      split at h
      · rename_i hg
        simp [hg]
      · simp at h
  · omega
theorem heldL_pos {l : List RingS} (h : 0 < heldL l) : ∃ i, ∃ hi : i < l.length, 0 < heldS l[i] := by
  induction l with
  | nil => simp [heldL] at h
  | cons r l ih =>
    by_cases h0 : 0 < heldS r
    · exact ⟨0, by simp, h0⟩
    · obtain ⟨i, hi, h1⟩ := ih (by simp only [heldL] at h; omega)
      exact ⟨i + 1, by simpa using hi, by simpa using h1⟩
theorem firstL_pos {l : List RingS} (h : 0 < heldL l) : 0 ≤ firstL l := by
  obtain ⟨i, hi, h1⟩ := heldL_pos h
  rcases Int.lt_or_le (firstL l) 0 with hn | hn
  · have := leastL_none l l.length hn i hi hi
    rw [held_head h1] at this
    cases this
  · exact hn
theorem heldL_set (l : List RingS) (i : Nat) (hi : i < l.length) (r : RingS) : heldL (l.set i r) + heldS l[i] = heldL l + heldS r := by
  induction l generalizing i with
  | nil => simp at hi
  | cons q l ih =>
    cases i with
    | zero => simp [heldL]; omega
    | succ i =>
      have := ih i (by simpa using hi)
      simp only [List.set_cons_succ, heldL, List.getElem_cons_succ]
      omega
theorem stepD_pos {s : List Ent × List RingS} (h : 0 ≤ firstL s.2) : ∃ hi : (firstL s.2).toNat < s.2.length,
    stepD s = (s.1 ++ [(takeS (s.2[(firstL s.2).toNat]'hi)).1], s.2.set (firstL s.2).toNat (takeS (s.2[(firstL s.2).toNat]'hi)).2.1) ∧ (headS (s.2[(firstL s.2).toNat]'hi)).2 = true := by
  obtain ⟨hi, hh⟩ := firstL_ok h
  refine ⟨hi, ?_, hh⟩
  unfold stepD
  rw [dif_pos ⟨h, hi⟩]
theorem drainN_ok (l : List RingS) : ∀ k, k ≤ heldL l → (drainN l k).1.length = k ∧ heldL (drainN l k).2 + k = heldL l
  | 0, _ => ⟨rfl, rfl⟩
  | k + 1, hk => by
    obtain ⟨h1, h2⟩ := drainN_ok l k (by omega)
    have hp : 0 ≤ firstL (drainN l k).2 := firstL_pos (by omega)
    obtain ⟨hi, e, hh⟩ := stepD_pos (s := drainN l k) hp
    obtain ⟨-, ht, -⟩ := head_take hh
    have hs := heldL_set (drainN l k).2 _ hi (takeS ((drainN l k).2[(firstL (drainN l k).2).toNat]'hi)).2.1
    rw [drainN, e]
    refine ⟨by simp [h1], ?_⟩
    dsimp only
    omega
theorem drainN_len (l : List RingS) (k : Nat) : (drainN l k).2.length = l.length := by
  induction k with
  | zero => rfl
  | succ k ih =>
    rw [drainN]
    unfold stepD
    split
    · simpa using ih
    · exact ih
theorem drainN_all (l : List RingS) (n : Nat) (h : ∀ r ∈ l, r.L.length ≤ n) (k : Nat) : ∀ r ∈ (drainN l k).2, r.L.length ≤ n := by
  induction k with
  | zero => exact h
  | succ k ih =>
    rw [drainN]
    by_cases h0 : 0 ≤ firstL (drainN l k).2
    · obtain ⟨hi, e, hh⟩ := stepD_pos (s := drainN l k) h0
      rw [e]
      intro r hr
      rcases List.mem_or_eq_of_mem_set hr with hr | rfl
      · exact ih r hr
      · exact Nat.le_trans (head_take hh).2.2 (ih _ (List.getElem_mem hi))
    · have e : stepD (drainN l k) = drainN l k := by
        unfold stepD
        rw [dif_neg (fun h => h0 h.1)]
      rw [e]
      exact ih
theorem stepD_app (x : List Ent) (s : List Ent × List RingS) : stepD (x ++ s.1, s.2) = (x ++ (stepD s).1, (stepD s).2) := by
  unfold stepD
  dsimp only
  split
  · simp
  · rfl
theorem drainN_add (l : List RingS) (i : Nat) : ∀ j, drainN l (i + j) = ((drainN l i).1 ++ (drainN (drainN l i).2 j).1, (drainN (drainN l i).2 j).2)
  | 0 => by simp [drainN]
  | j + 1 => by
    rw [← Nat.add_assoc, drainN, drainN_add l i j, drainN, stepD_app]
/-- So many are drained of those that are held. -/
def drainM (l : List RingS) (most : Nat) : List Ent × List RingS := drainN l (min (min most 1000) (heldL l))
theorem drainM_split (l : List RingS) (a b : Nat) (ha : a ≤ 400) (hb : b ≤ 400) : drainM l (a + b) = ((drainM l a).1 ++ (drainM (drainM l a).2 b).1, (drainM (drainM l a).2 b).2) := by
  unfold drainM
  have e1 : min (min a 1000) (heldL l) = min a (heldL l) := by omega
  have e2 : min (min (a + b) 1000) (heldL l) = min (a + b) (heldL l) := by omega
  rw [e1, e2]
  obtain ⟨-, h2⟩ := drainN_ok l (min a (heldL l)) (by omega)
  have e3 : min (min b 1000) (heldL (drainN l (min a (heldL l))).2) = min (a + b) (heldL l) - min a (heldL l) := by omega
  rw [e3, ← drainN_add]
  congr 1
  omega
theorem drainM_none (l : List RingS) : drainM l 0 = ([], l) := by simp [drainM, drainN]
theorem drainM_held (l : List RingS) (a : Nat) : heldL l = (drainM l a).1.length + heldL (drainM l a).2 := by
  obtain ⟨h1, h2⟩ := drainN_ok l (min (min a 1000) (heldL l)) (by omega)
  unfold drainM
  omega
theorem drainM_all (l : List RingS) (n a : Nat) (h : ∀ r ∈ l, r.L.length ≤ n) : ∀ r ∈ (drainM l a).2, r.L.length ≤ n := drainN_all l n h _
theorem drainM_len (l : List RingS) (a : Nat) : (drainM l a).2.length = l.length := drainN_len l _
theorem drainM_len1 (l : List RingS) (a : Nat) : (drainM l a).1.length ≤ a := by
  obtain ⟨h1, h2⟩ := drainN_ok l (min (min a 1000) (heldL l)) (by omega)
  unfold drainM
  omega
end Go.Proofs.Ytlegpbookbghbaa
