/- RingTells: the plain facts: what a ring tells is a chain from the first stamp that isn't told to the next one that is put; no condition. -/
import Derived.Test.YtlegpbookbghbaaB3
set_option linter.unusedVariables false
set_option linter.unusedSimpArgs false
namespace Go.Proofs.Ytlegpbookbghbaa

def chain : List Ent → Int → Int → Prop
  | [], t, t' => t = t'
  | x :: l, t, t' => x.st = t ∧ x.e.tk = 5 ∧ x.e.pt = 1 ∧ ((x.e.kd = 7 ∧ 1 ≤ x.e.a ∧ chain l (t + x.e.a) t') ∨ (x = ent9 t ∧ chain l (t + 1) t'))
theorem chain_append (l m : List Ent) (t t' : Int) : chain (l ++ m) t t' ↔ ∃ u, chain l t u ∧ chain m u t' := by
  induction l generalizing t with
  | nil => simp [chain]
  | cons x l ih =>
    simp only [List.cons_append, chain, ih]
    constructor
    · rintro ⟨h1, h2, h3, ⟨h4, h5, u, h6, h7⟩ | ⟨h4, u, h6, h7⟩⟩
      · exact ⟨u, ⟨h1, h2, h3, .inl ⟨h4, h5, h6⟩⟩, h7⟩
      · exact ⟨u, ⟨h1, h2, h3, .inr ⟨h4, h6⟩⟩, h7⟩
    · rintro ⟨u, ⟨h1, h2, h3, ⟨h4, h5, h6⟩ | ⟨h4, h6⟩⟩, h7⟩
      · exact ⟨h1, h2, h3, .inl ⟨h4, h5, u, h6, h7⟩⟩
      · exact ⟨h1, h2, h3, .inr ⟨h4, u, h6, h7⟩⟩
theorem chain_le (l : List Ent) (t t' : Int) (h : chain l t t') : t ≤ t' := by
  induction l generalizing t with
  | nil => exact Int.le_of_eq h
  | cons x l ih =>
    obtain ⟨-, -, -, ⟨-, h5, h6⟩ | ⟨-, h6⟩⟩ := h
    · have := ih _ h6; omega
    · have := ih _ h6; omega
theorem chain_one_ent (t : Int) : chain [ent9 t] t (t + 1) := ⟨rfl, rfl, rfl, .inr ⟨rfl, rfl⟩⟩
theorem ent9_is (t : Int) : evIs (ent9 t).e = true := by simp [ent9, evIs, inB]

structure TInv (n : Int) (r : RingS) (pt td : Int) (k : Nat) : Prop where
  is_ : ringIs r = true
  room : r.room = n
  ch : chain (allS r) td pt
  td0 : 0 ≤ td
  pk : pt ≤ k
theorem TInv.le {n : Int} {r : RingS} {pt td : Int} {k : Nat} (h : TInv n r pt td k) : td ≤ pt := chain_le _ _ _ h.ch
theorem allS_is {r : RingS} (h : ringIs r = true) : allS r = if hasGap r then r.L ++ [r.gap] else r.L := by simp [allS, h]
theorem TInv.start (n : Int) (h : roomB n = true) : TInv n ⟨n, [], ent0⟩ 0 0 0 := by
  have hi : ringIs ⟨n, [], ent0⟩ = true := by
    rw [ringIs_iff]
    simp only [roomB, inB, Bool.and_eq_true, decide_eq_true_eq] at h
    exact ⟨h.1, h.2, by simp; omega, isGap_ent0⟩
  exact ⟨hi, rfl, by rw [allS_is hi]; rfl, Int.le_refl _, Int.le_refl _⟩
theorem TInv.put {n : Int} {r : RingS} {pt td : Int} {k : Nat} (h : TInv n r pt td k) (hp : pt ≤ 1000) :
    (putS r (ent9 pt)).2 = 0 ∧ TInv n (putS r (ent9 pt)).1 (pt + 1) td (k + 1) ∧ ((putS r (ent9 pt)).1.L.length : Int) ≤ n := by
  have hr := h.is_
  have he := ent9_is pt
  have h0 : (putS r (ent9 pt)).2 = 0 := by
    unfold putS
    simp only [hr, he, Bool.and_self, if_true]
    split
    · split <;> rfl
    · split <;> rfl
  obtain ⟨hi, hroom, -, -⟩ := putS_is h0
  refine ⟨h0, ⟨hi, by rw [hroom, h.room], ?_, h.td0, by have := h.pk; omega⟩, ?_⟩
  · rw [allS_is hi]
    have hc := h.ch
    rw [allS_is hr] at hc
    obtain ⟨h1, h2, h3, h4⟩ := (ringIs_iff r).1 hr
    unfold putS
    simp only [hr, he, Bool.and_self, if_true]
    by_cases hg : hasGap r = true
    · simp only [hg, if_true] at hc ⊢
      have hga : r.gap.e.a ≠ 0 := by simpa [hasGap] using hg
      have hgp := gapB_evIs (isGap_parts h4 hga)
      by_cases hr2 : (r.L.length : Int) + 2 ≤ r.room
      · have hz : hasGap ⟨r.room, r.L ++ [r.gap, ent9 pt], ent0⟩ = false := by simp [hasGap, ent0, ev0]
        simp only [hr2, if_true, hz, Bool.false_eq_true, if_false]
        have : r.L ++ [r.gap, ent9 pt] = (r.L ++ [r.gap]) ++ [ent9 pt] := by simp
        rw [this, chain_append]
        exact ⟨pt, hc, chain_one_ent pt⟩
      · have hb : hasGap ⟨r.room, r.L, bump r.gap⟩ = true := by
          simp only [hasGap, bump]
          rw [bne_iff_ne]
          omega
        simp only [hr2, if_false, hb, if_true]
        rw [chain_append] at hc ⊢
        obtain ⟨u, c1, c2⟩ := hc
        have hu := chain_le _ _ _ c1
        obtain ⟨d1, d2, d3, d4⟩ := c2
        refine ⟨u, c1, ?_⟩
        rcases d4 with ⟨d4, d5, d6⟩ | ⟨d4, d6⟩
        · have d7 : u + r.gap.e.a = pt := d6
          have ht := h.td0
          refine ⟨d1, d2, d3, .inl ⟨d4, ?_, ?_⟩⟩
          · simp only [bump]; omega
          · show u + (bump r.gap).e.a = pt + 1
            simp only [bump]
            omega
        · rw [d4] at hgp
          simp [ent9] at hgp
    · have hg' : hasGap r = false := by simpa using hg
      simp only [hg', Bool.false_eq_true, if_false] at hc ⊢
      by_cases hr2 : (r.L.length : Int) + 1 ≤ r.room
      · have hz : hasGap ⟨r.room, r.L ++ [ent9 pt], r.gap⟩ = false := hg'
        simp only [hr2, if_true, hz, Bool.false_eq_true, if_false]
        rw [chain_append]
        exact ⟨pt, hc, chain_one_ent pt⟩
      · have hb : hasGap ⟨r.room, r.L, newGap (ent9 pt)⟩ = true := by simp [hasGap, newGap]
        simp only [hr2, if_false, hb, if_true]
        rw [chain_append]
        refine ⟨pt, hc, rfl, rfl, rfl, .inl ⟨rfl, ?_, ?_⟩⟩
        · simp [newGap]
        · show pt + (newGap (ent9 pt)).e.a = pt + 1
          simp [newGap]
  · have := ((ringIs_iff _).1 hi).2.2.1
    rw [hroom, h.room] at this
    exact this
theorem TInv.takeNo {n : Int} {r : RingS} {pt td : Int} {k : Nat} (h : TInv n r pt td k) (hn : (takeS r).2.2 = false) : pt = td := by
  have hc := h.ch
  rw [takeS_no hn] at hc
  exact hc.symm
theorem takeS_is {r : RingS} (h : (takeS r).2.2 = true) : ringIs (takeS r).2.1 = true ∧ (takeS r).2.1.room = r.room := by
  unfold takeS at h ⊢
  by_cases hr : ringIs r = true
  · simp only [hr, if_true] at h ⊢
    obtain ⟨h1, h2, h3, h4⟩ := (ringIs_iff r).1 hr
    cases hL : r.L with
    | nil =>
      rw [hL] at h
      by_cases hg : hasGap r = true
      · have hi : ringIs ⟨r.room, [], ent0⟩ = true := (ringIs_iff _).2 ⟨h1, h2, by simp; omega, isGap_ent0⟩
        simp [hg, hi]
      · simp [hg] at h
    | cons x l =>
      have hi : ringIs ⟨r.room, l, r.gap⟩ = true := (ringIs_iff _).2 ⟨h1, h2, by rw [hL] at h3; simp at h3 ⊢; omega, h4⟩
      simp [hi]
  · simp [hr] at h
theorem TInv.takeYes {n : Int} {r : RingS} {pt td : Int} {k : Nat} (h : TInv n r pt td k) (hn : (takeS r).2.2 = true) :
    td < pt ∧ (takeS r).1.st = td ∧ (takeS r).1.e.tk = 5 ∧ (takeS r).1.e.pt = 1 ∧
      (((takeS r).1.e.kd = 7 ∧ 1 ≤ (takeS r).1.e.a ∧ (takeS r).1.e.a ≤ pt - td ∧ TInv n (takeS r).2.1 pt (td + (takeS r).1.e.a) (k + 1)) ∨
       ((takeS r).1 = ent9 td ∧ TInv n (takeS r).2.1 pt (td + 1) (k + 1))) := by
  have hc := h.ch
  rw [takeS_yes hn] at hc
  obtain ⟨hi, hroom⟩ := takeS_is hn
  obtain ⟨h1, h2, h3, ⟨h4, h5, h6⟩ | ⟨h4, h6⟩⟩ := hc
  · have := chain_le _ _ _ h6
    have ht := h.td0
    have hp := h.pk
    exact ⟨by omega, h1, h2, h3, .inl ⟨h4, h5, by omega, ⟨hi, by rw [hroom, h.room], h6, by omega, by omega⟩⟩⟩
  · have := chain_le _ _ _ h6
    have ht := h.td0
    have hp := h.pk
    exact ⟨by omega, h1, h2, h3, .inr ⟨h4, ⟨hi, by rw [hroom, h.room], h6, by omega, by omega⟩⟩⟩
/-- The i-th of a chain. -/
theorem chain_get {l : List Ent} {t t' : Int} (h : chain l t t') (hne : l ≠ []) : ∃ x m, l = x :: m ∧ x.st = t ∧ ((x.e.kd = 7 ∧ 1 ≤ x.e.a ∧ chain m (t + x.e.a) t') ∨ (x.e.kd ≠ 7 ∧ chain m (t + 1) t')) := by
  cases l with
  | nil => exact absurd rfl hne
  | cons x m =>
    obtain ⟨h1, -, -, ⟨h4, h5, h6⟩ | ⟨h4, h6⟩⟩ := h
    · exact ⟨x, m, rfl, h1, .inl ⟨h4, h5, h6⟩⟩
    · refine ⟨x, m, rfl, h1, .inr ⟨?_, h6⟩⟩
      rw [h4]
      simp [ent9]
end Go.Proofs.Ytlegpbookbghbaa
