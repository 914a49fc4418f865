/- What a crash leaves of the sectors, plainly; the disk is one of some writes. -/
import Derived.Test.YtlegpbookbghbaaH2
set_option linter.unusedVariables false
set_option linter.unusedSimpArgs false
namespace Go.Proofs.Ytlegpbookbghbaa
open Go.RowKit

/-- The bytes of a sector. -/
def sec (L : List UInt8) (s a : Nat) : List UInt8 := (L.drop (a * s)).take s
theorem sec_get (L : List UInt8) (s a i : Nat) : (sec L s a)[i]? = if i < s then L[a * s + i]? else none := by
  simp [sec, List.getElem?_take, List.getElem?_drop]
theorem putB_get (L : List UInt8) (o : Nat) (b : List UInt8) (h : o + b.length ≤ L.length) (i : Nat) : (putB L o b)[i]? = if i < o then L[i]? else if i < o + b.length then b[i - o]? else L[i]? := by
  have hl : (L.take o).length = o := by rw [List.length_take]; omega
  unfold putB
  rw [List.append_assoc]
  by_cases h1 : i < o
  · rw [if_pos h1, List.getElem?_append_left (by omega), List.getElem?_take, if_pos h1]
  · rw [if_neg h1, List.getElem?_append_right (by omega), hl]
    by_cases h2 : i < o + b.length
    · rw [if_pos h2, List.getElem?_append_left (by omega)]
    · rw [if_neg h2, List.getElem?_append_right (by omega), List.getElem?_drop]
      congr 1
      omega
theorem mul_lt {a p s : Nat} (h : a < p) : a * s + s ≤ p * s := by
  have := Nat.mul_le_mul_right s (show a + 1 ≤ p from h)
  rwa [Nat.add_mul, Nat.one_mul] at this
theorem sec_other {L b : List UInt8} {s a p : Nat} (hne : p ≠ a) (hb : b.length ≤ s) (h : p * s + b.length ≤ L.length) : sec (putB L (p * s) b) s a = sec L s a := by
  apply List.ext_getElem?
  intro i
  rw [sec_get, sec_get]
  by_cases hi : i < s
  · rw [if_pos hi, if_pos hi, putB_get _ _ _ h]
    by_cases hlt : a < p
    · have := mul_lt (s := s) hlt
      rw [if_pos (by omega)]
    · have := mul_lt (s := s) (show p < a by omega)
      rw [if_neg (by omega), if_neg (by omega)]
  · rw [if_neg hi, if_neg hi]
theorem sec_same {L b : List UInt8} {s p : Nat} (hb : b.length = s) (h : p * s + b.length ≤ L.length) : sec (putB L (p * s) b) s p = b := by
  apply List.ext_getElem?
  intro i
  rw [sec_get]
  by_cases hi : i < s
  · rw [if_pos hi, putB_get _ _ _ h, if_neg (by omega), if_pos (by omega), Nat.add_sub_cancel_left]
  · rw [if_neg hi, List.getElem?_eq_none (by omega)]
theorem writeS_pend {D : DiskS} {a : Int} {b : List UInt8} {p : Nat × List UInt8} (hd : D.down = false) (hp : p ∈ (writeS D a b).pend) : p ∈ D.pend ∨ ((p.1 : Int) = a ∧ p.2 = b) := by
  unfold writeS at hp
  split at hp
  · rename_i hr
    have ha := (refuse_zero hd).1 hr
    rcases List.mem_append.1 hp with hp | hp
    · exact .inl hp
    · obtain rfl := List.mem_singleton.1 hp
      exact .inr ⟨by show (a.toNat : Int) = a; omega, rfl⟩
  · exact .inl hp
/-- Each pending write is one of the writes behind the flush. -/
theorem writtenS_pend {m s : Nat} {flushed : Int} {ats : List Int} (hm1 : 1 ≤ m) (hm2 : m ≤ 4096) (hs1 : 64 ≤ s) (hs2 : s ≤ 1024) (hal : ats.length ≤ 1000) : ∀ k, k ≤ ats.length → ∀ p ∈ (writtenS m s flushed ats k).pend,
    ∃ j, ∃ hj : j < ats.length, j < k ∧ (0 ≤ flushed → flushed < (k : Int) → flushed ≤ (j : Int)) ∧ ats[j] = (p.1 : Int) ∧ p.2 = fullS s j
  | 0, _, p, hp => by cases hp
  | k + 1, hk, p, hp => by
    have ih := writtenS_pend (flushed := flushed) (ats := ats) hm1 hm2 hs1 hs2 hal k (by omega)
    have hw := writtenS_ok m s flushed ats hm1 hm2 hs1 hs2 k (by omega)
    unfold writtenS at hp
    split at hp
    · rename_i hlt
      unfold stepS at hp
      rw [hw.size] at hp
      by_cases hf : (k : Int) = flushed
      · rw [if_pos hf] at hp
        rcases writeS_pend hw.flush.down hp with hp | ⟨h1, h2⟩
        · rw [flushS_eq hw.breaks] at hp
          cases hp
        · exact ⟨k, hlt, Nat.lt_succ_self k, fun _ _ => by omega, h1.symm, h2⟩
      · rw [if_neg hf] at hp
        rcases writeS_pend hw.down hp with hp | ⟨h1, h2⟩
        · obtain ⟨j, hj, hjk, hfl, h1, h2⟩ := ih p hp
          exact ⟨j, hj, by omega, fun h0 hl => hfl h0 (by omega), h1, h2⟩
        · exact ⟨k, hlt, Nat.lt_succ_self k, fun _ _ => by omega, h1.symm, h2⟩
    · rename_i hge
      omega
/-- A sector is as it was, or as one of the writes made it. -/
def GoodAt (was L : List UInt8) (s : Nat) (ats : List Int) (fr : Int) (a : Nat) : Prop :=
  sec L s a = sec was s a ∨ ∃ j, ∃ hj : j < ats.length, fr ≤ (j : Int) ∧ ats[j] = (a : Int) ∧ sec L s a = fullS s j
/-- The place of the last write that was kept, if that one is torn. -/
def OddAt (W : DiskS) (K : List Bool) (torn : Int) (a : Nat) : Prop := 0 ≤ torn ∧ torn < (W.size : Int) ∧ ∃ i : Nat, (i : Int) = finalS K ∧ (W.pend.getD i (0, [])).1 = a
theorem OddAt.uniq {W : DiskS} {K : List Bool} {torn : Int} {a b : Nat} (h : OddAt W K torn a) (k : OddAt W K torn b) : a = b := by
  obtain ⟨_, _, i, hi, rfl⟩ := h
  obtain ⟨_, _, j, hj, rfl⟩ := k
  have : i = j := by omega
  rw [this]
theorem crashed_good {W : DiskS} (ok : DOk W) (ats : List Int) (fr : Int) (hP : ∀ p ∈ W.pend, ∃ j, ∃ hj : j < ats.length, fr ≤ (j : Int) ∧ ats[j] = (p.1 : Int) ∧ p.2 = fullS W.size j) (K : List Bool) (torn : Int) (a : Nat) :
    ∀ k, k ≤ W.pend.length → GoodAt W.last (crashed W K torn k) W.size ats fr a ∨ OddAt W K torn a
  | 0, _ => .inl (.inl rfl)
  | k + 1, hk => by
    have hlt : k < W.pend.length := by omega
    have ih := crashed_good ok ats fr hP K torn a k (by omega)
    have hg : W.pend.getD k (0, []) = W.pend[k] := by simp [List.getD, hlt]
    have hmem := List.getElem_mem hlt
    have hlen := crashed_len ok K torn k (by omega)
    have hpl := place_le ok hmem
    have hsz := (ok.pend _ hmem).2
    unfold crashed
    split
    · have hml := mostS_le W.size (finalS K) torn k
      rw [hg]
      by_cases hpa : W.pend[k].1 = a
      · by_cases hto : (k : Int) = finalS K ∧ 0 ≤ torn ∧ torn < (W.size : Int)
        · exact .inr ⟨hto.2.1, hto.2.2, k, hto.1, by rw [hg]; exact hpa⟩
        · have hmo : mostS W.size (finalS K) torn k = W.size := if_neg hto
          rw [hmo, List.take_of_length_le (Nat.le_of_eq hsz)]
          obtain ⟨j, hj, hfj, h1, h2⟩ := hP _ hmem
          refine .inl (.inr ⟨j, hj, hfj, by rw [h1, hpa], ?_⟩)
          rw [← h2, ← hpa]
          exact sec_same hsz (by rw [hlen, hsz]; exact hpl)
      · have he := sec_other (L := crashed W K torn k) (b := (W.pend[k].2.take (mostS W.size (finalS K) torn k))) (s := W.size) hpa (by rw [List.length_take]; omega) (by rw [hlen, List.length_take]; omega)
        rcases ih with ih | ih
        · left
          unfold GoodAt at ih ⊢
          rw [he]
          exact ih
        · exact .inr ih
    · exact ih
end Go.Proofs.Ytlegpbookbghbaa
