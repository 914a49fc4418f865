/- The ring whose head is the least: the walks; the rings lie in memory. -/
import Derived.Test.YtlegpbookbghbaaJ1
set_option linter.unusedVariables false
set_option linter.unusedSimpArgs false
namespace Go.Proofs.Ytlegpbookbghbaa
open Go.RowKit

/-- The place of the least head of the first k rings, and that head. -/
def stepL (s : Int × Int) (k : Nat) (r : RingS) : Int × Int :=
  if (headS r).2 = true ∧ (s.1 < 0 ∨ (headS r).1 < s.2) then (k, (headS r).1) else s
def leastL : List RingS → Nat → Int × Int
  | l, 0 => (-1, 0)
  | l, k + 1 => if h : k < l.length then stepL (leastL l k) k l[k] else leastL l k
def firstL (l : List RingS) : Int := (leastL l l.length).1
theorem leastL_range (l : List RingS) (k : Nat) : -1 ≤ (leastL l k).1 ∧ (leastL l k).1 < (l.length : Int) := by
  induction k with
  | zero => simp [leastL]; omega
  | succ k ih =>
    unfold leastL
    split
    · unfold stepL
      split
      · simp; omega
      · exact ih
    · exact ih
theorem rings_get (l : List RingM) (k : Nat) (hk : k < l.length) : (rings l)[k]'(by simp [rings]; exact hk) = l[k].r := by simp [rings]
theorem leastL_step (l : List RingM) (k : Nat) (hk : k < l.length) : leastL (rings l) (k + 1) = stepL (leastL (rings l) k) k l[k].r := by
  rw [leastL, dif_pos (by simp [rings]; exact hk), rings_get l k hk]
set_option maxRecDepth 100000 in set_option maxHeartbeats 4000000 in
theorem head98 (A : Option Addr) (c : Nat) (l : List RingM) (x k : Nat) (w : World) (hx : Blk w x #[.slice A l.length c] 80) (hA : RingsR w A l) (hk : k < l.length) (hl : l[k].r.L.length ≤ 1000) :
    Calls Try.prog 98 #[.int .i64 k, .pointer (some ⟨x, 0, none⟩)] w fun e w' => e = .returned (.tuple #[.int .u64 (headS l[k].r).1, .bool (headS l[k].r).2]) ∧ Below w.heap.size w w' := by
  have hu29 := Try.underlying29; have hu27 := Try.underlying27; have hu25 := Try.underlying25
  have hu80 := Try.underlying80
  have HB : Hid (Below w.heap.size w w) := Below.refl _ _
  obtain ⟨b, o, rfl, s0, s1, s2, s3, s4, s5, s6, s7, s8⟩ := hA.1.ring9 k hk
  obtain ⟨hc, hR⟩ := hA.2 l[k] (List.getElem_mem hk)
  have HR := Lib.hid hR
  have hlt' : (k : Int) < (l.length : Int) := by omega
  have c0 := hx.cell
  clear hA hR hx
  generalize l[k] = p at *
  go_enter Try.func98, Try.ntmps98
  go_wp2_with fail
  refine (headR p.r p.A p.c _ HR.out hc hl).mono ?_
  rintro e w1 ⟨rfl, hb⟩
  (replace HB : Hid (Below w.heap.size w w1) := bCall (by repeat (first | (with_reducible exact HB.out) | (with_reducible apply bAl) | (with_reducible apply bDr) | (with_reducible apply bDrN) | ((with_reducible refine bSt ?_ ?_ _); (first | (with_reducible assumption) | omega | (simp <;> omega))))) hb); clear hb; (have := HB.out.size)
  go_wp2
  go_ret2
  exact ⟨rfl, HB.out⟩
set_option maxRecDepth 100000 in set_option maxHeartbeats 4000000 in
theorem least97 (A : Option Addr) (c : Nat) (l : List RingM) (x : Nat) (w : World) (hx : Blk w x #[.slice A l.length c] 80) (hA : RingsR w A l) (hn : l.length ≤ 1000) (hl : ∀ p ∈ l, p.r.L.length ≤ 1000) :
    Calls Try.prog 97 #[.int .i64 l.length, .func (.func 98) #[] #[.pointer (some ⟨x, 0, none⟩)]] w fun e w' => e = .returned (.int .i64 (firstL (rings l))) ∧ Below w.heap.size w w' := by
  have HA := Lib.hid hA
  have HX := Lib.hid hx
  have HL := Lib.hid hl
  clear hA hx hl
  go_enter Try.func97, Try.ntmps97
  go_wp2
  go_loopw [5, 6, 11] (fun pl be i wr => ∃ k : Nat, k ≤ l.length ∧ pl = .int .i64 (leastL (rings l) k).1 ∧ be = .int .u64 (leastL (rings l) k).2 ∧ i = .int .i64 k ∧ Below w.heap.size w wr) (fun _ _ i _ => l.length - (intOf i).toNat)
  case atStart => exact ⟨0, Nat.zero_le _, rfl, rfl, rfl, Below.refl _ _⟩
  case round =>
    obtain ⟨k, hk, rfl, rfl, rfl, hbel⟩ := hrel
    have HB := Lib.hid hbel
    clear hbel
    by_cases hlt : k < l.length
    · have hlt' : (k : Int) < (l.length : Int) := by omega
      have HS := Lib.hid (leastL_step l k hlt)
      generalize leastL (rings l) k = s at *
      obtain ⟨sp, sb⟩ := s
      dsimp only at *
      go_wp2_with fail
      refine (head98 A c l x k _ (HX.out.below HB.out) (HA.out.below HB.out) hlt (HL.out _ (List.getElem_mem hlt))).mono ?_
      rintro e w1 ⟨rfl, hb⟩
      (replace HB : Hid (Below w.heap.size w w1) := bCall (by repeat (first | (with_reducible exact HB.out) | (with_reducible apply bAl) | (with_reducible apply bDr) | (with_reducible apply bDrN) | ((with_reducible refine bSt ?_ ?_ _); (first | (with_reducible assumption) | omega | (simp <;> omega))))) hb); clear hb; (have := HB.out.size)
      generalize hh : headS l[k].r = h at *
      obtain ⟨hv, has⟩ := h
      have HH := Lib.hid hh
      clear hh
      dsimp only at *
      cases has
      · have e : leastL (rings l) (k + 1) = (sp, sb) := by rw [HS.out]; simp [stepL, HH.out]
        have HE := Lib.hid e
        clear e
        go_wp2
        exact ⟨⟨k + 1, by omega, by rw [HE.out], by rw [HE.out], by go_num, HB.out⟩, by simp [intOf]; omega⟩
      · by_cases h0 : sp < 0
        · have e : leastL (rings l) (k + 1) = ((k : Int), hv) := by rw [HS.out]; simp [stepL, HH.out, h0]
          have HE := Lib.hid e
          clear e
          go_wp2
          exact ⟨⟨k + 1, by omega, by rw [HE.out], by rw [HE.out], by go_num, HB.out⟩, by simp [intOf]; omega⟩
        · by_cases h1 : hv < sb
          · have e : leastL (rings l) (k + 1) = ((k : Int), hv) := by rw [HS.out]; simp [stepL, HH.out, h0, h1]
            have HE := Lib.hid e
            clear e
            go_wp2
            exact ⟨⟨k + 1, by omega, by rw [HE.out], by rw [HE.out], by go_num, HB.out⟩, by simp [intOf]; omega⟩
          · have e : leastL (rings l) (k + 1) = (sp, sb) := by rw [HS.out]; simp [stepL, HH.out, h0, h1]
            have HE := Lib.hid e
            clear e
            go_wp2
            exact ⟨⟨k + 1, by omega, by rw [HE.out], by rw [HE.out], by go_num, HB.out⟩, by simp [intOf]; omega⟩
    · have hkk : k = l.length := by omega
      subst hkk
      go_wp2
      go_ret
      refine ⟨?_, HB.out⟩
      unfold firstL
      simp [rings]
set_option maxRecDepth 100000 in set_option maxHeartbeats 4000000 in
theorem first82 (A : Option Addr) (c : Nat) (l : List RingM) (w : World) (hA : RingsR w A l) (hn : l.length ≤ 1000) (hl : ∀ p ∈ l, p.r.L.length ≤ 1000) :
    Calls Try.prog 82 #[.slice A l.length c] w fun e w' => e = .returned (.int .i64 (firstL (rings l))) ∧ Below w.heap.size w w' := by
  have HA := Lib.hid hA
  have HL := Lib.hid hl
  have HB : Hid (Below w.heap.size w w) := Below.refl _ _
  have hu80 := Try.underlying80
  clear hA hl
  go_enter Try.func82, Try.ntmps82
  go_wp2_with fail
  refine (least97 A c l w.heap.size _ ?_ (HA.out.below (by repeat (first | (with_reducible exact HB.out) | (with_reducible apply bAl) | (with_reducible apply bDr) | (with_reducible apply bDrN) | ((with_reducible refine bSt ?_ ?_ _); (first | (with_reducible assumption) | omega | (simp <;> omega)))))) hn HL.out).mono ?_
  · exact Blk.newAt _ _ _ _ rfl
  rintro e w1 ⟨rfl, hb⟩
  (replace HB : Hid (Below w.heap.size w w1) := bCall (by repeat (first | (with_reducible exact HB.out) | (with_reducible apply bAl) | (with_reducible apply bDr) | (with_reducible apply bDrN) | ((with_reducible refine bSt ?_ ?_ _); (first | (with_reducible assumption) | omega | (simp <;> omega))))) hb); clear hb; (have := HB.out.size)
  go_wp2
  go_ret
  exact ⟨rfl, HB.out⟩
end Go.Proofs.Ytlegpbookbghbaa
