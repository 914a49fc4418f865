/- How much rings hold, and whether they are too many: the walks; the rings lie in memory. -/
import Derived.Test.YtlegpbookbghbaaJ0
set_option linter.unusedVariables false
set_option linter.unusedSimpArgs false
namespace Go.Proofs.Ytlegpbookbghbaa
open Go.RowKit

theorem Rd.ring9 {w : World} {A : Option Addr} {l : List RingM} (h : Rd w A (rgCells l)) (k : Nat) (hk : k < l.length) : ∃ b o, A = some ⟨b, o, none⟩ ∧
    w.cell? ⟨b, o + k * 9, none⟩ = some (.int .i64 l[k].r.room) ∧ w.cell? ⟨b, o + k * 9 + 1, none⟩ = some (.slice l[k].A l[k].r.L.length l[k].c) ∧ w.cell? ⟨b, o + k * 9 + 2, none⟩ = some (.int .u64 l[k].r.gap.st) ∧
    w.cell? ⟨b, o + k * 9 + 3, none⟩ = some (.int .u64 l[k].r.gap.e.sq) ∧ w.cell? ⟨b, o + k * 9 + 4, none⟩ = some (.int .i64 l[k].r.gap.e.tk) ∧ w.cell? ⟨b, o + k * 9 + 5, none⟩ = some (.int .i64 l[k].r.gap.e.pt) ∧
    w.cell? ⟨b, o + k * 9 + 6, none⟩ = some (.int .i64 l[k].r.gap.e.kd) ∧ w.cell? ⟨b, o + k * 9 + 7, none⟩ = some (.int .i64 l[k].r.gap.e.a) ∧ w.cell? ⟨b, o + k * 9 + 8, none⟩ = some (.int .i64 l[k].r.gap.e.b) := by
  obtain ⟨b, o, rfl, hc⟩ := h.ring k hk
  exact ⟨b, o, rfl, hc 0 _ rfl, hc 1 _ rfl, hc 2 _ rfl, hc 3 _ rfl, hc 4 _ rfl, hc 5 _ rfl, hc 6 _ rfl, hc 7 _ rfl, hc 8 _ rfl⟩
def heldS (r : RingS) : Nat := if ringIs r then (if hasGap r then r.L.length + 1 else r.L.length) else 0
def heldL : List RingS → Nat
  | [] => 0
  | r :: l => heldS r + heldL l
theorem heldL_append (l m : List RingS) : heldL (l ++ m) = heldL l + heldL m := by
  induction l with
  | nil => simp [heldL]
  | cons r l ih => simp [heldL, ih]; omega
theorem ringIs_len {r : RingS} (h : ringIs r = true) : r.L.length ≤ 64 := by
  have := ringIsN_parts h
  omega
theorem heldS_le (r : RingS) : heldS r ≤ 65 := by
  unfold heldS
  split
  · rename_i h
    have := ringIs_len h
    split <;> omega
  · omega
theorem heldL_le (l : List RingS) : heldL l ≤ 65 * l.length := by
  induction l with
  | nil => simp [heldL]
  | cons r l ih => have := heldS_le r; simp [heldL]; omega
theorem heldL_take (l : List RingM) (k : Nat) (hk : k < l.length) : heldL (rings (l.take (k + 1))) = heldL (rings (l.take k)) + heldS l[k].r := by
  rw [List.take_succ_eq_append_getElem hk]
  unfold rings
  rw [List.map_append, heldL_append]
  simp [heldL]
theorem heldL_takeLe (l : List RingM) (k : Nat) : heldL (rings (l.take k)) ≤ 65 * l.length := by
  have := heldL_le (rings (l.take k))
  have h2 : (rings (l.take k)).length ≤ l.length := by simp [rings]; omega
  have h3 := Nat.mul_le_mul_left 65 h2
  omega
set_option maxRecDepth 100000 in set_option maxHeartbeats 4000000 in
theorem held52 (A : Option Addr) (c : Nat) (l : List RingM) (w : World) (hA : RingsR w A l) (hn : l.length ≤ 100) :
    Calls Try.prog 52 #[.slice A l.length c] w fun e w' => e = .returned (.int .i64 (heldL (rings l))) ∧ Below w.heap.size w w' := by
  have hu29 := Try.underlying29; have hu27 := Try.underlying27; have hu25 := Try.underlying25
  have hu80 := Try.underlying80
  have HA := Lib.hid hA
  clear hA
  go_enter Try.func52, Try.ntmps52
  go_wp2
  go_loopw [3, 8] (fun n i wr => ∃ k : Nat, k ≤ l.length ∧ n = .int .i64 (heldL (rings (l.take k))) ∧ i = .int .i64 k ∧ Below w.heap.size w wr) (fun _ i _ => l.length - (intOf i).toNat)
  case atStart => exact ⟨0, Nat.zero_le _, by simp [rings, heldL], rfl, Below.refl _ _⟩
  case round =>
    obtain ⟨k, hk, rfl, rfl, hbel⟩ := hrel
    have HB := Lib.hid hbel
    have hz := hbel.size
    by_cases hlt : k < l.length
    · obtain ⟨b, o, rfl, s0, s1, s2, s3, s4, s5, s6, s7, s8⟩ := (HA.out.below hbel).1.ring9 k hlt
      have hlt' : (k : Int) < (l.length : Int) := by omega
      have ht := heldL_take l k hlt
      have hle := heldL_takeLe l k
      generalize l[k] = p at *
      generalize heldL (rings (l.take k)) = s at *
      have HT := Lib.hid ht
      clear ht hbel
      cases hi : ringIs p.r
      · have e0 : heldS p.r = 0 := by simp [heldS, hi]
        rw [e0, Nat.add_zero] at HT
        go_wp2_with fail
        refine (isR p.r p.A p.c _).mono ?_
        rw [hi]
        rintro e w1 ⟨rfl, hb⟩
        (replace B5 : Hid (Blk w1 (wr.heap.size) _ _) := Blk.below (by repeat (first | (with_reducible exact B5.out) | ((with_reducible apply Blk.newAt); (first | (with_reducible rfl) | (simp <;> omega))) | (with_reducible apply Blk.alloc) | (with_reducible apply Blk.drew) | (with_reducible apply Blk.drewN) | (with_reducible apply Blk.set) | ((with_reducible apply Blk.setO); (first | (with_reducible assumption) | omega | (simp <;> omega))))) hb); (replace c5 := (B5.out).cell); (replace f5 := (B5.out).froz); (replace l5 := (B5.out).lt)
        (replace HB : Hid (Below w.heap.size w w1) := bCall (by repeat (first | (with_reducible exact HB.out) | (with_reducible apply bAl) | (with_reducible apply bDr) | (with_reducible apply bDrN) | ((with_reducible refine bSt ?_ ?_ _); (first | (with_reducible assumption) | omega | (simp <;> omega))))) hb); clear hb; (have := HB.out.size)
        go_wp2
        exact ⟨⟨k + 1, by omega, by rw [HT.out]; congr 1 <;> omega, by go_num, HB.out⟩, by simp [intOf]; omega⟩
      · have hlen := ringIs_len hi
        cases hg : hasGap p.r
        · have e0 : heldS p.r = p.r.L.length := by simp [heldS, hi, hg]
          rw [e0] at HT
          have hg' : (p.r.gap.e.a != 0) = false := hg
          go_wp2_with fail
          refine (isR p.r p.A p.c _).mono ?_
          rw [hi]
          rintro e w1 ⟨rfl, hb⟩
          (replace B5 : Hid (Blk w1 (wr.heap.size) _ _) := Blk.below (by repeat (first | (with_reducible exact B5.out) | ((with_reducible apply Blk.newAt); (first | (with_reducible rfl) | (simp <;> omega))) | (with_reducible apply Blk.alloc) | (with_reducible apply Blk.drew) | (with_reducible apply Blk.drewN) | (with_reducible apply Blk.set) | ((with_reducible apply Blk.setO); (first | (with_reducible assumption) | omega | (simp <;> omega))))) hb); (replace c5 := (B5.out).cell); (replace f5 := (B5.out).froz); (replace l5 := (B5.out).lt)
          (replace HB : Hid (Below w.heap.size w w1) := bCall (by repeat (first | (with_reducible exact HB.out) | (with_reducible apply bAl) | (with_reducible apply bDr) | (with_reducible apply bDrN) | ((with_reducible refine bSt ?_ ?_ _); (first | (with_reducible assumption) | omega | (simp <;> omega))))) hb); clear hb; (have := HB.out.size)
          go_wp2
          exact ⟨⟨k + 1, by omega, by rw [HT.out]; congr 1 <;> omega, by go_num, HB.out⟩, by simp [intOf]; omega⟩
        · have e0 : heldS p.r = p.r.L.length + 1 := by simp [heldS, hi, hg]
          rw [e0] at HT
          have hg' : (p.r.gap.e.a != 0) = true := hg
          go_wp2_with fail
          refine (isR p.r p.A p.c _).mono ?_
          rw [hi]
          rintro e w1 ⟨rfl, hb⟩
          (replace B5 : Hid (Blk w1 (wr.heap.size) _ _) := Blk.below (by repeat (first | (with_reducible exact B5.out) | ((with_reducible apply Blk.newAt); (first | (with_reducible rfl) | (simp <;> omega))) | (with_reducible apply Blk.alloc) | (with_reducible apply Blk.drew) | (with_reducible apply Blk.drewN) | (with_reducible apply Blk.set) | ((with_reducible apply Blk.setO); (first | (with_reducible assumption) | omega | (simp <;> omega))))) hb); (replace c5 := (B5.out).cell); (replace f5 := (B5.out).froz); (replace l5 := (B5.out).lt)
          (replace HB : Hid (Below w.heap.size w w1) := bCall (by repeat (first | (with_reducible exact HB.out) | (with_reducible apply bAl) | (with_reducible apply bDr) | (with_reducible apply bDrN) | ((with_reducible refine bSt ?_ ?_ _); (first | (with_reducible assumption) | omega | (simp <;> omega))))) hb); clear hb; (have := HB.out.size)
          go_wp2
          exact ⟨⟨k + 1, by omega, by rw [HT.out]; congr 1 <;> omega, by go_num, HB.out⟩, by simp [intOf]; omega⟩
    · have hkk : k = l.length := by omega
      subst hkk
      rw [List.take_length]
      go_wp2
      go_ret
      exact ⟨rfl, HB.out⟩
set_option maxRecDepth 100000 in set_option maxHeartbeats 4000000 in
theorem big48 (A : Option Addr) (c : Nat) (l : List RingM) (w : World) (hA : RingsR w A l) :
    Calls Try.prog 48 #[.slice A l.length c] w fun e w' => (e = .returned (.bool true) ∨ (e = .returned (.bool false) ∧ l.length ≤ 40 ∧ ∀ p ∈ l, p.r.L.length ≤ 200)) ∧ Below w.heap.size w w' := by
  have hu29 := Try.underlying29
  have hu80 := Try.underlying80
  have HA := Lib.hid hA
  clear hA
  by_cases h40 : l.length ≤ 40
  · have h40' : (l.length : Int) ≤ 40 := by omega
    go_enter Try.func48, Try.ntmps48
    go_wp2
    go_loopw [3] (fun i wr => ∃ k j : Nat, k ≤ l.length ∧ i = .int .i64 k ∧ wr = w.drewN j ∧ ∀ i, ∀ h : i < l.length, i < k → l[i].r.L.length ≤ 200) (fun i _ => l.length - (intOf i).toNat)
    case atStart => exact ⟨0, 0, Nat.zero_le _, rfl, rfl, fun i h h0 => absurd h0 (Nat.not_lt_zero _)⟩
    case round =>
      obtain ⟨k, j, hk, rfl, rfl, hq⟩ := hrel
      have HQ := Lib.hid hq
      clear hq
      by_cases hlt : k < l.length
      · obtain ⟨b, o, rfl, s0, s1, -⟩ := HA.out.1.ring9 k hlt
        have hlt' : (k : Int) < (l.length : Int) := by omega
        by_cases hg : l[k].r.L.length ≤ 200
        · have HG := Lib.hid hg
          have hg' : (l[k].r.L.length : Int) ≤ 200 := by omega
          clear s0
          generalize l[k].r.L.length = n at s1 hg'
          go_wp2
          refine ⟨⟨k + 1, _, by omega, by go_num, rfl, fun i h hik => ?_⟩, by simp [intOf]; omega⟩
          by_cases e : i = k
          · subst e; exact HG.out
          · exact HQ.out i h (by omega)
        · have hg' : (200 : Int) < (l[k].r.L.length : Int) := by omega
          clear s0
          generalize l[k].r.L.length = n at s1 hg'
          go_wp2
          go_ret
          exact ⟨.inl rfl, bDrN (Below.refl _ _) _⟩
      · have hkk : k = l.length := by omega
        go_wp2
        go_ret
        refine ⟨.inr ⟨retBool (decide_eq_false (by omega)), h40, fun p hp => ?_⟩, bDrN (Below.refl _ _) _⟩
        obtain ⟨i, hi, rfl⟩ := List.mem_iff_getElem.1 hp
        exact HQ.out i hi (by omega)
  · have h40' : (40 : Int) < (l.length : Int) := by omega
    have h1 : (0 : Int) < (l.length : Int) := by omega
    have h2 : ¬ (l.length : Int) ≤ 40 := by omega
    go_enter Try.func48, Try.ntmps48
    go_wp2
    go_loopw [3] (fun i wr => i = .int .i64 0 ∧ wr = w) (fun i _ => l.length - (intOf i).toNat)
    case atStart => exact ⟨rfl, rfl⟩
    case round =>
      obtain ⟨rfl, rfl⟩ := hrel
      go_wp2
      go_ret
      exact ⟨.inl rfl, Below.refl _ _⟩
end Go.Proofs.Ytlegpbookbghbaa
