/- Two rows of the same rings are the same: the walk; the rings lie in memory, no more than 1000 of them, their entries are no more than 1000 each. -/
import Derived.Test.YtlegpbookbghbaaJ6
import Derived.Deep.RegionHeld3
set_option linter.unusedVariables false
set_option linter.unusedSimpArgs false
namespace Go.Proofs.Ytlegpbookbghbaa
open Go.RowKit

set_option maxRecDepth 100000 in set_option maxHeartbeats 4000000 in
theorem same51 (A : Option Addr) (c : Nat) (l : List RingM) (S : Option Addr) (d : Nat) (m : List RingM) (w : World) (hA : RingsR w A l) (hS : RingsR w S m) (h : rings l = rings m) (hn : l.length ≤ 1000) (hl : ∀ p ∈ l, p.r.L.length ≤ 1000) :
    Calls Try.prog 51 #[.slice A l.length c, .slice S m.length d] w fun e w' => e = .returned (.bool true) ∧ Below w.heap.size w w' := by
  have hu29 := Try.underlying29; have hu27 := Try.underlying27; have hu25 := Try.underlying25
  have hu80 := Try.underlying80
  have HA := Lib.hid hA
  have HS := Lib.hid hS
  have HL := Lib.hid hl
  have HM := Lib.hid h
  have hlen := rings_len h
  clear hA hS hl h
  rw [← hlen]
  have HLEN := Lib.hid hlen
  clear hlen
  go_enter Try.func51, Try.ntmps51
  go_wp2
  go_loopw [5] (fun i wr => ∃ k : Nat, k ≤ l.length ∧ i = .int .i64 k ∧ Below w.heap.size w wr) (fun i _ => l.length - (intOf i).toNat)
  case atStart => exact ⟨0, Nat.zero_le _, rfl, Below.refl _ _⟩
  case round =>
    obtain ⟨k, hk, rfl, hbel⟩ := hrel
    have HB := Lib.hid hbel
    have HA2 := Lib.hid (HA.out.below hbel)
    have HS2 := Lib.hid (HS.out.below hbel)
    clear hbel
    by_cases hlt : k < l.length
    · have hlt' : (k : Int) < (l.length : Int) := by omega
      have hlt2 : k < m.length := by rw [← HLEN.out]; exact hlt
      obtain ⟨b, o, rfl, s0, s1, s2, s3, s4, s5, s6, s7, s8⟩ := HA2.out.1.ring9 k hlt
      obtain ⟨b', o', rfl, t0, t1, t2, t3, t4, t5, t6, t7, t8⟩ := HS2.out.1.ring9 k hlt2
      have hbl := World.block_lt_of_cell? wr _ s0
      have hbl' := World.block_lt_of_cell? wr _ t0
      obtain ⟨hpc, hpR⟩ := HA2.out.2 _ (List.getElem_mem hlt)
      obtain ⟨hqc, hqR⟩ := HS2.out.2 _ (List.getElem_mem hlt2)
      have hp1000 := HL.out _ (List.getElem_mem hlt)
      have hpq : l[k].r = m[k].r := by
        rw [← rings_get l k hlt, ← rings_get m k hlt2]
        simp only [HM.out]
      clear HA2 HS2 HA HS
      generalize l[k] = p at *
      generalize m[k] = q at *
      obtain ⟨r, A1, c1⟩ := p
      obtain ⟨r2, A2, c2⟩ := q
      dsimp only at *
      subst hpq
      have HPR := Lib.hid hpR
      have HQR := Lib.hid hqR
      have HQ : Hid (∀ w', Below wr.heap.size wr w' → (w'.cell? ⟨b, o + k * 9, none⟩ = some (.int .i64 r.room) ∧ w'.cell? ⟨b, o + k * 9 + 1, none⟩ = some (.slice A1 r.L.length c1) ∧ w'.cell? ⟨b, o + k * 9 + 2, none⟩ = some (.int .u64 r.gap.st) ∧ w'.cell? ⟨b, o + k * 9 + 3, none⟩ = some (.int .u64 r.gap.e.sq) ∧ w'.cell? ⟨b, o + k * 9 + 4, none⟩ = some (.int .i64 r.gap.e.tk) ∧ w'.cell? ⟨b, o + k * 9 + 5, none⟩ = some (.int .i64 r.gap.e.pt) ∧ w'.cell? ⟨b, o + k * 9 + 6, none⟩ = some (.int .i64 r.gap.e.kd) ∧ w'.cell? ⟨b, o + k * 9 + 7, none⟩ = some (.int .i64 r.gap.e.a) ∧ w'.cell? ⟨b, o + k * 9 + 8, none⟩ = some (.int .i64 r.gap.e.b)) ∧ (w'.cell? ⟨b', o' + k * 9, none⟩ = some (.int .i64 r.room) ∧ w'.cell? ⟨b', o' + k * 9 + 1, none⟩ = some (.slice A2 r.L.length c2) ∧ w'.cell? ⟨b', o' + k * 9 + 2, none⟩ = some (.int .u64 r.gap.st) ∧ w'.cell? ⟨b', o' + k * 9 + 3, none⟩ = some (.int .u64 r.gap.e.sq) ∧ w'.cell? ⟨b', o' + k * 9 + 4, none⟩ = some (.int .i64 r.gap.e.tk) ∧ w'.cell? ⟨b', o' + k * 9 + 5, none⟩ = some (.int .i64 r.gap.e.pt) ∧ w'.cell? ⟨b', o' + k * 9 + 6, none⟩ = some (.int .i64 r.gap.e.kd) ∧ w'.cell? ⟨b', o' + k * 9 + 7, none⟩ = some (.int .i64 r.gap.e.a) ∧ w'.cell? ⟨b', o' + k * 9 + 8, none⟩ = some (.int .i64 r.gap.e.b))) := fun w' hb => ⟨⟨(hb.cell (p := ⟨b, _, none⟩) hbl).trans s0, (hb.cell (p := ⟨b, _, none⟩) hbl).trans s1, (hb.cell (p := ⟨b, _, none⟩) hbl).trans s2, (hb.cell (p := ⟨b, _, none⟩) hbl).trans s3, (hb.cell (p := ⟨b, _, none⟩) hbl).trans s4, (hb.cell (p := ⟨b, _, none⟩) hbl).trans s5, (hb.cell (p := ⟨b, _, none⟩) hbl).trans s6, (hb.cell (p := ⟨b, _, none⟩) hbl).trans s7, (hb.cell (p := ⟨b, _, none⟩) hbl).trans s8⟩, ⟨(hb.cell (p := ⟨b', _, none⟩) hbl').trans t0, (hb.cell (p := ⟨b', _, none⟩) hbl').trans t1, (hb.cell (p := ⟨b', _, none⟩) hbl').trans t2, (hb.cell (p := ⟨b', _, none⟩) hbl').trans t3, (hb.cell (p := ⟨b', _, none⟩) hbl').trans t4, (hb.cell (p := ⟨b', _, none⟩) hbl').trans t5, (hb.cell (p := ⟨b', _, none⟩) hbl').trans t6, (hb.cell (p := ⟨b', _, none⟩) hbl').trans t7, (hb.cell (p := ⟨b', _, none⟩) hbl').trans t8⟩⟩
      have HWR : Hid (Below wr.heap.size wr wr) := Below.refl _ _
      clear hpR hqR s0 s1 s2 s3 s4 s5 s6 s7 s8 t0 t1 t2 t3 t4 t5 t6 t7 t8
      go_wp2
      go_region_held3 (fun w' => (w'.cell? ⟨b, o + k * 9, none⟩ = some (.int .i64 r.room) ∧ w'.cell? ⟨b, o + k * 9 + 1, none⟩ = some (.slice A1 r.L.length c1) ∧ w'.cell? ⟨b, o + k * 9 + 2, none⟩ = some (.int .u64 r.gap.st) ∧ w'.cell? ⟨b, o + k * 9 + 3, none⟩ = some (.int .u64 r.gap.e.sq) ∧ w'.cell? ⟨b, o + k * 9 + 4, none⟩ = some (.int .i64 r.gap.e.tk) ∧ w'.cell? ⟨b, o + k * 9 + 5, none⟩ = some (.int .i64 r.gap.e.pt) ∧ w'.cell? ⟨b, o + k * 9 + 6, none⟩ = some (.int .i64 r.gap.e.kd) ∧ w'.cell? ⟨b, o + k * 9 + 7, none⟩ = some (.int .i64 r.gap.e.a) ∧ w'.cell? ⟨b, o + k * 9 + 8, none⟩ = some (.int .i64 r.gap.e.b)) ∧ (w'.cell? ⟨b', o' + k * 9, none⟩ = some (.int .i64 r.room) ∧ w'.cell? ⟨b', o' + k * 9 + 1, none⟩ = some (.slice A2 r.L.length c2) ∧ w'.cell? ⟨b', o' + k * 9 + 2, none⟩ = some (.int .u64 r.gap.st) ∧ w'.cell? ⟨b', o' + k * 9 + 3, none⟩ = some (.int .u64 r.gap.e.sq) ∧ w'.cell? ⟨b', o' + k * 9 + 4, none⟩ = some (.int .i64 r.gap.e.tk) ∧ w'.cell? ⟨b', o' + k * 9 + 5, none⟩ = some (.int .i64 r.gap.e.pt) ∧ w'.cell? ⟨b', o' + k * 9 + 6, none⟩ = some (.int .i64 r.gap.e.kd) ∧ w'.cell? ⟨b', o' + k * 9 + 7, none⟩ = some (.int .i64 r.gap.e.a) ∧ w'.cell? ⟨b', o' + k * 9 + 8, none⟩ = some (.int .i64 r.gap.e.b)))
        (exact HQ.out _ (by repeat (first | (with_reducible exact HWR.out) | (with_reducible apply bAl) | (with_reducible apply bDr) | (with_reducible apply bDrN) | ((with_reducible refine bSt ?_ ?_ _); (first | (with_reducible assumption) | omega | (simp <;> omega))))))
        (first
          | (go_at_call 20; (with_reducible refine (sameSelf r A1 c1 A2 c2 _ ?_ ?_ ?_).mono ?_); (exact HPR.out.below (by repeat (first | (with_reducible exact HWR.out) | (with_reducible apply bAl) | (with_reducible apply bDr) | (with_reducible apply bDrN) | ((with_reducible refine bSt ?_ ?_ _); (first | (with_reducible assumption) | omega | (simp <;> omega)))))); (exact HQR.out.below (by repeat (first | (with_reducible exact HWR.out) | (with_reducible apply bAl) | (with_reducible apply bDr) | (with_reducible apply bDrN) | ((with_reducible refine bSt ?_ ?_ _); (first | (with_reducible assumption) | omega | (simp <;> omega)))))); (exact Nat.le_trans hp1000 (by decide)); rintro e w4 ⟨rfl, hb⟩; (replace HWR : Hid (Below wr.heap.size wr w4) := bCall (by repeat (first | (with_reducible exact HWR.out) | (with_reducible apply bAl) | (with_reducible apply bDr) | (with_reducible apply bDrN) | ((with_reducible refine bSt ?_ ?_ _); (first | (with_reducible assumption) | omega | (simp <;> omega))))) hb); (replace HB : Hid (Below w.heap.size w w4) := bCall (by repeat (first | (with_reducible exact HB.out) | (with_reducible apply bAl) | (with_reducible apply bDr) | (with_reducible apply bDrN) | ((with_reducible refine bSt ?_ ?_ _); (first | (with_reducible assumption) | omega | (simp <;> omega))))) hb); clear hb; (have := HB.out.size)))
      all_goals go_wp2
      all_goals exact ⟨⟨k + 1, by omega, by go_num, HB.out⟩, by simp [intOf]; omega⟩
    · have hkk : k = l.length := by omega
      subst hkk
      go_wp2
      go_ret
      exact ⟨rfl, HB.out⟩
end Go.Proofs.Ytlegpbookbghbaa
