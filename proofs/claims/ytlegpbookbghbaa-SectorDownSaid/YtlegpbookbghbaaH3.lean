/- SectorDown: the walk; the places are any numbers, and the number of calls is an int64. -/
import Derived.Test.YtlegpbookbghbaaH2
set_option linter.unusedVariables false
set_option linter.unusedSimpArgs false
namespace Go.Proofs.Ytlegpbookbghbaa
open Go.RowKit

theorem leI64 {n : Int} (h : (Lit.int .i64 n).wf = true) : n ≤ 9223372036854775807 := by
  simp only [Lit.wf, Bool.and_eq_true, decide_eq_true_eq] at h
  exact h.2
def brokenS (D : DiskS) (n : Int) : DiskS := { D with breaks := decide (0 < n), left := n, down := decide (n = 0) }
theorem breakAt (lo hi kd : Nat) (D : DiskS) (n : Int) (w : World) (hD : DiskAt w lo hi kd D) (hn : 0 ≤ n) :
    Calls Try.prog 46 #[.pointer (some ⟨kd, 0, none⟩), .int .i64 n] w fun e w' => e = .returned (.int .i64 0) ∧ DiskAt w' lo hi kd (brokenS D n) ∧ Only (In lo hi) w w' := by
  obtain ⟨kl, km, pA, wA, pc, wc, ks, hD⟩ := hD
  refine (break46 D kd kl km pA wA pc wc n w hD.blk hn).mono ?_
  rintro e w' ⟨rfl, hB, ho⟩
  have hbd := hD.bd
  exact ⟨rfl, ⟨_, _, _, _, _, _, _, hD.setHead hB ho rfl rfl⟩, ho.mono fun q _ hq => by rw [hq]; exact ⟨hbd.1, hbd.2.1⟩⟩
/-- So many calls were done, of L. -/
structure DownSt (D : DiskS) (m s L g : Nat) : Prop where
  ok : DOk D
  le : g ≤ L
  pend : D.pend.length = g
  up : g < L → D.down = false ∧ D.breaks = true ∧ D.left = (L : Int) - g
  off : g = L → D.down = true
  many : D.many = m
  size : D.size = s
theorem DownSt.start {m s L : Nat} (hm1 : 1 ≤ m) (hm2 : m ≤ 4096) (hs1 : 64 ≤ s) (hs2 : s ≤ 1024) (hL : (L : Int) ≤ 9223372036854775807) : DownSt (brokenS (newS m s) L) m s L 0 := by
  have h := newOk m s hm1 hm2 hs1 hs2
  refine ⟨⟨h.many, h.size, h.last, h.pend, h.few, fun hb => ?_⟩, Nat.zero_le _, rfl, fun hl => ⟨?_, ?_, ?_⟩, fun hl => ?_, rfl, rfl⟩
  · have hb' : decide (0 < (L : Int)) = true := hb
    simp only [decide_eq_true_eq] at hb'
    show 1 ≤ (L : Int) ∧ (L : Int) ≤ _
    omega
  · show decide ((L : Int) = 0) = false
    simp
    omega
  · show decide (0 < (L : Int)) = true
    simp
    omega
  · show (L : Int) = _
    simp
  · show decide ((L : Int) = 0) = true
    simp
    omega
theorem DownSt.write {D : DiskS} {m s L g at_ : Nat} {b : List UInt8} (h : DownSt D m s L g) (hg : g < L) (ha : at_ < D.many) (hb : b.length = D.size) (hg2 : g < 1000) : DownSt (countS { D with pend := D.pend ++ [(at_, b)] }) m s L (g + 1) := by
  obtain ⟨hd, hbr, hl⟩ := h.up hg
  have hlb := h.ok.left hbr
  have hpd : ∀ p ∈ D.pend ++ [(at_, b)], p.1 < D.many ∧ p.2.length = D.size := fun p hp => by
    rcases List.mem_append.1 hp with hp | hp
    · exact h.ok.pend p hp
    · obtain rfl := List.mem_singleton.1 hp
      exact ⟨ha, hb⟩
  have hfw : (D.pend ++ [(at_, b)]).length = g + 1 := by rw [List.length_append, h.pend]; rfl
  by_cases h1 : D.left = 1
  · have hc : countS { D with pend := D.pend ++ [(at_, b)] } = { D with pend := D.pend ++ [(at_, b)], left := 0, breaks := false, down := true } := by simp [countS, hbr, h1]
    rw [hc]
    exact ⟨⟨h.ok.many, h.ok.size, h.ok.last, hpd, by show (D.pend ++ [(at_, b)]).length ≤ 1000; omega, fun hb => (by cases hb)⟩, by omega, hfw, fun hl2 => by omega, fun _ => rfl, h.many, h.size⟩
  · have hc : countS { D with pend := D.pend ++ [(at_, b)] } = { D with pend := D.pend ++ [(at_, b)], left := D.left - 1 } := by simp [countS, hbr, h1]
    rw [hc]
    exact ⟨⟨h.ok.many, h.ok.size, h.ok.last, hpd, by show (D.pend ++ [(at_, b)]).length ≤ 1000; omega, fun hb => by show 1 ≤ D.left - 1 ∧ D.left - 1 ≤ _; omega⟩, by omega, hfw, fun hl2 => ⟨hd, hbr, by show D.left - 1 = _; omega⟩, fun he => by omega, h.many, h.size⟩
theorem full7 (s : Nat) (hs : s ≤ 1024) (w : World) : Calls Try.prog 43 #[.int .u8 7, .int .i64 s] w fun e w' => e = .returned (.string (bstr (List.replicate s 7))) ∧ Below w.heap.size w w' :=
  full43 7 7 rfl s (by omega) w
set_option maxRecDepth 100000 in set_option maxHeartbeats 4000000 in
theorem sectorDown13 (many size left : Int) (ats : List Int) (A : Option Addr) (ac : Nat) (w : World) (hA : Rd w A (intCells ats)) (hL : left ≤ 9223372036854775807) :
    Calls Try.prog 13 #[.int .i64 many, .int .i64 size, .int .i64 left, .slice A ats.length ac] w fun e w' => e = .returned (.bool true) ∧ Below w.heap.size w w' := by
  have HA := Lib.hid hA
  have HB : Hid (Below w.heap.size w w) := Below.refl _ _
  clear hA
  by_cases hbad : many < 1 ∨ 4096 < many ∨ size < 64 ∨ 1024 < size
  · go_enter Try.func13, Try.ntmps13
    go_wp2_with fail
    refine (newBad45 many size _ hbad).mono ?_
    rintro e w1 ⟨rfl, hw1⟩
    cases hw1
    go_wp2_with fail
    refine (stored37 _).mono ?_
    rintro e w4 ⟨rfl, hb⟩
    (replace HB : Hid (Below w.heap.size w w4) := bCall (by repeat (first | (with_reducible exact HB.out) | (with_reducible apply bAl) | (with_reducible apply bDr) | (with_reducible apply bDrN) | ((with_reducible refine bSt ?_ ?_ _); (first | (with_reducible assumption) | omega | (simp <;> omega))))) hb); clear hb; (have := HB.out.size)
    go_wp2
    go_ret
    exact ⟨rfl, HB.out⟩
  · obtain ⟨m, rfl⟩ := Int.eq_ofNat_of_zero_le (a := many) (by omega)
    obtain ⟨s, rfl⟩ := Int.eq_ofNat_of_zero_le (a := size) (by omega)
    have hm1 : 1 ≤ m := by omega
    have hm2 : m ≤ 4096 := by omega
    have hs1 : 64 ≤ s := by omega
    have hs2 : s ≤ 1024 := by omega
    clear hbad
    by_cases hb2 : 64 < (m : Int) ∨ 60 < (ats.length : Int) ∨ left < 0
    · rcases hb2 with hb2 | hb2
      · go_enter Try.func13, Try.ntmps13
        go_wp2_with fail
        (refine (newDisk m s _ hm1 hm2 hs1 hs2).mono ?_; rintro e w1 ⟨kd, rfl, hD, hb⟩; clear hD; (replace HB : Hid (Below w.heap.size w w1) := bCall (by repeat (first | (with_reducible exact HB.out) | (with_reducible apply bAl) | (with_reducible apply bDr) | (with_reducible apply bDrN) | ((with_reducible refine bSt ?_ ?_ _); (first | (with_reducible assumption) | omega | (simp <;> omega))))) hb); clear hb; (have := HB.out.size); go_wp2_with fail; refine (stored37 _).mono ?_; rintro e w4 ⟨rfl, hb⟩; (replace HB : Hid (Below w.heap.size w w4) := bCall (by repeat (first | (with_reducible exact HB.out) | (with_reducible apply bAl) | (with_reducible apply bDr) | (with_reducible apply bDrN) | ((with_reducible refine bSt ?_ ?_ _); (first | (with_reducible assumption) | omega | (simp <;> omega))))) hb); clear hb; (have := HB.out.size); go_wp2; go_ret; exact ⟨rfl, HB.out⟩)
      · by_cases hb3 : 64 < (m : Int)
        · go_enter Try.func13, Try.ntmps13
          go_wp2_with fail
          (refine (newDisk m s _ hm1 hm2 hs1 hs2).mono ?_; rintro e w1 ⟨kd, rfl, hD, hb⟩; clear hD; (replace HB : Hid (Below w.heap.size w w1) := bCall (by repeat (first | (with_reducible exact HB.out) | (with_reducible apply bAl) | (with_reducible apply bDr) | (with_reducible apply bDrN) | ((with_reducible refine bSt ?_ ?_ _); (first | (with_reducible assumption) | omega | (simp <;> omega))))) hb); clear hb; (have := HB.out.size); go_wp2_with fail; refine (stored37 _).mono ?_; rintro e w4 ⟨rfl, hb⟩; (replace HB : Hid (Below w.heap.size w w4) := bCall (by repeat (first | (with_reducible exact HB.out) | (with_reducible apply bAl) | (with_reducible apply bDr) | (with_reducible apply bDrN) | ((with_reducible refine bSt ?_ ?_ _); (first | (with_reducible assumption) | omega | (simp <;> omega))))) hb); clear hb; (have := HB.out.size); go_wp2; go_ret; exact ⟨rfl, HB.out⟩)
        · rcases hb2 with hb2 | hb2
          · go_enter Try.func13, Try.ntmps13
            go_wp2_with fail
            (refine (newDisk m s _ hm1 hm2 hs1 hs2).mono ?_; rintro e w1 ⟨kd, rfl, hD, hb⟩; clear hD; (replace HB : Hid (Below w.heap.size w w1) := bCall (by repeat (first | (with_reducible exact HB.out) | (with_reducible apply bAl) | (with_reducible apply bDr) | (with_reducible apply bDrN) | ((with_reducible refine bSt ?_ ?_ _); (first | (with_reducible assumption) | omega | (simp <;> omega))))) hb); clear hb; (have := HB.out.size); go_wp2_with fail; refine (stored37 _).mono ?_; rintro e w4 ⟨rfl, hb⟩; (replace HB : Hid (Below w.heap.size w w4) := bCall (by repeat (first | (with_reducible exact HB.out) | (with_reducible apply bAl) | (with_reducible apply bDr) | (with_reducible apply bDrN) | ((with_reducible refine bSt ?_ ?_ _); (first | (with_reducible assumption) | omega | (simp <;> omega))))) hb); clear hb; (have := HB.out.size); go_wp2; go_ret; exact ⟨rfl, HB.out⟩)
          · by_cases hb4 : 60 < (ats.length : Int)
            · go_enter Try.func13, Try.ntmps13
              go_wp2_with fail
              (refine (newDisk m s _ hm1 hm2 hs1 hs2).mono ?_; rintro e w1 ⟨kd, rfl, hD, hb⟩; clear hD; (replace HB : Hid (Below w.heap.size w w1) := bCall (by repeat (first | (with_reducible exact HB.out) | (with_reducible apply bAl) | (with_reducible apply bDr) | (with_reducible apply bDrN) | ((with_reducible refine bSt ?_ ?_ _); (first | (with_reducible assumption) | omega | (simp <;> omega))))) hb); clear hb; (have := HB.out.size); go_wp2_with fail; refine (stored37 _).mono ?_; rintro e w4 ⟨rfl, hb⟩; (replace HB : Hid (Below w.heap.size w w4) := bCall (by repeat (first | (with_reducible exact HB.out) | (with_reducible apply bAl) | (with_reducible apply bDr) | (with_reducible apply bDrN) | ((with_reducible refine bSt ?_ ?_ _); (first | (with_reducible assumption) | omega | (simp <;> omega))))) hb); clear hb; (have := HB.out.size); go_wp2; go_ret; exact ⟨rfl, HB.out⟩)
            · go_enter Try.func13, Try.ntmps13
              go_wp2_with fail
              (refine (newDisk m s _ hm1 hm2 hs1 hs2).mono ?_; rintro e w1 ⟨kd, rfl, hD, hb⟩; clear hD; (replace HB : Hid (Below w.heap.size w w1) := bCall (by repeat (first | (with_reducible exact HB.out) | (with_reducible apply bAl) | (with_reducible apply bDr) | (with_reducible apply bDrN) | ((with_reducible refine bSt ?_ ?_ _); (first | (with_reducible assumption) | omega | (simp <;> omega))))) hb); clear hb; (have := HB.out.size); go_wp2_with fail; refine (stored37 _).mono ?_; rintro e w4 ⟨rfl, hb⟩; (replace HB : Hid (Below w.heap.size w w4) := bCall (by repeat (first | (with_reducible exact HB.out) | (with_reducible apply bAl) | (with_reducible apply bDr) | (with_reducible apply bDrN) | ((with_reducible refine bSt ?_ ?_ _); (first | (with_reducible assumption) | omega | (simp <;> omega))))) hb); clear hb; (have := HB.out.size); go_wp2; go_ret; exact ⟨rfl, HB.out⟩)
    · obtain ⟨L, rfl⟩ := Int.eq_ofNat_of_zero_le (a := left) (by omega)
      have hm3 : (m : Int) ≤ 64 := by omega
      have hl : ats.length ≤ 60 := by omega
      have hl' : (ats.length : Int) ≤ 60 := by omega
      have hL0 : (0 : Int) ≤ (L : Int) := by omega
      have HS0 := Lib.hid (DownSt.start (m := m) (s := s) (L := L) hm1 hm2 hs1 hs2 hL)
      clear hb2
      go_enter Try.func13, Try.ntmps13
      go_wp2_with fail
      refine (newDisk m s _ hm1 hm2 hs1 hs2).mono ?_
      rintro e w1 ⟨kd, rfl, hD, hb⟩
      have HD := Lib.hid hD
      have z1 := hb.size
      clear hD
      (replace HB : Hid (Below w.heap.size w w1) := bCall (by repeat (first | (with_reducible exact HB.out) | (with_reducible apply bAl) | (with_reducible apply bDr) | (with_reducible apply bDrN) | ((with_reducible refine bSt ?_ ?_ _); (first | (with_reducible assumption) | omega | (simp <;> omega))))) hb); clear hb; (have := HB.out.size)
      go_wp2_with fail
      refine (breakAt _ _ kd _ L _ HD.out (by omega)).mono ?_
      rintro e w2 ⟨rfl, hD, ho⟩
      replace HD := Lib.hid (hD.mono ho.size)
      replace HB := Lib.hid (onlyBelow' HB.out ho (Nat.le_refl _))
      have z2 := ho.size
      generalize brokenS (newS m s) L = D0 at *
      clear hD ho
      go_wp2_with fail
      go_loopw [11, 12] (fun gd i wr => ∃ (k g : Nat) (D : DiskS), k ≤ ats.length ∧ g ≤ k ∧ gd = .int .i64 g ∧ i = .int .i64 k ∧ DownSt D m s L g ∧ DiskAt wr w.heap.size wr.heap.size kd D ∧ Below w.heap.size w wr) (fun _ i _ => ats.length - (intOf i).toNat)
      case atStart => exact ⟨0, 0, D0, by omega, by omega, rfl, rfl, HS0.out, HD.out, HB.out⟩
      case round =>
        obtain ⟨k, g, D, hk, hgk, rfl, rfl, hst, hDr, hbel⟩ := hrel
        clear HD HB HS0 z1 z2
        have HD := Lib.hid hDr
        have HB := Lib.hid hbel
        have HST := Lib.hid hst
        have hsz := hbel.size
        have hgL := hst.le
        have hpl := hst.pend
        clear hDr hbel hst
        by_cases hlt : k < ats.length
        · have hlt' : (k : Int) < (ats.length : Int) := by omega
          obtain ⟨b, o, rfl, hc⟩ := HA.out.at_ (j := k) (u := .int .i64 ats[k]) (by simp [intCells, hlt])
          have s0 := hc k (.int .i64 ats[k]) (by simp [intCells, hlt])
          have lb : b < w.heap.size := World.block_lt_of_cell? w _ s0
          have S0 := Lib.hid s0
          clear hc s0
          generalize ats[k] = a at *
          by_cases hg : g < L
          · have hgi : (g : Int) < (L : Int) := by omega
            have hgi2 : ¬ (L : Int) ≤ (g : Int) := by omega
            have hup := HST.out.up hg
            have HUP := Lib.hid hup
            by_cases hr : refuseS D a = 0
            · have ha := (refuse_zero hup.1).1 hr
              clear hup hr
              obtain ⟨at_, rfl⟩ := Int.eq_ofNat_of_zero_le ha.1
              have hat : at_ < D.many := by omega
              clear ha
              go_wp2_with fail
              refine (pendingAt _ _ kd D _ HD.out).mono ?_
              rw [hpl]
              rintro e w5 ⟨rfl, hw5⟩
              cases hw5
              go_wp2_with fail
              go_region_held3 (fun w' => w'.cell? ⟨b, o + k, none⟩ = some (.int .i64 at_)) (exact (Below.cell (by repeat (first | (with_reducible exact HB.out) | (with_reducible apply bAl) | (with_reducible apply bDr) | (with_reducible apply bDrN) | ((with_reducible refine bSt ?_ ?_ _); (first | (with_reducible assumption) | omega | (simp <;> omega))))) lb).trans S0.out)
                (first
                  | (go_at_call 43; refine (full7 s hs2 _).mono ?_; rintro e v1 ⟨rfl, hb⟩; (replace HD := Lib.hid (HD.out.below (bCall (w := wr) (by repeat (first | (with_reducible exact Below.refl _ _) | (with_reducible apply bAl) | (with_reducible apply bDr) | (with_reducible apply bDrN))) hb))); (have hsv : wr.heap.size ≤ v1.heap.size := (bCall (w := wr) (by repeat (first | (with_reducible exact Below.refl _ _) | (with_reducible apply bAl) | (with_reducible apply bDr) | (with_reducible apply bDrN))) hb).size); (replace HB : Hid (Below w.heap.size w v1) := bCall (by repeat (first | (with_reducible exact HB.out) | (with_reducible apply bAl) | (with_reducible apply bDr) | (with_reducible apply bDrN) | ((with_reducible refine bSt ?_ ?_ _); (first | (with_reducible assumption) | omega | (simp <;> omega))))) hb); clear hb; (have := HB.out.size))
                  | (go_at_call 47; refine (write47 w.heap.size wr.heap.size kd D at_ (List.replicate s 7) _ (by repeat (first | (with_reducible exact HD.out) | (with_reducible apply datDrew))) HST.out.ok HUP.out.1 hat (by simp [HST.out.size]) (by omega) (by omega) (by omega)).mono ?_; rintro e v2 ⟨rfl, hD3, ho3⟩; (replace HD := Lib.hid hD3); (replace HB := Lib.hid (onlyBelow' (w0 := w) (lo := w.heap.size) (hi := wr.heap.size) HB.out ho3 (Nat.le_refl _))); (clear hD3 ho3)))
              go_wp2
              all_goals refine ⟨⟨k + 1, g + 1, _, by omega, by omega, by go_num, by go_num, HST.out.write hg hat (by simp [HST.out.size]) (by omega), HD.out, HB.out⟩, by simp [intOf]; omega⟩
            · have hr6 : refuseS D a = 6 := by unfold refuseS at hr ⊢; rw [hup.1] at hr ⊢; simp only [Bool.false_eq_true, if_false] at hr ⊢; split at hr <;> simp_all
              clear hup
              go_wp2_with fail
              refine (pendingAt _ _ kd D _ HD.out).mono ?_
              rw [hpl]
              rintro e w5 ⟨rfl, hw5⟩
              cases hw5
              (go_wp2_with fail; go_region_held3 (fun w' => w'.cell? ⟨b, o + k, none⟩ = some (.int .i64 a)) (exact (Below.cell (by repeat (first | (with_reducible exact HB.out) | (with_reducible apply bAl) | (with_reducible apply bDr) | (with_reducible apply bDrN) | ((with_reducible refine bSt ?_ ?_ _); (first | (with_reducible assumption) | omega | (simp <;> omega))))) lb).trans S0.out) (first | (go_at_call 43; refine (full7 s hs2 _).mono ?_; rintro e v1 ⟨rfl, hb⟩; (replace HD := Lib.hid (HD.out.below (bCall (w := wr) (by repeat (first | (with_reducible exact Below.refl _ _) | (with_reducible apply bAl) | (with_reducible apply bDr) | (with_reducible apply bDrN))) hb))); (have hsv : wr.heap.size ≤ v1.heap.size := (bCall (w := wr) (by repeat (first | (with_reducible exact Below.refl _ _) | (with_reducible apply bAl) | (with_reducible apply bDr) | (with_reducible apply bDrN))) hb).size); (replace HB : Hid (Below w.heap.size w v1) := bCall (by repeat (first | (with_reducible exact HB.out) | (with_reducible apply bAl) | (with_reducible apply bDr) | (with_reducible apply bDrN) | ((with_reducible refine bSt ?_ ?_ _); (first | (with_reducible assumption) | omega | (simp <;> omega))))) hb); clear hb; (have := HB.out.size)) | (go_at_call 47; refine (writeRefused47 w.heap.size wr.heap.size kd D a (bstr (List.replicate s 7)) _ (by repeat (first | (with_reducible exact HD.out) | (with_reducible apply datDrew))) hr).mono ?_; rw [hr6]; rintro e v2 ⟨rfl, hb⟩; (replace HD := Lib.hid (HD.out.below hb)); (have hsv2 := hb.size); (replace HB := Lib.hid (bCall HB.out hb)); (clear hb))); go_wp2_with fail; refine (pendingAt _ _ kd D _ HD.out).mono ?_; rw [hpl]; rintro e w6 ⟨rfl, hw6⟩; cases hw6; go_wp2; refine ⟨⟨k + 1, g, D, by omega, by omega, rfl, by go_num, HST.out, HD.out.mono (by omega), HB.out⟩, by simp [intOf]; omega⟩)
          · obtain rfl : g = L := by omega
            have hdn := HST.out.off rfl
            have hr9 : refuseS D a = 9 := by unfold refuseS; rw [hdn]; rfl
            have hr : refuseS D a ≠ 0 := by rw [hr9]; decide
            clear hdn
            have hgi2 : (g : Int) ≤ (g : Int) := Int.le_refl _
            go_wp2_with fail
            refine (pendingAt _ _ kd D _ HD.out).mono ?_
            rw [hpl]
            rintro e w5 ⟨rfl, hw5⟩
            cases hw5
            (go_wp2_with fail; go_region_held3 (fun w' => w'.cell? ⟨b, o + k, none⟩ = some (.int .i64 a)) (exact (Below.cell (by repeat (first | (with_reducible exact HB.out) | (with_reducible apply bAl) | (with_reducible apply bDr) | (with_reducible apply bDrN) | ((with_reducible refine bSt ?_ ?_ _); (first | (with_reducible assumption) | omega | (simp <;> omega))))) lb).trans S0.out) (first | (go_at_call 43; refine (full7 s hs2 _).mono ?_; rintro e v1 ⟨rfl, hb⟩; (replace HD := Lib.hid (HD.out.below (bCall (w := wr) (by repeat (first | (with_reducible exact Below.refl _ _) | (with_reducible apply bAl) | (with_reducible apply bDr) | (with_reducible apply bDrN))) hb))); (have hsv : wr.heap.size ≤ v1.heap.size := (bCall (w := wr) (by repeat (first | (with_reducible exact Below.refl _ _) | (with_reducible apply bAl) | (with_reducible apply bDr) | (with_reducible apply bDrN))) hb).size); (replace HB : Hid (Below w.heap.size w v1) := bCall (by repeat (first | (with_reducible exact HB.out) | (with_reducible apply bAl) | (with_reducible apply bDr) | (with_reducible apply bDrN) | ((with_reducible refine bSt ?_ ?_ _); (first | (with_reducible assumption) | omega | (simp <;> omega))))) hb); clear hb; (have := HB.out.size)) | (go_at_call 47; refine (writeRefused47 w.heap.size wr.heap.size kd D a (bstr (List.replicate s 7)) _ (by repeat (first | (with_reducible exact HD.out) | (with_reducible apply datDrew))) hr).mono ?_; rw [hr9]; rintro e v2 ⟨rfl, hb⟩; (replace HD := Lib.hid (HD.out.below hb)); (have hsv2 := hb.size); (replace HB := Lib.hid (bCall HB.out hb)); (clear hb))); go_wp2_with fail; refine (pendingAt _ _ kd D _ HD.out).mono ?_; rw [hpl]; rintro e w6 ⟨rfl, hw6⟩; cases hw6; go_wp2; refine ⟨⟨k + 1, g, D, by omega, by omega, rfl, by go_num, HST.out, HD.out.mono (by omega), HB.out⟩, by simp [intOf]; omega⟩)
        · have hkk : k = ats.length := by omega
          subst hkk
          by_cases hg : g < L
          · have hgi : (g : Int) < (L : Int) := by omega
            have hup := HST.out.up hg
            have HUP := Lib.hid hup
            clear hup
            go_wp2_with fail
            refine (stored37 _).mono ?_
            rintro e w4 ⟨rfl, hb⟩
            replace HD := Lib.hid (HD.out.below hb)
            (replace HB : Hid (Below w.heap.size w w4) := bCall (by repeat (first | (with_reducible exact HB.out) | (with_reducible apply bAl) | (with_reducible apply bDr) | (with_reducible apply bDrN) | ((with_reducible refine bSt ?_ ?_ _); (first | (with_reducible assumption) | omega | (simp <;> omega))))) hb); clear hb; (have := HB.out.size)
            go_wp2_with fail
            refine (flush44 _ _ kd D _ HD.out HST.out.ok HUP.out.1).mono ?_
            rintro e w5 ⟨rfl, hD, ho⟩
            replace HB := Lib.hid (onlyBelow' HB.out ho (Nat.le_refl _))
            clear hD ho
            go_wp2
            go_ret
            exact ⟨rfl, HB.out⟩
          · obtain rfl : g = L := by omega
            have hdn := HST.out.off rfl
            have hr9 : refuseS D 0 = 9 := by unfold refuseS; rw [hdn]; rfl
            have hgi2 : ¬ (g : Int) < (g : Int) := Int.lt_irrefl _
            go_wp2_with fail
            refine (readRefused42 _ _ kd D 0 _ HD.out (by rw [hr9]; decide)).mono ?_
            rw [hr9]
            rintro e w4 ⟨rfl, hw4⟩
            cases hw4
            go_wp2_with fail
            refine (flushDown44 _ _ kd D _ HD.out hdn).mono ?_
            rintro e w4 ⟨rfl, hw4⟩
            cases hw4
            go_wp2_with fail
            refine (crash40 _ _ kd D [] none 0 (-1) _ HD.out HST.out.ok (fun _ _ => Rd.nil _ _) (Nat.le_refl _) (by decide)).mono ?_
            rintro e w5 ⟨rfl, hD, ho⟩
            have HOK := Lib.hid (crashS_ok HST.out.ok [] (-1))
            have hcd : (crashS D [] (-1)).down = false := rfl
            generalize crashS D [] (-1) = DC at *
            replace HD := Lib.hid hD
            replace HB := Lib.hid (onlyBelow' HB.out ho (Nat.le_refl _))
            clear hD ho
            go_wp2_with fail
            refine (flush44 _ _ kd DC _ HD.out HOK.out hcd).mono ?_
            rintro e w6 ⟨rfl, hD, ho⟩
            replace HB := Lib.hid (onlyBelow' HB.out ho (Nat.le_refl _))
            clear hD ho HD
            go_wp2_with fail
            refine (stored37 _).mono ?_
            rintro e w7 ⟨rfl, hb⟩
            (replace HB : Hid (Below w.heap.size w w7) := bCall (by repeat (first | (with_reducible exact HB.out) | (with_reducible apply bAl) | (with_reducible apply bDr) | (with_reducible apply bDrN) | ((with_reducible refine bSt ?_ ?_ _); (first | (with_reducible assumption) | omega | (simp <;> omega))))) hb); clear hb; (have := HB.out.size)
            go_wp2
            go_ret
            exact ⟨rfl, HB.out⟩
end Go.Proofs.Ytlegpbookbghbaa
