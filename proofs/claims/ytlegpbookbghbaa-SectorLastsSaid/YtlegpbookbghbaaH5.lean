/- SectorLasts: the walk; the places are any numbers. -/
import Derived.Test.YtlegpbookbghbaaH4
set_option linter.unusedVariables false
set_option linter.unusedSimpArgs false
namespace Go.Proofs.Ytlegpbookbghbaa
open Go.RowKit

theorem beqB (l m : List UInt8) : ((bstr l).toList == (bstr m).toList) = decide (l = m) := by
  have h : ∀ l : List UInt8, (bstr l).toList = l := fun l => by
    rw [ByteArray.toList_eq]
    rfl
  rw [h, h]
  by_cases e : l = m
  · simp [e]
  · simp [e]
theorem secSlice (L : List UInt8) (s a x : Nat) (hx : a * s = x) (h : x + s ≤ L.length) (w : World) : (Instr.slice 9 (.string (bstr L)) (some (.int .i64 (x : Int))) (some (.int .i64 ((x : Int) + (s : Int)))) none).run Try.prog w = .ok (.string (bstr (sec L s a))) w := by
  have hsz := bstr_size L
  rw [run_slice_string w 9 (bstr L) .i64 .i64 x ((x : Int) + s) Try.underlying9 (by omega) (by omega) (by rw [hsz]; omega)]
  congr 2
  have e : ((x : Int) + (s : Int)).toNat = x + s := by omega
  rw [e]
  show (⟨L.toArray⟩ : ByteArray).extract x (x + s) = _
  rw [ByteArray.extract_mk]
  unfold sec bstr
  rw [hx]
  congr 3
  omega
theorem full43t (s k : Nat) (hs : s ≤ 1024) (hk : k ≤ 100) (w : World) : Calls Try.prog 43 #[.int .u8 (1 + (k : Int)), .int .i64 s] w fun e w' => e = .returned (.string (bstr (fullS s k))) ∧ Below w.heap.size w w' :=
  full43 _ (UInt8.ofNat (1 + k)) (by rw [UInt8.toNat_ofNat']; omega) s (by omega) w
def frS (flushed : Int) (n : Nat) : Int := if 0 ≤ flushed ∧ flushed < (n : Int) then flushed else 0
set_option maxRecDepth 100000 in set_option maxHeartbeats 4000000 in
theorem sectorLasts11 (many size flushed : Int) (ats : List Int) (A : Option Addr) (ac : Nat) (keep : List Bool) (kA : Option Addr) (kc : Nat) (torn : Int) (w : World) (hA : Rd w A (intCells ats)) (hK : Rd w kA (keep.map Value.bool)) (hkc : keep.length ≤ kc) (hkl : kc ≤ maxLen) :
    Calls Try.prog 11 #[.int .i64 many, .int .i64 size, .int .i64 flushed, .slice A ats.length ac, .slice kA keep.length kc, .int .i64 torn] w fun e w' => e = .returned (.bool true) ∧ Below w.heap.size w w' := by
  have HA := Lib.hid hA
  have HK := Lib.hid hK
  have HB : Hid (Below w.heap.size w w) := Below.refl _ _
  clear hA hK
  by_cases hbig : 64 < many ∨ 60 < (ats.length : Int)
  · by_cases hb1 : 64 < many
    · go_enter Try.func11, Try.ntmps11
      go_wp2_with fail
      refine (stored37 _).mono ?_
      rintro e w4 ⟨rfl, hb⟩
      (replace HB : Hid (Below w.heap.size w w4) := bCall (by repeat (first | (with_reducible exact HB.out) | (with_reducible apply bAl) | (with_reducible apply bDr) | (with_reducible apply bDrN) | ((with_reducible refine bSt ?_ ?_ _); (first | (with_reducible assumption) | omega | (simp <;> omega))))) hb); clear hb; (have := HB.out.size)
      go_wp2
      go_ret
      exact ⟨rfl, HB.out⟩
    · have hb2 : 60 < (ats.length : Int) := by omega
      go_enter Try.func11, Try.ntmps11
      go_wp2_with fail
      refine (stored37 _).mono ?_
      rintro e w4 ⟨rfl, hb⟩
      (replace HB : Hid (Below w.heap.size w w4) := bCall (by repeat (first | (with_reducible exact HB.out) | (with_reducible apply bAl) | (with_reducible apply bDr) | (with_reducible apply bDrN) | ((with_reducible refine bSt ?_ ?_ _); (first | (with_reducible assumption) | omega | (simp <;> omega))))) hb); clear hb; (have := HB.out.size)
      go_wp2
      go_ret
      exact ⟨rfl, HB.out⟩
  · by_cases hbad : many < 1 ∨ 4096 < many ∨ size < 64 ∨ 1024 < size ∨ 64 < many ∨ 60 < (ats.length : Int)
    · have i1 : many ≤ 64 := by omega
      have i2 : (ats.length : Int) ≤ 60 := by omega
      go_enter Try.func11, Try.ntmps11
      go_wp2_with fail
      refine (writtenBad38 many size flushed ats A ac _ hbad).mono ?_
      rintro e w1 ⟨rfl, hb⟩
      (replace HB : Hid (Below w.heap.size w w1) := bCall (by repeat (first | (with_reducible exact HB.out) | (with_reducible apply bAl) | (with_reducible apply bDr) | (with_reducible apply bDrN) | ((with_reducible refine bSt ?_ ?_ _); (first | (with_reducible assumption) | omega | (simp <;> omega))))) hb); clear hb; (have := HB.out.size)
      go_wp2_with fail
      refine (stored37 _).mono ?_
      rintro e w4 ⟨rfl, hb⟩
      (replace HB : Hid (Below w.heap.size w w4) := bCall (by repeat (first | (with_reducible exact HB.out) | (with_reducible apply bAl) | (with_reducible apply bDr) | (with_reducible apply bDrN) | ((with_reducible refine bSt ?_ ?_ _); (first | (with_reducible assumption) | omega | (simp <;> omega))))) hb); clear hb; (have := HB.out.size)
      go_wp2
      go_ret
      exact ⟨rfl, HB.out⟩
    · obtain ⟨m, rfl⟩ := Int.eq_ofNat_of_zero_le (a := many) (by omega)
      obtain ⟨s, rfl⟩ := Int.eq_ofNat_of_zero_le (a := size) (by omega)
      have hm1 : 1 ≤ m := by omega
      have hm2 : m ≤ 64 := by omega
      have hs1 : 64 ≤ s := by omega
      have hs2 : s ≤ 1024 := by omega
      have hl : ats.length ≤ 60 := by omega
      have i1 : (m : Int) ≤ 64 := by omega
      have i2 : (ats.length : Int) ≤ 60 := by omega
      clear hbad hbig
      have hwk := writtenS_ok m s flushed ats hm1 (by omega) hs1 hs2 ats.length (by omega)
      have hwp := writtenS_pend (flushed := flushed) (ats := ats) hm1 (by omega) hs1 hs2 (by omega) ats.length (Nat.le_refl _)
      have HW := Lib.hid hwk
      have HWP := Lib.hid hwp
      clear hwk hwp
      go_enter Try.func11, Try.ntmps11
      go_wp2_with fail
      refine (written38 m s flushed ats A ac _ HA.out hm1 hm2 hs1 hs2 hl).mono ?_
      rintro e w1 ⟨kd, rfl, hD, hb⟩
      have HD := Lib.hid hD
      have z1 := hb.size
      clear hD
      (replace HB : Hid (Below w.heap.size w w1) := bCall (by repeat (first | (with_reducible exact HB.out) | (with_reducible apply bAl) | (with_reducible apply bDr) | (with_reducible apply bDrN) | ((with_reducible refine bSt ?_ ?_ _); (first | (with_reducible assumption) | omega | (simp <;> omega))))) hb); clear hb; (have := HB.out.size)
      generalize writtenS m s flushed ats ats.length = W at *
      have hcs : (0 ≤ flushed ∧ flushed < (ats.length : Int)) ∨ flushed < 0 ∨ (0 ≤ flushed ∧ (ats.length : Int) ≤ flushed) := by omega
      rcases hcs with ⟨f1, f2⟩ | f1 | ⟨f1, f2⟩
      · skip
        have HP : Hid (∀ p ∈ W.pend, ∃ j, ∃ hj : j < ats.length, flushed ≤ (j : Int) ∧ ats[j] = (p.1 : Int) ∧ p.2 = fullS W.size j) := fun p hp => by
          obtain ⟨j, hj, _, hfl, h1, h2⟩ := HWP.out p hp
          exact ⟨j, hj, hfl f1 f2, h1, by rw [HW.out.size]; exact h2⟩
        go_wp2_with fail
        refine (imageAt _ _ kd W _ HD.out HW.out.ok).mono ?_
        rintro e w2 ⟨rfl, hw2⟩
        cases hw2
        go_wp2_with fail
        refine (crash40 w.heap.size w1.heap.size kd W keep kA kc torn _ HD.out HW.out.ok (fun w' ho => HK.out.below (onlyBelow' HB.out ho (Nat.le_refl _))) hkc hkl).mono ?_
        rintro e w3 ⟨rfl, hD, ho⟩
        have HCO := Lib.hid (crashS_ok HW.out.ok keep torn)
        have HG : Hid (∀ a, GoodAt W.last (crashS W keep torn).last s ats flushed a ∨ OddAt W (keptS W keep) torn a) := fun a => by
          have h := crashed_good HW.out.ok ats flushed HP.out (keptS W keep) torn a (keptS W keep).length (by simp [keptS]; omega)
          rw [HW.out.size] at h
          exact h
        have hCp : (crashS W keep torn).pend = [] := rfl
        have hCd : (crashS W keep torn).down = false := rfl
        have hCm : (crashS W keep torn).many = m := HW.out.many
        have hCs : (crashS W keep torn).size = s := HW.out.size
        have hCb : (crashS W keep torn).breaks = false := rfl
        generalize crashS W keep torn = C at *
        generalize keptS W keep = K at *
        replace HD := Lib.hid hD
        replace HB := Lib.hid (onlyBelow' HB.out ho (Nat.le_refl _))
        have z3 := ho.size
        clear hD ho
        have hwl : (bstr W.last).size = m * s := by rw [bstr_size, HW.out.ok.last, HW.out.many, HW.out.size]
        have hcl : (bstr C.last).size = m * s := by rw [bstr_size, HCO.out.last, hCm, hCs]
        have hWl : W.last.length = m * s := by rw [HW.out.ok.last, HW.out.many, HW.out.size]
        have hCl : C.last.length = m * s := by rw [HCO.out.last, hCm, hCs]
        have e1 : (m : Int) * (s : Int) = ((m * s : Nat) : Int) := by simp
        have h3 : m * s ≤ 64 * 1024 := Nat.mul_le_mul hm2 hs2
        have HMS : Hid (∀ a, a < m → a * s + s ≤ m * s) := fun a ha => mul_lt ha
        generalize hN : m * s = N at *
        have HN := Lib.hid hN
        clear hN
        go_wp2_with fail
        refine (imageAt _ _ kd C _ HD.out HCO.out).mono ?_
        rintro e w4 ⟨rfl, hw4⟩
        cases hw4
        go_wp2_with fail
        refine (pendingAt _ _ kd C _ HD.out).mono ?_
        rw [hCp]
        rintro e w4 ⟨rfl, hw4⟩
        cases hw4
        go_wp2_with fail
        go_loopw [18, 19] (fun od ai wr => ∃ (a : Nat) (o : Int), a ≤ m ∧ od = .int .i64 o ∧ ai = .int .i64 a ∧ (o = 0 ∨ (o = 1 ∧ ∃ b, b < a ∧ OddAt W K torn b)) ∧ DiskAt wr w.heap.size w1.heap.size kd C ∧ Below w.heap.size w wr) (fun _ ai _ => m - (intOf ai).toNat)
        case atStart => exact ⟨0, 0, by omega, rfl, rfl, .inl rfl, HD.out, HB.out⟩
        case round =>
          obtain ⟨a, od, ha, rfl, rfl, hod, hDr, hbel⟩ := hrel
          clear HD HB
          have HD := Lib.hid hDr
          have HB := Lib.hid hbel
          have HOD := Lib.hid hod
          have hod2 : 0 ≤ od ∧ od ≤ 1 := by rcases hod with h | ⟨h, _⟩ <;> omega
          clear hDr hbel hod
          by_cases hlt : a < m
          · have hlt' : (a : Int) < (m : Int) := by omega
            obtain ⟨x, hx⟩ : ∃ x, a * s = x := ⟨_, rfl⟩
            have hxs : x + s ≤ N := by have := HMS.out a hlt; omega
            have e2 : (a : Int) * (s : Int) = (x : Int) := by rw [← hx]; simp
            have e3 : ((a : Int) + 1) * (s : Int) = (x : Int) + (s : Int) := by rw [Int.add_mul, e2, Int.one_mul]
            have sl1 := secSlice C.last s a x hx (by omega)
            have sl2 := secSlice W.last s a x hx (by omega)
            have hsc : sectorOf C a = sec C.last s a := by unfold sectorOf sec; rw [hCs]
            have HG1 := Lib.hid (HG.out a)
            have HSC := Lib.hid hsc
            clear hsc hx
            go_wp2_with fail
            refine (read42 w.heap.size w1.heap.size kd C a _ HD.out HCO.out hCd (by rw [hCm]; exact hlt) hCp).mono ?_
            rw [HSC.out, countS_id hCb]
            rintro e w5 ⟨rfl, hD, ho⟩
            replace HD := Lib.hid hD
            replace HB := Lib.hid (onlyBelow' HB.out ho (Nat.le_refl _))
            clear hD ho
            have HB0 := Lib.hid (beqB (sec C.last s a) (sec W.last s a))
            obtain ⟨b0, hb0⟩ : ∃ b0, ((bstr (sec C.last s a)).toList == (bstr (sec W.last s a)).toList) = b0 := ⟨_, rfl⟩
            have HB1 := Lib.hid hb0
            go_wp2_with fail
            go_loopw [23, 24] (fun gd ii wr => ∃ (k : Nat) (q : Bool), k ≤ ats.length ∧ gd = .bool q ∧ ii = .int .i64 k ∧ (q = true ↔ sec C.last s a = sec W.last s a ∨ ∃ j, ∃ hj : j < ats.length, j < k ∧ flushed ≤ (j : Int) ∧ ats[j] = (a : Int) ∧ sec C.last s a = fullS s j) ∧ DiskAt wr w.heap.size w1.heap.size kd C ∧ Below w.heap.size w wr) (fun _ ii _ => ats.length - (intOf ii).toNat)
            case atStart => exact ⟨0, b0, by omega, rfl, rfl, by rw [← HB1.out, HB0.out, decide_eq_true_iff]; exact ⟨.inl, fun h => h.elim id fun ⟨j, hj, h0, _⟩ => absurd h0 (Nat.not_lt_zero _)⟩, HD.out, HB.out⟩
            case round =>
              obtain ⟨k, q, hk, rfl, rfl, hq, hDr, hbel⟩ := hrel
              clear HD HB hb0
              have HD := Lib.hid hDr
              have HB := Lib.hid hbel
              have HQ := Lib.hid hq
              clear hDr hbel hq
              by_cases hltk : k < ats.length
              · have hltk' : (k : Int) < (ats.length : Int) := by omega
                obtain ⟨bb, oo, rfl, hc⟩ := HA.out.at_ (j := k) (u := .int .i64 ats[k]) (by simp [intCells, hltk])
                have s0 := hc k (.int .i64 ats[k]) (by simp [intCells, hltk])
                have lb : bb < w.heap.size := World.block_lt_of_cell? w _ s0
                have c0 : wr.cell? ⟨bb, oo + k, none⟩ = some (.int .i64 ats[k]) := (Below.cell HB.out lb).trans s0
                clear hc s0
                have HSTEP : Hid (∀ q2 : Bool, (q2 = true ↔ q = true ∨ (flushed ≤ (k : Int) ∧ ats[k] = (a : Int) ∧ sec C.last s a = fullS s k)) → (q2 = true ↔ sec C.last s a = sec W.last s a ∨ ∃ j, ∃ hj : j < ats.length, j < k + 1 ∧ flushed ≤ (j : Int) ∧ ats[j] = (a : Int) ∧ sec C.last s a = fullS s j)) := fun q2 h2 => by
                  rw [h2, HQ.out]
                  constructor
                  · rintro ((h | ⟨j, hj, h0, h1⟩) | h)
                    · exact .inl h
                    · exact .inr ⟨j, hj, by omega, h1⟩
                    · exact .inr ⟨k, hltk, Nat.lt_succ_self k, h⟩
                  · rintro (h | ⟨j, hj, h0, h1⟩)
                    · exact .inl (.inl h)
                    · by_cases hjk : j < k
                      · exact .inl (.inr ⟨j, hj, hjk, h1⟩)
                      · obtain rfl : j = k := by omega
                        exact .inr h1
                generalize ats[k] = at2 at *
                cases q
                · by_cases g1 : flushed ≤ (k : Int)
                  · by_cases g2 : at2 = (a : Int)
                    · subst g2
                      have HBE := Lib.hid (beqB (sec C.last s a) (fullS s k))
                      by_cases g3 : sec C.last s a = fullS s k
                      · have hbe : ((bstr (sec C.last s a)).toList == (bstr (fullS s k)).toList) = true := by rw [HBE.out]; exact decide_eq_true g3
                        have G3 := Lib.hid g3
                        clear g3
                        (go_wp2_with fail; (with_reducible refine (full43t s k (by omega) (by omega) _).mono ?_); rintro e v1 ⟨rfl, hb⟩; (replace HD := Lib.hid (HD.out.below hb)); (replace HB := Lib.hid (bCall HB.out hb)); clear hb; go_wp2; exact ⟨⟨k + 1, true, by omega, rfl, by go_num, HSTEP.out true (⟨fun _ => .inr ⟨g1, (by first | trivial | rfl), G3.out⟩, fun _ => rfl⟩), HD.out, HB.out⟩, by simp [intOf]; omega⟩)
                      · have hbe : ((bstr (sec C.last s a)).toList == (bstr (fullS s k)).toList) = false := by rw [HBE.out]; exact decide_eq_false g3
                        have G3 := Lib.hid g3
                        clear g3
                        (go_wp2_with fail; (with_reducible refine (full43t s k (by omega) (by omega) _).mono ?_); rintro e v1 ⟨rfl, hb⟩; (replace HD := Lib.hid (HD.out.below hb)); (replace HB := Lib.hid (bCall HB.out hb)); clear hb; go_wp2; exact ⟨⟨k + 1, false, by omega, rfl, by go_num, HSTEP.out false (⟨fun h => (by cases h), fun h => h.elim (fun h => by cases h) fun h => absurd h.2.2 G3.out⟩), HD.out, HB.out⟩, by simp [intOf]; omega⟩)
                    · have g2b : (at2 == (a : Int)) = false := by simp only [beq_eq_false_iff_ne]; exact g2
                      have G2 := Lib.hid g2
                      clear g2
                      go_wp2
                      exact ⟨⟨k + 1, false, by omega, rfl, by go_num, HSTEP.out false ⟨fun h => (by cases h), fun h => h.elim (fun h => by cases h) fun h => absurd h.2.1 G2.out⟩, HD.out, HB.out⟩, by simp [intOf]; omega⟩
                  · first
                    | (exfalso; omega)
                    | (have G1 := Lib.hid g1
                       go_wp2
                       exact ⟨⟨k + 1, false, by omega, rfl, by go_num, HSTEP.out false ⟨fun h => (by cases h), fun h => h.elim (fun h => by cases h) fun h => absurd h.1 G1.out⟩, HD.out, HB.out⟩, by simp [intOf]; omega⟩)
                · go_wp2
                  exact ⟨⟨k + 1, true, by omega, rfl, by go_num, HSTEP.out true ⟨fun _ => .inl rfl, fun _ => rfl⟩, HD.out, HB.out⟩, by simp [intOf]; omega⟩
              · have hkk : k = ats.length := by omega
                subst hkk
                cases q
                · have hX : OddAt W K torn a := HG1.out.resolve_left fun h => by
                    have := HQ.out.2 (h.elim .inl fun ⟨j, hj, h1⟩ => .inr ⟨j, hj, hj, h1⟩)
                    cases this
                  have HX := Lib.hid hX
                  have hod0 : od = 0 := by
                    rcases HOD.out with h | ⟨_, b, hb, hb2⟩
                    · exact h
                    · exact absurd (hb2.uniq hX) (by omega)
                  subst hod0
                  clear hX
                  go_wp2
                  exact ⟨⟨a + 1, 1, by omega, rfl, by go_num, .inr ⟨rfl, a, Nat.lt_succ_self a, HX.out⟩, HD.out, HB.out⟩, by simp [intOf]; omega⟩
                · go_wp2
                  exact ⟨⟨a + 1, od, by omega, rfl, by go_num, HOD.out.imp id fun ⟨h, b, hb, h2⟩ => ⟨h, b, Nat.lt_succ_of_lt hb, h2⟩, HD.out, HB.out⟩, by simp [intOf]; omega⟩
          · have haa : a = m := by omega
            subst haa
            rcases HOD.out with h0 | ⟨h0, b, _, hX⟩
            · subst h0
              go_wp2_with fail
              refine (stored37 _).mono ?_
              rintro e w6 ⟨rfl, hb⟩
              (replace HB : Hid (Below w.heap.size w w6) := bCall (by repeat (first | (with_reducible exact HB.out) | (with_reducible apply bAl) | (with_reducible apply bDr) | (with_reducible apply bDrN) | ((with_reducible refine bSt ?_ ?_ _); (first | (with_reducible assumption) | omega | (simp <;> omega))))) hb); clear hb; (have := HB.out.size)
              go_wp2
              go_ret
              exact ⟨rfl, HB.out⟩
            · subst h0
              have t1 := hX.1
              have t2 := hX.2.1
              rw [HW.out.size] at t2
              clear hX
              go_wp2_with fail
              refine (stored37 _).mono ?_
              rintro e w6 ⟨rfl, hb⟩
              (replace HB : Hid (Below w.heap.size w w6) := bCall (by repeat (first | (with_reducible exact HB.out) | (with_reducible apply bAl) | (with_reducible apply bDr) | (with_reducible apply bDrN) | ((with_reducible refine bSt ?_ ?_ _); (first | (with_reducible assumption) | omega | (simp <;> omega))))) hb); clear hb; (have := HB.out.size)
              go_wp2
              go_ret
              exact ⟨rfl, HB.out⟩
      · skip
        have HP : Hid (∀ p ∈ W.pend, ∃ j, ∃ hj : j < ats.length, (0 : Int) ≤ (j : Int) ∧ ats[j] = (p.1 : Int) ∧ p.2 = fullS W.size j) := fun p hp => by
          obtain ⟨j, hj, _, hfl, h1, h2⟩ := HWP.out p hp
          exact ⟨j, hj, Int.natCast_nonneg j, h1, by rw [HW.out.size]; exact h2⟩
        go_wp2_with fail
        refine (imageAt _ _ kd W _ HD.out HW.out.ok).mono ?_
        rintro e w2 ⟨rfl, hw2⟩
        cases hw2
        go_wp2_with fail
        refine (crash40 w.heap.size w1.heap.size kd W keep kA kc torn _ HD.out HW.out.ok (fun w' ho => HK.out.below (onlyBelow' HB.out ho (Nat.le_refl _))) hkc hkl).mono ?_
        rintro e w3 ⟨rfl, hD, ho⟩
        have HCO := Lib.hid (crashS_ok HW.out.ok keep torn)
        have HG : Hid (∀ a, GoodAt W.last (crashS W keep torn).last s ats (0 : Int) a ∨ OddAt W (keptS W keep) torn a) := fun a => by
          have h := crashed_good HW.out.ok ats (0 : Int) HP.out (keptS W keep) torn a (keptS W keep).length (by simp [keptS]; omega)
          rw [HW.out.size] at h
          exact h
        have hCp : (crashS W keep torn).pend = [] := rfl
        have hCd : (crashS W keep torn).down = false := rfl
        have hCm : (crashS W keep torn).many = m := HW.out.many
        have hCs : (crashS W keep torn).size = s := HW.out.size
        have hCb : (crashS W keep torn).breaks = false := rfl
        generalize crashS W keep torn = C at *
        generalize keptS W keep = K at *
        replace HD := Lib.hid hD
        replace HB := Lib.hid (onlyBelow' HB.out ho (Nat.le_refl _))
        have z3 := ho.size
        clear hD ho
        have hwl : (bstr W.last).size = m * s := by rw [bstr_size, HW.out.ok.last, HW.out.many, HW.out.size]
        have hcl : (bstr C.last).size = m * s := by rw [bstr_size, HCO.out.last, hCm, hCs]
        have hWl : W.last.length = m * s := by rw [HW.out.ok.last, HW.out.many, HW.out.size]
        have hCl : C.last.length = m * s := by rw [HCO.out.last, hCm, hCs]
        have e1 : (m : Int) * (s : Int) = ((m * s : Nat) : Int) := by simp
        have h3 : m * s ≤ 64 * 1024 := Nat.mul_le_mul hm2 hs2
        have HMS : Hid (∀ a, a < m → a * s + s ≤ m * s) := fun a ha => mul_lt ha
        generalize hN : m * s = N at *
        have HN := Lib.hid hN
        clear hN
        go_wp2_with fail
        refine (imageAt _ _ kd C _ HD.out HCO.out).mono ?_
        rintro e w4 ⟨rfl, hw4⟩
        cases hw4
        go_wp2_with fail
        refine (pendingAt _ _ kd C _ HD.out).mono ?_
        rw [hCp]
        rintro e w4 ⟨rfl, hw4⟩
        cases hw4
        go_wp2_with fail
        go_loopw [18, 19] (fun od ai wr => ∃ (a : Nat) (o : Int), a ≤ m ∧ od = .int .i64 o ∧ ai = .int .i64 a ∧ (o = 0 ∨ (o = 1 ∧ ∃ b, b < a ∧ OddAt W K torn b)) ∧ DiskAt wr w.heap.size w1.heap.size kd C ∧ Below w.heap.size w wr) (fun _ ai _ => m - (intOf ai).toNat)
        case atStart => exact ⟨0, 0, by omega, rfl, rfl, .inl rfl, HD.out, HB.out⟩
        case round =>
          obtain ⟨a, od, ha, rfl, rfl, hod, hDr, hbel⟩ := hrel
          clear HD HB
          have HD := Lib.hid hDr
          have HB := Lib.hid hbel
          have HOD := Lib.hid hod
          have hod2 : 0 ≤ od ∧ od ≤ 1 := by rcases hod with h | ⟨h, _⟩ <;> omega
          clear hDr hbel hod
          by_cases hlt : a < m
          · have hlt' : (a : Int) < (m : Int) := by omega
            obtain ⟨x, hx⟩ : ∃ x, a * s = x := ⟨_, rfl⟩
            have hxs : x + s ≤ N := by have := HMS.out a hlt; omega
            have e2 : (a : Int) * (s : Int) = (x : Int) := by rw [← hx]; simp
            have e3 : ((a : Int) + 1) * (s : Int) = (x : Int) + (s : Int) := by rw [Int.add_mul, e2, Int.one_mul]
            have sl1 := secSlice C.last s a x hx (by omega)
            have sl2 := secSlice W.last s a x hx (by omega)
            have hsc : sectorOf C a = sec C.last s a := by unfold sectorOf sec; rw [hCs]
            have HG1 := Lib.hid (HG.out a)
            have HSC := Lib.hid hsc
            clear hsc hx
            go_wp2_with fail
            refine (read42 w.heap.size w1.heap.size kd C a _ HD.out HCO.out hCd (by rw [hCm]; exact hlt) hCp).mono ?_
            rw [HSC.out, countS_id hCb]
            rintro e w5 ⟨rfl, hD, ho⟩
            replace HD := Lib.hid hD
            replace HB := Lib.hid (onlyBelow' HB.out ho (Nat.le_refl _))
            clear hD ho
            have HB0 := Lib.hid (beqB (sec C.last s a) (sec W.last s a))
            obtain ⟨b0, hb0⟩ : ∃ b0, ((bstr (sec C.last s a)).toList == (bstr (sec W.last s a)).toList) = b0 := ⟨_, rfl⟩
            have HB1 := Lib.hid hb0
            go_wp2_with fail
            go_loopw [23, 24] (fun gd ii wr => ∃ (k : Nat) (q : Bool), k ≤ ats.length ∧ gd = .bool q ∧ ii = .int .i64 k ∧ (q = true ↔ sec C.last s a = sec W.last s a ∨ ∃ j, ∃ hj : j < ats.length, j < k ∧ (0 : Int) ≤ (j : Int) ∧ ats[j] = (a : Int) ∧ sec C.last s a = fullS s j) ∧ DiskAt wr w.heap.size w1.heap.size kd C ∧ Below w.heap.size w wr) (fun _ ii _ => ats.length - (intOf ii).toNat)
            case atStart => exact ⟨0, b0, by omega, rfl, rfl, by rw [← HB1.out, HB0.out, decide_eq_true_iff]; exact ⟨.inl, fun h => h.elim id fun ⟨j, hj, h0, _⟩ => absurd h0 (Nat.not_lt_zero _)⟩, HD.out, HB.out⟩
            case round =>
              obtain ⟨k, q, hk, rfl, rfl, hq, hDr, hbel⟩ := hrel
              clear HD HB hb0
              have HD := Lib.hid hDr
              have HB := Lib.hid hbel
              have HQ := Lib.hid hq
              clear hDr hbel hq
              by_cases hltk : k < ats.length
              · have hltk' : (k : Int) < (ats.length : Int) := by omega
                obtain ⟨bb, oo, rfl, hc⟩ := HA.out.at_ (j := k) (u := .int .i64 ats[k]) (by simp [intCells, hltk])
                have s0 := hc k (.int .i64 ats[k]) (by simp [intCells, hltk])
                have lb : bb < w.heap.size := World.block_lt_of_cell? w _ s0
                have c0 : wr.cell? ⟨bb, oo + k, none⟩ = some (.int .i64 ats[k]) := (Below.cell HB.out lb).trans s0
                clear hc s0
                have HSTEP : Hid (∀ q2 : Bool, (q2 = true ↔ q = true ∨ ((0 : Int) ≤ (k : Int) ∧ ats[k] = (a : Int) ∧ sec C.last s a = fullS s k)) → (q2 = true ↔ sec C.last s a = sec W.last s a ∨ ∃ j, ∃ hj : j < ats.length, j < k + 1 ∧ (0 : Int) ≤ (j : Int) ∧ ats[j] = (a : Int) ∧ sec C.last s a = fullS s j)) := fun q2 h2 => by
                  rw [h2, HQ.out]
                  constructor
                  · rintro ((h | ⟨j, hj, h0, h1⟩) | h)
                    · exact .inl h
                    · exact .inr ⟨j, hj, by omega, h1⟩
                    · exact .inr ⟨k, hltk, Nat.lt_succ_self k, h⟩
                  · rintro (h | ⟨j, hj, h0, h1⟩)
                    · exact .inl (.inl h)
                    · by_cases hjk : j < k
                      · exact .inl (.inr ⟨j, hj, hjk, h1⟩)
                      · obtain rfl : j = k := by omega
                        exact .inr h1
                generalize ats[k] = at2 at *
                cases q
                · by_cases g1 : (0 : Int) ≤ (k : Int)
                  · by_cases g2 : at2 = (a : Int)
                    · subst g2
                      have HBE := Lib.hid (beqB (sec C.last s a) (fullS s k))
                      by_cases g3 : sec C.last s a = fullS s k
                      · have hbe : ((bstr (sec C.last s a)).toList == (bstr (fullS s k)).toList) = true := by rw [HBE.out]; exact decide_eq_true g3
                        have G3 := Lib.hid g3
                        clear g3
                        (go_wp2_with fail; (with_reducible refine (full43t s k (by omega) (by omega) _).mono ?_); rintro e v1 ⟨rfl, hb⟩; (replace HD := Lib.hid (HD.out.below hb)); (replace HB := Lib.hid (bCall HB.out hb)); clear hb; go_wp2; exact ⟨⟨k + 1, true, by omega, rfl, by go_num, HSTEP.out true (⟨fun _ => .inr ⟨g1, (by first | trivial | rfl), G3.out⟩, fun _ => rfl⟩), HD.out, HB.out⟩, by simp [intOf]; omega⟩)
                      · have hbe : ((bstr (sec C.last s a)).toList == (bstr (fullS s k)).toList) = false := by rw [HBE.out]; exact decide_eq_false g3
                        have G3 := Lib.hid g3
                        clear g3
                        (go_wp2_with fail; (with_reducible refine (full43t s k (by omega) (by omega) _).mono ?_); rintro e v1 ⟨rfl, hb⟩; (replace HD := Lib.hid (HD.out.below hb)); (replace HB := Lib.hid (bCall HB.out hb)); clear hb; go_wp2; exact ⟨⟨k + 1, false, by omega, rfl, by go_num, HSTEP.out false (⟨fun h => (by cases h), fun h => h.elim (fun h => by cases h) fun h => absurd h.2.2 G3.out⟩), HD.out, HB.out⟩, by simp [intOf]; omega⟩)
                    · have g2b : (at2 == (a : Int)) = false := by simp only [beq_eq_false_iff_ne]; exact g2
                      have G2 := Lib.hid g2
                      clear g2
                      go_wp2
                      exact ⟨⟨k + 1, false, by omega, rfl, by go_num, HSTEP.out false ⟨fun h => (by cases h), fun h => h.elim (fun h => by cases h) fun h => absurd h.2.1 G2.out⟩, HD.out, HB.out⟩, by simp [intOf]; omega⟩
                  · first
                    | (exfalso; omega)
                    | (have G1 := Lib.hid g1
                       go_wp2
                       exact ⟨⟨k + 1, false, by omega, rfl, by go_num, HSTEP.out false ⟨fun h => (by cases h), fun h => h.elim (fun h => by cases h) fun h => absurd h.1 G1.out⟩, HD.out, HB.out⟩, by simp [intOf]; omega⟩)
                · go_wp2
                  exact ⟨⟨k + 1, true, by omega, rfl, by go_num, HSTEP.out true ⟨fun _ => .inl rfl, fun _ => rfl⟩, HD.out, HB.out⟩, by simp [intOf]; omega⟩
              · have hkk : k = ats.length := by omega
                subst hkk
                cases q
                · have hX : OddAt W K torn a := HG1.out.resolve_left fun h => by
                    have := HQ.out.2 (h.elim .inl fun ⟨j, hj, h1⟩ => .inr ⟨j, hj, hj, h1⟩)
                    cases this
                  have HX := Lib.hid hX
                  have hod0 : od = 0 := by
                    rcases HOD.out with h | ⟨_, b, hb, hb2⟩
                    · exact h
                    · exact absurd (hb2.uniq hX) (by omega)
                  subst hod0
                  clear hX
                  go_wp2
                  exact ⟨⟨a + 1, 1, by omega, rfl, by go_num, .inr ⟨rfl, a, Nat.lt_succ_self a, HX.out⟩, HD.out, HB.out⟩, by simp [intOf]; omega⟩
                · go_wp2
                  exact ⟨⟨a + 1, od, by omega, rfl, by go_num, HOD.out.imp id fun ⟨h, b, hb, h2⟩ => ⟨h, b, Nat.lt_succ_of_lt hb, h2⟩, HD.out, HB.out⟩, by simp [intOf]; omega⟩
          · have haa : a = m := by omega
            subst haa
            rcases HOD.out with h0 | ⟨h0, b, _, hX⟩
            · subst h0
              go_wp2_with fail
              refine (stored37 _).mono ?_
              rintro e w6 ⟨rfl, hb⟩
              (replace HB : Hid (Below w.heap.size w w6) := bCall (by repeat (first | (with_reducible exact HB.out) | (with_reducible apply bAl) | (with_reducible apply bDr) | (with_reducible apply bDrN) | ((with_reducible refine bSt ?_ ?_ _); (first | (with_reducible assumption) | omega | (simp <;> omega))))) hb); clear hb; (have := HB.out.size)
              go_wp2
              go_ret
              exact ⟨rfl, HB.out⟩
            · subst h0
              have t1 := hX.1
              have t2 := hX.2.1
              rw [HW.out.size] at t2
              clear hX
              go_wp2_with fail
              refine (stored37 _).mono ?_
              rintro e w6 ⟨rfl, hb⟩
              (replace HB : Hid (Below w.heap.size w w6) := bCall (by repeat (first | (with_reducible exact HB.out) | (with_reducible apply bAl) | (with_reducible apply bDr) | (with_reducible apply bDrN) | ((with_reducible refine bSt ?_ ?_ _); (first | (with_reducible assumption) | omega | (simp <;> omega))))) hb); clear hb; (have := HB.out.size)
              go_wp2
              go_ret
              exact ⟨rfl, HB.out⟩
      · skip
        have HP : Hid (∀ p ∈ W.pend, ∃ j, ∃ hj : j < ats.length, (0 : Int) ≤ (j : Int) ∧ ats[j] = (p.1 : Int) ∧ p.2 = fullS W.size j) := fun p hp => by
          obtain ⟨j, hj, _, hfl, h1, h2⟩ := HWP.out p hp
          exact ⟨j, hj, Int.natCast_nonneg j, h1, by rw [HW.out.size]; exact h2⟩
        go_wp2_with fail
        refine (imageAt _ _ kd W _ HD.out HW.out.ok).mono ?_
        rintro e w2 ⟨rfl, hw2⟩
        cases hw2
        go_wp2_with fail
        refine (crash40 w.heap.size w1.heap.size kd W keep kA kc torn _ HD.out HW.out.ok (fun w' ho => HK.out.below (onlyBelow' HB.out ho (Nat.le_refl _))) hkc hkl).mono ?_
        rintro e w3 ⟨rfl, hD, ho⟩
        have HCO := Lib.hid (crashS_ok HW.out.ok keep torn)
        have HG : Hid (∀ a, GoodAt W.last (crashS W keep torn).last s ats (0 : Int) a ∨ OddAt W (keptS W keep) torn a) := fun a => by
          have h := crashed_good HW.out.ok ats (0 : Int) HP.out (keptS W keep) torn a (keptS W keep).length (by simp [keptS]; omega)
          rw [HW.out.size] at h
          exact h
        have hCp : (crashS W keep torn).pend = [] := rfl
        have hCd : (crashS W keep torn).down = false := rfl
        have hCm : (crashS W keep torn).many = m := HW.out.many
        have hCs : (crashS W keep torn).size = s := HW.out.size
        have hCb : (crashS W keep torn).breaks = false := rfl
        generalize crashS W keep torn = C at *
        generalize keptS W keep = K at *
        replace HD := Lib.hid hD
        replace HB := Lib.hid (onlyBelow' HB.out ho (Nat.le_refl _))
        have z3 := ho.size
        clear hD ho
        have hwl : (bstr W.last).size = m * s := by rw [bstr_size, HW.out.ok.last, HW.out.many, HW.out.size]
        have hcl : (bstr C.last).size = m * s := by rw [bstr_size, HCO.out.last, hCm, hCs]
        have hWl : W.last.length = m * s := by rw [HW.out.ok.last, HW.out.many, HW.out.size]
        have hCl : C.last.length = m * s := by rw [HCO.out.last, hCm, hCs]
        have e1 : (m : Int) * (s : Int) = ((m * s : Nat) : Int) := by simp
        have h3 : m * s ≤ 64 * 1024 := Nat.mul_le_mul hm2 hs2
        have HMS : Hid (∀ a, a < m → a * s + s ≤ m * s) := fun a ha => mul_lt ha
        generalize hN : m * s = N at *
        have HN := Lib.hid hN
        clear hN
        go_wp2_with fail
        refine (imageAt _ _ kd C _ HD.out HCO.out).mono ?_
        rintro e w4 ⟨rfl, hw4⟩
        cases hw4
        go_wp2_with fail
        refine (pendingAt _ _ kd C _ HD.out).mono ?_
        rw [hCp]
        rintro e w4 ⟨rfl, hw4⟩
        cases hw4
        go_wp2_with fail
        go_loopw [18, 19] (fun od ai wr => ∃ (a : Nat) (o : Int), a ≤ m ∧ od = .int .i64 o ∧ ai = .int .i64 a ∧ (o = 0 ∨ (o = 1 ∧ ∃ b, b < a ∧ OddAt W K torn b)) ∧ DiskAt wr w.heap.size w1.heap.size kd C ∧ Below w.heap.size w wr) (fun _ ai _ => m - (intOf ai).toNat)
        case atStart => exact ⟨0, 0, by omega, rfl, rfl, .inl rfl, HD.out, HB.out⟩
        case round =>
          obtain ⟨a, od, ha, rfl, rfl, hod, hDr, hbel⟩ := hrel
          clear HD HB
          have HD := Lib.hid hDr
          have HB := Lib.hid hbel
          have HOD := Lib.hid hod
          have hod2 : 0 ≤ od ∧ od ≤ 1 := by rcases hod with h | ⟨h, _⟩ <;> omega
          clear hDr hbel hod
          by_cases hlt : a < m
          · have hlt' : (a : Int) < (m : Int) := by omega
            obtain ⟨x, hx⟩ : ∃ x, a * s = x := ⟨_, rfl⟩
            have hxs : x + s ≤ N := by have := HMS.out a hlt; omega
            have e2 : (a : Int) * (s : Int) = (x : Int) := by rw [← hx]; simp
            have e3 : ((a : Int) + 1) * (s : Int) = (x : Int) + (s : Int) := by rw [Int.add_mul, e2, Int.one_mul]
            have sl1 := secSlice C.last s a x hx (by omega)
            have sl2 := secSlice W.last s a x hx (by omega)
            have hsc : sectorOf C a = sec C.last s a := by unfold sectorOf sec; rw [hCs]
            have HG1 := Lib.hid (HG.out a)
            have HSC := Lib.hid hsc
            clear hsc hx
            go_wp2_with fail
            refine (read42 w.heap.size w1.heap.size kd C a _ HD.out HCO.out hCd (by rw [hCm]; exact hlt) hCp).mono ?_
            rw [HSC.out, countS_id hCb]
            rintro e w5 ⟨rfl, hD, ho⟩
            replace HD := Lib.hid hD
            replace HB := Lib.hid (onlyBelow' HB.out ho (Nat.le_refl _))
            clear hD ho
            have HB0 := Lib.hid (beqB (sec C.last s a) (sec W.last s a))
            obtain ⟨b0, hb0⟩ : ∃ b0, ((bstr (sec C.last s a)).toList == (bstr (sec W.last s a)).toList) = b0 := ⟨_, rfl⟩
            have HB1 := Lib.hid hb0
            go_wp2_with fail
            go_loopw [23, 24] (fun gd ii wr => ∃ (k : Nat) (q : Bool), k ≤ ats.length ∧ gd = .bool q ∧ ii = .int .i64 k ∧ (q = true ↔ sec C.last s a = sec W.last s a ∨ ∃ j, ∃ hj : j < ats.length, j < k ∧ (0 : Int) ≤ (j : Int) ∧ ats[j] = (a : Int) ∧ sec C.last s a = fullS s j) ∧ DiskAt wr w.heap.size w1.heap.size kd C ∧ Below w.heap.size w wr) (fun _ ii _ => ats.length - (intOf ii).toNat)
            case atStart => exact ⟨0, b0, by omega, rfl, rfl, by rw [← HB1.out, HB0.out, decide_eq_true_iff]; exact ⟨.inl, fun h => h.elim id fun ⟨j, hj, h0, _⟩ => absurd h0 (Nat.not_lt_zero _)⟩, HD.out, HB.out⟩
            case round =>
              obtain ⟨k, q, hk, rfl, rfl, hq, hDr, hbel⟩ := hrel
              clear HD HB hb0
              have HD := Lib.hid hDr
              have HB := Lib.hid hbel
              have HQ := Lib.hid hq
              clear hDr hbel hq
              by_cases hltk : k < ats.length
              · have hltk' : (k : Int) < (ats.length : Int) := by omega
                obtain ⟨bb, oo, rfl, hc⟩ := HA.out.at_ (j := k) (u := .int .i64 ats[k]) (by simp [intCells, hltk])
                have s0 := hc k (.int .i64 ats[k]) (by simp [intCells, hltk])
                have lb : bb < w.heap.size := World.block_lt_of_cell? w _ s0
                have c0 : wr.cell? ⟨bb, oo + k, none⟩ = some (.int .i64 ats[k]) := (Below.cell HB.out lb).trans s0
                clear hc s0
                have HSTEP : Hid (∀ q2 : Bool, (q2 = true ↔ q = true ∨ ((0 : Int) ≤ (k : Int) ∧ ats[k] = (a : Int) ∧ sec C.last s a = fullS s k)) → (q2 = true ↔ sec C.last s a = sec W.last s a ∨ ∃ j, ∃ hj : j < ats.length, j < k + 1 ∧ (0 : Int) ≤ (j : Int) ∧ ats[j] = (a : Int) ∧ sec C.last s a = fullS s j)) := fun q2 h2 => by
                  rw [h2, HQ.out]
                  constructor
                  · rintro ((h | ⟨j, hj, h0, h1⟩) | h)
                    · exact .inl h
                    · exact .inr ⟨j, hj, by omega, h1⟩
                    · exact .inr ⟨k, hltk, Nat.lt_succ_self k, h⟩
                  · rintro (h | ⟨j, hj, h0, h1⟩)
                    · exact .inl (.inl h)
                    · by_cases hjk : j < k
                      · exact .inl (.inr ⟨j, hj, hjk, h1⟩)
                      · obtain rfl : j = k := by omega
                        exact .inr h1
                generalize ats[k] = at2 at *
                cases q
                · by_cases g1 : (0 : Int) ≤ (k : Int)
                  · by_cases g2 : at2 = (a : Int)
                    · subst g2
                      have HBE := Lib.hid (beqB (sec C.last s a) (fullS s k))
                      by_cases g3 : sec C.last s a = fullS s k
                      · have hbe : ((bstr (sec C.last s a)).toList == (bstr (fullS s k)).toList) = true := by rw [HBE.out]; exact decide_eq_true g3
                        have G3 := Lib.hid g3
                        clear g3
                        (go_wp2_with fail; (with_reducible refine (full43t s k (by omega) (by omega) _).mono ?_); rintro e v1 ⟨rfl, hb⟩; (replace HD := Lib.hid (HD.out.below hb)); (replace HB := Lib.hid (bCall HB.out hb)); clear hb; go_wp2; exact ⟨⟨k + 1, true, by omega, rfl, by go_num, HSTEP.out true (⟨fun _ => .inr ⟨g1, (by first | trivial | rfl), G3.out⟩, fun _ => rfl⟩), HD.out, HB.out⟩, by simp [intOf]; omega⟩)
                      · have hbe : ((bstr (sec C.last s a)).toList == (bstr (fullS s k)).toList) = false := by rw [HBE.out]; exact decide_eq_false g3
                        have G3 := Lib.hid g3
                        clear g3
                        (go_wp2_with fail; (with_reducible refine (full43t s k (by omega) (by omega) _).mono ?_); rintro e v1 ⟨rfl, hb⟩; (replace HD := Lib.hid (HD.out.below hb)); (replace HB := Lib.hid (bCall HB.out hb)); clear hb; go_wp2; exact ⟨⟨k + 1, false, by omega, rfl, by go_num, HSTEP.out false (⟨fun h => (by cases h), fun h => h.elim (fun h => by cases h) fun h => absurd h.2.2 G3.out⟩), HD.out, HB.out⟩, by simp [intOf]; omega⟩)
                    · have g2b : (at2 == (a : Int)) = false := by simp only [beq_eq_false_iff_ne]; exact g2
                      have G2 := Lib.hid g2
                      clear g2
                      go_wp2
                      exact ⟨⟨k + 1, false, by omega, rfl, by go_num, HSTEP.out false ⟨fun h => (by cases h), fun h => h.elim (fun h => by cases h) fun h => absurd h.2.1 G2.out⟩, HD.out, HB.out⟩, by simp [intOf]; omega⟩
                  · first
                    | (exfalso; omega)
                    | (have G1 := Lib.hid g1
                       go_wp2
                       exact ⟨⟨k + 1, false, by omega, rfl, by go_num, HSTEP.out false ⟨fun h => (by cases h), fun h => h.elim (fun h => by cases h) fun h => absurd h.1 G1.out⟩, HD.out, HB.out⟩, by simp [intOf]; omega⟩)
                · go_wp2
                  exact ⟨⟨k + 1, true, by omega, rfl, by go_num, HSTEP.out true ⟨fun _ => .inl rfl, fun _ => rfl⟩, HD.out, HB.out⟩, by simp [intOf]; omega⟩
              · have hkk : k = ats.length := by omega
                subst hkk
                cases q
                · have hX : OddAt W K torn a := HG1.out.resolve_left fun h => by
                    have := HQ.out.2 (h.elim .inl fun ⟨j, hj, h1⟩ => .inr ⟨j, hj, hj, h1⟩)
                    cases this
                  have HX := Lib.hid hX
                  have hod0 : od = 0 := by
                    rcases HOD.out with h | ⟨_, b, hb, hb2⟩
                    · exact h
                    · exact absurd (hb2.uniq hX) (by omega)
                  subst hod0
                  clear hX
                  go_wp2
                  exact ⟨⟨a + 1, 1, by omega, rfl, by go_num, .inr ⟨rfl, a, Nat.lt_succ_self a, HX.out⟩, HD.out, HB.out⟩, by simp [intOf]; omega⟩
                · go_wp2
                  exact ⟨⟨a + 1, od, by omega, rfl, by go_num, HOD.out.imp id fun ⟨h, b, hb, h2⟩ => ⟨h, b, Nat.lt_succ_of_lt hb, h2⟩, HD.out, HB.out⟩, by simp [intOf]; omega⟩
          · have haa : a = m := by omega
            subst haa
            rcases HOD.out with h0 | ⟨h0, b, _, hX⟩
            · subst h0
              go_wp2_with fail
              refine (stored37 _).mono ?_
              rintro e w6 ⟨rfl, hb⟩
              (replace HB : Hid (Below w.heap.size w w6) := bCall (by repeat (first | (with_reducible exact HB.out) | (with_reducible apply bAl) | (with_reducible apply bDr) | (with_reducible apply bDrN) | ((with_reducible refine bSt ?_ ?_ _); (first | (with_reducible assumption) | omega | (simp <;> omega))))) hb); clear hb; (have := HB.out.size)
              go_wp2
              go_ret
              exact ⟨rfl, HB.out⟩
            · subst h0
              have t1 := hX.1
              have t2 := hX.2.1
              rw [HW.out.size] at t2
              clear hX
              go_wp2_with fail
              refine (stored37 _).mono ?_
              rintro e w6 ⟨rfl, hb⟩
              (replace HB : Hid (Below w.heap.size w w6) := bCall (by repeat (first | (with_reducible exact HB.out) | (with_reducible apply bAl) | (with_reducible apply bDr) | (with_reducible apply bDrN) | ((with_reducible refine bSt ?_ ?_ _); (first | (with_reducible assumption) | omega | (simp <;> omega))))) hb); clear hb; (have := HB.out.size)
              go_wp2
              go_ret
              exact ⟨rfl, HB.out⟩
end Go.Proofs.Ytlegpbookbghbaa
