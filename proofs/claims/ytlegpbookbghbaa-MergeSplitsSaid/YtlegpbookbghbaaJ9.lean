/- merged (the example of the statement) answers true: the walk; no condition. -/
import Derived.Test.YtlegpbookbghbaaJ8
set_option linter.unusedVariables false
set_option linter.unusedSimpArgs false
namespace Go.Proofs.Ytlegpbookbghbaa
open Go.RowKit

def en (s p : Int) : Ent := ⟨s, ⟨0, 5, p, 3, 0, 0⟩⟩
def rOf (l : List Ent) : RingS := ⟨2, l, ent0⟩
def mS : Nat → List RingS
  | 0 => [rOf [], rOf []]
  | 1 => [rOf [], rOf [en 5 (-1)]]
  | 2 => [rOf [en 6 0], rOf [en 5 (-1)]]
  | _ => [rOf [en 6 0], rOf [en 5 (-1), en 7 (-1)]]
def O2Post (W : World) (q' : List RingS) (e : Ending) (w' : World) : Prop :=
  ∃ A' c' ps', e = .returned (.tuple #[.slice A' 2 c', .int .i64 0]) ∧ rings ps' = q' ∧ RingsR w' A' ps' ∧ Below W.heap.size W w'
theorem offerK (q q' : List RingS) (s pt : Int) (pi : Nat) (r' : RingS) (h2 : q.length = 2) (hpi : pi < q.length) (hx : (pt = -1 ∧ pi + 1 = 2) ∨ (pt = (pi : Int) ∧ pi + 1 < 2)) (hput : putS q[pi] (en s pt) = (r', 0)) (hq' : q.set pi r' = q') (hlen : ∀ r ∈ q, r.L.length ≤ 1000)
    (A : Option Addr) (c : Nat) (ps : List RingM) (W : World) (hr : rings ps = q) (hR : RingsR W A ps) :
    Calls Try.prog 80 #[.slice A 2 c, .agg #[.int .u64 s, .int .u64 0, .int .i64 5, .int .i64 pt, .int .i64 3, .int .i64 0, .int .i64 0]] W (O2Post W q') := by
  subst hr
  have hl : ps.length = 2 := by simpa [rings] using h2
  have hpi2 : pi < ps.length := by omega
  have hput2 : putS ps[pi].r ⟨s, ⟨0, 5, pt, 3, 0, 0⟩⟩ = (r', 0) := by rw [← rings_get ps pi hpi2]; exact hput
  have h := offerAt A c ps s 0 5 pt 3 0 0 pi W hR (by omega) (fun p hp => hlen p.r (List.mem_map_of_mem hp)) hpi2 (by rw [hl]; exact hx) r' hput2
  rw [hl] at h
  refine h.mono ?_
  rintro e w' ⟨A', c', ps', rfl, h1, h2', h3, h4⟩
  have hl2 : ps'.length = 2 := by
    have := congrArg List.length h1
    simp only [rings, List.length_map, List.length_set] at this
    omega
  exact ⟨A', c', ps', by rw [hl2], by rw [h1, hq'], h3.rings, h4⟩
theorem mS_len (k : Nat) : (mS k).length = 2 := by
  match k with
  | 0 | 1 | 2 | _ + 3 => rfl
theorem mS_all (k : Nat) : ∀ r ∈ mS k, r.L.length ≤ 1000 := by
  match k with
  | 0 | 1 | 2 | _ + 3 => simp [mS, rOf]
theorem put0 : putS (mS 0)[1] (en 5 (-1)) = (rOf [en 5 (-1)], 0) := by decide
theorem put1 : putS (mS 1)[0] (en 6 0) = (rOf [en 6 0], 0) := by decide
theorem put2 : putS (mS 2)[1] (en 7 (-1)) = (rOf [en 5 (-1), en 7 (-1)], 0) := by decide
theorem first3 : firstL (mS 3) = 1 := by decide
theorem held3 : heldL (mS 3) = 3 := by decide
theorem drain3 : drainM (mS 3) 2 = ([en 5 (-1), en 6 0], [rOf [], rOf [en 7 (-1)]]) := by decide
theorem held4 : heldL [rOf [], rOf [en 7 (-1)]] = 1 := by decide
theorem first0 : firstL [] = -1 := by decide
theorem psLen {ps : List RingM} {k : Nat} (h : rings ps = mS k) : ps.length = 2 := by
  have := congrArg List.length h
  rw [mS_len] at this
  simpa [rings] using this
theorem psAll {ps : List RingM} {k : Nat} (h : rings ps = mS k) : ∀ p ∈ ps, p.r.L.length ≤ 1000 := fun p hp => mS_all k p.r (by rw [← h]; exact List.mem_map_of_mem hp)
set_option maxRecDepth 100000 in set_option maxHeartbeats 4000000 in
theorem merged49 (w : World) : Calls Try.prog 49 #[] w fun e w' => e = .returned (.bool true) ∧ Below w.heap.size w w' := by
  have hu29 := Try.underlying29; have hu27 := Try.underlying27; have hu25 := Try.underlying25
  have hu80 := Try.underlying80
  have HB : Hid (Below w.heap.size w w) := Below.refl _ _
  go_enter Try.func49, Try.ntmps49
  go_wp2
  go_loopw [1, 2, 3] (fun lv fv iv wr => ∃ (k : Nat) (A : Option Addr) (c : Nat) (ps : List RingM), k ≤ 3 ∧ lv = .slice A 2 c ∧ fv = .int .i64 0 ∧ iv = .int .i64 k ∧ rings ps = mS k ∧ RingsR wr A ps ∧ Below w.heap.size w wr) (fun _ _ iv _ => 3 - (intOf iv).toNat)
  case atStart =>
    refine ⟨0, some ⟨w.heap.size, 0, none⟩, 2, [⟨rOf [], none, 0⟩, ⟨rOf [], none, 0⟩], by omega, rfl, rfl, rfl, rfl, ⟨?_, ?_⟩, bAl HB.out _⟩
    · exact Rd.new w _ _
    · intro p hp
      simp at hp
      subst hp
      exact ⟨Nat.le_refl _, Rd.nil _ _⟩
  case round =>
    clear HB
    obtain ⟨k, A, c, ps, hk, rfl, rfl, rfl, hps, hR, hbel⟩ := hrel
    have HB := Lib.hid hbel
    have HP := Lib.hid hps
    have HR := Lib.hid hR
    clear hbel hps hR
    have hk4 : k = 0 ∨ k = 1 ∨ k = 2 ∨ k = 3 := by omega
    rcases hk4 with rfl | rfl | rfl | rfl
    · skip
      go_wp2_with fail
      refine (entry81 5 (-1) _).mono ?_
      rintro e w1 ⟨rfl, hb⟩
      dsimp only [entVal]
      have HR1 := Lib.hid (HR.out.below hb)
      (replace HB : Hid (Below w.heap.size w w1) := bCall (by repeat (first | (with_reducible exact HB.out) | (with_reducible apply bAl) | (with_reducible apply bDr) | (with_reducible apply bDrN) | ((with_reducible refine bSt ?_ ?_ _); (first | (with_reducible assumption) | omega | (simp <;> omega))))) hb); clear hb; (have := HB.out.size)
      go_wp2_with fail
      refine (offerK (mS 0) (mS 1) 5 (-1) 1 _ rfl (by decide) (.inl ⟨rfl, rfl⟩) put0 rfl (mS_all 0) A c ps _ HP.out HR1.out).mono ?_
      rintro e w2 ⟨A2, c2, ps2, rfl, hp2, hR2, hb⟩
      have HP2 := Lib.hid hp2
      have HR2 := Lib.hid hR2
      clear hp2 hR2
      (replace HB : Hid (Below w.heap.size w w2) := bCall (by repeat (first | (with_reducible exact HB.out) | (with_reducible apply bAl) | (with_reducible apply bDr) | (with_reducible apply bDrN) | ((with_reducible refine bSt ?_ ?_ _); (first | (with_reducible assumption) | omega | (simp <;> omega))))) hb); clear hb; (have := HB.out.size)
      go_wp2
      exact ⟨⟨1, A2, c2, ps2, by omega, rfl, rfl, rfl, HP2.out, HR2.out, HB.out⟩, by simp [intOf]⟩
    · skip
      go_wp2_with fail
      refine (entry81 6 0 _).mono ?_
      rintro e w1 ⟨rfl, hb⟩
      dsimp only [entVal]
      have HR1 := Lib.hid (HR.out.below hb)
      (replace HB : Hid (Below w.heap.size w w1) := bCall (by repeat (first | (with_reducible exact HB.out) | (with_reducible apply bAl) | (with_reducible apply bDr) | (with_reducible apply bDrN) | ((with_reducible refine bSt ?_ ?_ _); (first | (with_reducible assumption) | omega | (simp <;> omega))))) hb); clear hb; (have := HB.out.size)
      go_wp2_with fail
      refine (offerK (mS 1) (mS 2) 6 0 0 _ rfl (by decide) (.inr ⟨rfl, by decide⟩) put1 rfl (mS_all 1) A c ps _ HP.out HR1.out).mono ?_
      rintro e w2 ⟨A2, c2, ps2, rfl, hp2, hR2, hb⟩
      have HP2 := Lib.hid hp2
      have HR2 := Lib.hid hR2
      clear hp2 hR2
      (replace HB : Hid (Below w.heap.size w w2) := bCall (by repeat (first | (with_reducible exact HB.out) | (with_reducible apply bAl) | (with_reducible apply bDr) | (with_reducible apply bDrN) | ((with_reducible refine bSt ?_ ?_ _); (first | (with_reducible assumption) | omega | (simp <;> omega))))) hb); clear hb; (have := HB.out.size)
      go_wp2
      exact ⟨⟨2, A2, c2, ps2, by omega, rfl, rfl, rfl, HP2.out, HR2.out, HB.out⟩, by simp [intOf]⟩
    · skip
      go_wp2_with fail
      refine (entry81 7 (-1) _).mono ?_
      rintro e w1 ⟨rfl, hb⟩
      dsimp only [entVal]
      have HR1 := Lib.hid (HR.out.below hb)
      (replace HB : Hid (Below w.heap.size w w1) := bCall (by repeat (first | (with_reducible exact HB.out) | (with_reducible apply bAl) | (with_reducible apply bDr) | (with_reducible apply bDrN) | ((with_reducible refine bSt ?_ ?_ _); (first | (with_reducible assumption) | omega | (simp <;> omega))))) hb); clear hb; (have := HB.out.size)
      go_wp2_with fail
      refine (offerK (mS 2) (mS 3) 7 (-1) 1 _ rfl (by decide) (.inl ⟨rfl, rfl⟩) put2 rfl (mS_all 2) A c ps _ HP.out HR1.out).mono ?_
      rintro e w2 ⟨A2, c2, ps2, rfl, hp2, hR2, hb⟩
      have HP2 := Lib.hid hp2
      have HR2 := Lib.hid hR2
      clear hp2 hR2
      (replace HB : Hid (Below w.heap.size w w2) := bCall (by repeat (first | (with_reducible exact HB.out) | (with_reducible apply bAl) | (with_reducible apply bDr) | (with_reducible apply bDrN) | ((with_reducible refine bSt ?_ ?_ _); (first | (with_reducible assumption) | omega | (simp <;> omega))))) hb); clear hb; (have := HB.out.size)
      go_wp2
      exact ⟨⟨3, A2, c2, ps2, by omega, rfl, rfl, rfl, HP2.out, HR2.out, HB.out⟩, by simp [intOf]⟩
    · skip
      have hl := psLen HP.out
      have HL := Lib.hid hl
      clear hl
      go_wp2_with fail
      refine (entry81 9 1 _).mono ?_
      rintro e w1 ⟨rfl, hb⟩
      dsimp only [entVal]
      have HR1 := Lib.hid (HR.out.below hb)
      (replace HB : Hid (Below w.heap.size w w1) := bCall (by repeat (first | (with_reducible exact HB.out) | (with_reducible apply bAl) | (with_reducible apply bDr) | (with_reducible apply bDrN) | ((with_reducible refine bSt ?_ ?_ _); (first | (with_reducible assumption) | omega | (simp <;> omega))))) hb); clear hb; (have := HB.out.size)
      go_wp2_with fail
      refine (offerNo A c 2 9 0 5 1 3 0 0 _ (by decide) (by decide) (by decide)).mono ?_
      rintro e w2 ⟨rfl, hb⟩
      have HR2 := Lib.hid (HR1.out.below hb)
      (replace HB : Hid (Below w.heap.size w w2) := bCall (by repeat (first | (with_reducible exact HB.out) | (with_reducible apply bAl) | (with_reducible apply bDr) | (with_reducible apply bDrN) | ((with_reducible refine bSt ?_ ?_ _); (first | (with_reducible assumption) | omega | (simp <;> omega))))) hb); clear hb; (have := HB.out.size)
      go_wp2_with fail
      have hF : ∀ W, RingsR W A ps → Calls Try.prog 82 #[.slice A 2 c] W fun e w' => e = .returned (.int .i64 1) ∧ Below W.heap.size W w' := fun W hW => by
        have h := first82 A c ps W hW (by rw [HL.out]; decide) (psAll HP.out)
        rw [HL.out, HP.out, first3] at h
        exact h
      refine (hF _ HR2.out).mono ?_
      rintro e w3 ⟨rfl, hb⟩
      clear hF
      have HR3 := Lib.hid (HR2.out.below hb)
      (replace HB : Hid (Below w.heap.size w w3) := bCall (by repeat (first | (with_reducible exact HB.out) | (with_reducible apply bAl) | (with_reducible apply bDr) | (with_reducible apply bDrN) | ((with_reducible refine bSt ?_ ?_ _); (first | (with_reducible assumption) | omega | (simp <;> omega))))) hb); clear hb; (have := HB.out.size)
      go_wp2_with fail
      have hH : ∀ W, RingsR W A ps → Calls Try.prog 52 #[.slice A 2 c] W fun e w' => e = .returned (.int .i64 3) ∧ Below W.heap.size W w' := fun W hW => by
        have h := held52 A c ps W hW (by rw [HL.out]; decide)
        rw [HL.out, HP.out, held3] at h
        exact h
      refine (hH _ HR3.out).mono ?_
      rintro e w4 ⟨rfl, hb⟩
      clear hH
      have HR4 := Lib.hid (HR3.out.below hb)
      (replace HB : Hid (Below w.heap.size w w4) := bCall (by repeat (first | (with_reducible exact HB.out) | (with_reducible apply bAl) | (with_reducible apply bDr) | (with_reducible apply bDrN) | ((with_reducible refine bSt ?_ ?_ _); (first | (with_reducible assumption) | omega | (simp <;> omega))))) hb); clear hb; (have := HB.out.size)
      go_wp2_with fail
      have hD : ∀ W, RingsR W A ps → Calls Try.prog 50 #[.slice A 2 c, .int .i64 2] W (DrainPost W ([en 5 (-1), en 6 0], [rOf [], rOf [en 7 (-1)]])) := fun W hW => by
        have h := drain50 A c ps 2 W hW (by rw [HL.out]; decide) (psAll HP.out)
        rw [HL.out, HP.out, drain3] at h
        exact h
      refine (hD _ HR4.out).mono ?_
      rintro e w5 ⟨A5, c5, A6, c6, ps6, rfl, hp6, hc5, hR5, hc6, hR6, hb⟩
      clear hD
      have hl6 : ps6.length = 2 := by
        have := congrArg List.length hp6
        simpa [rings] using this
      rw [hl6]
      have HR5 := Lib.hid hR5.rd
      have HR6 := Lib.hid hR6.rings
      have HP6 := Lib.hid hp6
      have HL6 := Lib.hid hl6
      clear hR5 hR6 hp6 hl6 hc5 hc6
      (replace HB : Hid (Below w.heap.size w w5) := bCall (by repeat (first | (with_reducible exact HB.out) | (with_reducible apply bAl) | (with_reducible apply bDr) | (with_reducible apply bDrN) | ((with_reducible refine bSt ?_ ?_ _); (first | (with_reducible assumption) | omega | (simp <;> omega))))) hb); clear hb; (have := HB.out.size)
      dsimp only [List.length_cons, List.length_nil]
      go_wp2_with fail
      have hH : ∀ W, RingsR W A6 ps6 → Calls Try.prog 52 #[.slice A6 2 c6] W fun e w' => e = .returned (.int .i64 1) ∧ Below W.heap.size W w' := fun W hW => by
        have h := held52 A6 c6 ps6 W hW (by rw [HL6.out]; decide)
        rw [HL6.out, HP6.out, held4] at h
        exact h
      refine (hH _ HR6.out).mono ?_
      rintro e w6 ⟨rfl, hb⟩
      clear hH
      have HR7 := Lib.hid (HR5.out.below hb)
      (replace HB : Hid (Below w.heap.size w w6) := bCall (by repeat (first | (with_reducible exact HB.out) | (with_reducible apply bAl) | (with_reducible apply bDr) | (with_reducible apply bDrN) | ((with_reducible refine bSt ?_ ?_ _); (first | (with_reducible assumption) | omega | (simp <;> omega))))) hb); clear hb; (have := HB.out.size)
      go_wp2_with fail
      refine (entry81 5 (-1) _).mono ?_
      rintro e w7 ⟨rfl, hb⟩
      dsimp only [entVal]
      have HR8 := Lib.hid (HR7.out.below hb)
      (replace HB : Hid (Below w.heap.size w w7) := bCall (by repeat (first | (with_reducible exact HB.out) | (with_reducible apply bAl) | (with_reducible apply bDr) | (with_reducible apply bDrN) | ((with_reducible refine bSt ?_ ?_ _); (first | (with_reducible assumption) | omega | (simp <;> omega))))) hb); clear hb; (have := HB.out.size)
      go_wp2_with fail
      refine (entry81 6 0 _).mono ?_
      rintro e w8 ⟨rfl, hb⟩
      dsimp only [entVal]
      have HR9 := Lib.hid (HR8.out.below hb)
      (replace HB : Hid (Below w.heap.size w w8) := bCall (by repeat (first | (with_reducible exact HB.out) | (with_reducible apply bAl) | (with_reducible apply bDr) | (with_reducible apply bDrN) | ((with_reducible refine bSt ?_ ?_ _); (first | (with_reducible assumption) | omega | (simp <;> omega))))) hb); clear hb; (have := HB.out.size)
      go_wp2_with fail
      refine (entriesSelf A5 c5 [en 5 (-1), en 6 0] _ _ _ (HR9.out.below (bAl (Below.refl _ _) _)) (by exact Rd.new w8 _ _) (by decide)).mono ?_
      rintro e w9 ⟨rfl, hb⟩
      (replace HB : Hid (Below w.heap.size w w9) := bCall (by repeat (first | (with_reducible exact HB.out) | (with_reducible apply bAl) | (with_reducible apply bDr) | (with_reducible apply bDrN) | ((with_reducible refine bSt ?_ ?_ _); (first | (with_reducible assumption) | omega | (simp <;> omega))))) hb); clear hb; (have := HB.out.size)
      go_wp2_with fail
      have hF : ∀ W, Calls Try.prog 82 #[.slice none 0 0] W fun e w' => e = .returned (.int .i64 (-1)) ∧ Below W.heap.size W w' := fun W => by
        have h := first82 none 0 [] W (RingsR.nil _ _) (by decide) (fun p hp => by cases hp)
        rw [show rings [] = [] from rfl, first0] at h
        exact h
      refine (hF _).mono ?_
      rintro e w10 ⟨rfl, hb⟩
      clear hF
      (replace HB : Hid (Below w.heap.size w w10) := bCall (by repeat (first | (with_reducible exact HB.out) | (with_reducible apply bAl) | (with_reducible apply bDr) | (with_reducible apply bDrN) | ((with_reducible refine bSt ?_ ?_ _); (first | (with_reducible assumption) | omega | (simp <;> omega))))) hb); clear hb; (have := HB.out.size)
      go_wp2
      go_ret
      exact ⟨rfl, HB.out⟩
end Go.Proofs.Ytlegpbookbghbaa
