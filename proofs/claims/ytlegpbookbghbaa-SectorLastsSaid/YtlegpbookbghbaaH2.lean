/- SectorKeeps: the walk; the places are any numbers. -/
import Derived.Test.YtlegpbookbghbaaH0
import Derived.Test.YtlegpbookbghbaaH1
set_option linter.unusedVariables false
set_option linter.unusedSimpArgs false
namespace Go.Proofs.Ytlegpbookbghbaa
open Go.RowKit

theorem info4 : (Try.prog.info? 4).map (fun i => (i.zero, i.size, i.bytes)) = some (some (.bool false), 1, 1) := by kernel_rfl
theorem crashS_ok {D : DiskS} (h : DOk D) (keep : List Bool) (torn : Int) : DOk (crashS D keep torn) :=
  ⟨h.many, h.size, crashed_len h _ torn _ (by simp [keptS]; omega), fun p hp => (by cases hp), Nat.zero_le _, fun hb => (by cases hb)⟩
theorem pendingAt (lo hi kd : Nat) (D : DiskS) (w : World) (hD : DiskAt w lo hi kd D) :
    Calls Try.prog 41 #[.pointer (some ⟨kd, 0, none⟩)] w fun e w' => e = .returned (.int .i64 D.pend.length) ∧ w' = w := by
  obtain ⟨kl, km, pA, wA, pc, wc, ks, hD⟩ := hD
  exact pending41 D kd kl km pA wA pc wc w hD.blk.cell
/-- To keep all, untorn, is to flush. -/
theorem crashed_all {D : DiskS} (h : DOk D) (n : Nat) (hn : D.pend.length ≤ n) : ∀ k, k ≤ D.pend.length → crashed D (keptS D (List.replicate n true)) (-1) k = applied D k
  | 0, _ => by simp [crashed, applied]
  | k + 1, hk => by
    have hlt : k < D.pend.length := by omega
    have hK : (keptS D (List.replicate n true))[k]? = some true := by unfold keptS; rw [List.getElem?_take, if_pos hlt, List.getElem?_replicate, if_pos (by omega)]
    have hg : D.pend.getD k (0, []) = D.pend[k] := by simp [List.getD, hlt]
    have hm : mostS D.size (finalS (keptS D (List.replicate n true))) (-1) k = D.size := if_neg (by omega)
    rw [applied_step hlt]
    show (if (keptS D (List.replicate n true))[k]? = some true then _ else _) = _
    rw [if_pos hK, hg, hm, crashed_all h n hn k (by omega), List.take_of_length_le (Nat.le_of_eq (h.pend _ (List.getElem_mem hlt)).2)]
theorem crash_all {D : DiskS} (h : DOk D) (n : Nat) (hn : D.pend.length ≤ n) : (crashS D (List.replicate n true) (-1)).last = applied D D.pend.length := by
  have hl : (keptS D (List.replicate n true)).length = D.pend.length := by simp [keptS]; omega
  show crashed D _ (-1) _ = _
  rw [hl, crashed_all h n hn _ (Nat.le_refl _)]
theorem crash_none (D : DiskS) (torn : Int) : (crashS D [] torn).last = D.last := by
  have hl : (keptS D []) = [] := by simp [keptS]
  show crashed D (keptS D []) torn (keptS D []).length = _
  rw [hl]
  rfl
theorem ownsCap {w : World} {base : Nat} {e : TypeId} {size n c : Nat} {A : Option Addr} {xs : List Value} (h : w.ownsRow base e size (.slice A n c) n xs) : n ≤ c ∧ c ≤ maxLen := by
  rcases h.2 with ⟨hv, h0⟩ | ⟨g, cap, cur, hv, _, _, hc, hm, _, _⟩
  · simp only [Value.slice.injEq] at hv
    obtain ⟨_, rfl, rfl⟩ := hv
    exact ⟨Nat.le_refl _, by decide⟩
  · simp only [Value.slice.injEq] at hv
    obtain ⟨_, _, rfl⟩ := hv
    exact ⟨hc, hm⟩
theorem ownsRd {w : World} {base : Nat} {e : TypeId} {n c : Nat} {A : Option Addr} {xs : List Value} (h : w.ownsRow base e 1 (.slice A n c) n xs) : Rd w A xs := by
  by_cases h0 : n = 0
  · subst h0
    exact .inl (List.eq_nil_of_length_eq_zero (by rw [h.1]))
  · obtain ⟨g, rfl, _, hc⟩ := ownsCells h (by omega)
    exact .inr ⟨g, 0, rfl, hc⟩
theorem crash40L (lo hi kd : Nat) (D : DiskS) (keep : List Bool) (n : Nat) (hn : n = keep.length) (kA : Option Addr) (kc : Nat) (torn : Int) (w : World) (hD : DiskAt w lo hi kd D) (hok : DOk D)
    (hK : ∀ w', Only (In lo hi) w w' → Rd w' kA (keep.map Value.bool)) (hkc : n ≤ kc) (hkl : kc ≤ maxLen) :
    Calls Try.prog 40 #[.pointer (some ⟨kd, 0, none⟩), .slice kA n kc, .int .i64 torn] w fun e w' => e = .returned (.int .i64 0) ∧ DiskAt w' lo hi kd (crashS D keep torn) ∧ Only (In lo hi) w w' := by
  subst hn
  exact crash40 lo hi kd D keep kA kc torn w hD hok hK hkc hkl
set_option maxRecDepth 100000 in set_option maxHeartbeats 4000000 in
theorem sectorKeeps12 (many size flushed : Int) (ats : List Int) (A : Option Addr) (ac : Nat) (w : World) (hA : Rd w A (intCells ats)) :
    Calls Try.prog 12 #[.int .i64 many, .int .i64 size, .int .i64 flushed, .slice A ats.length ac] w fun e w' => e = .returned (.bool true) ∧ Below w.heap.size w w' := by
  have HA := Lib.hid hA
  have HB : Hid (Below w.heap.size w w) := Below.refl _ _
  clear hA
  by_cases hbad : many < 1 ∨ 4096 < many ∨ size < 64 ∨ 1024 < size ∨ 64 < many ∨ 60 < (ats.length : Int)
  · go_enter Try.func12, Try.ntmps12
    go_wp2_with fail
    refine (writtenBad38 many size flushed ats A ac _ hbad).mono ?_
    rintro e w1 ⟨rfl, hb⟩
    (replace HB : Hid (Below w.heap.size w w1) := bCall (by repeat (first | (with_reducible exact HB.out) | (with_reducible apply bAl) | (with_reducible apply bDr) | (with_reducible apply bDrN) | ((with_reducible refine bSt ?_ ?_ _); (first | (with_reducible assumption) | omega | (simp <;> omega))))) hb); clear hb; (have := HB.out.size)
    go_wp2_with fail
    refine (writtenBad38 many size flushed ats A ac _ hbad).mono ?_
    rintro e w2 ⟨rfl, hb⟩
    (replace HB : Hid (Below w.heap.size w w2) := bCall (by repeat (first | (with_reducible exact HB.out) | (with_reducible apply bAl) | (with_reducible apply bDr) | (with_reducible apply bDrN) | ((with_reducible refine bSt ?_ ?_ _); (first | (with_reducible assumption) | omega | (simp <;> omega))))) hb); clear hb; (have := HB.out.size)
    go_wp2_with fail
    refine (writtenBad38 many size flushed ats A ac _ hbad).mono ?_
    rintro e w3 ⟨rfl, hb⟩
    (replace HB : Hid (Below w.heap.size w w3) := bCall (by repeat (first | (with_reducible exact HB.out) | (with_reducible apply bAl) | (with_reducible apply bDr) | (with_reducible apply bDrN) | ((with_reducible refine bSt ?_ ?_ _); (first | (with_reducible assumption) | omega | (simp <;> omega))))) hb); clear hb; (have := HB.out.size)
    go_wp2_with fail
    refine (stored37 _).mono ?_
    rintro e w4 ⟨rfl, hb⟩
    (replace HB : Hid (Below w.heap.size w w4) := bCall (by repeat (first | (with_reducible exact HB.out) | (with_reducible apply bAl) | (with_reducible apply bDr) | (with_reducible apply bDrN) | ((with_reducible refine bSt ?_ ?_ _); (first | (with_reducible assumption) | omega | (simp <;> omega))))) hb); clear hb; (have := HB.out.size)
    go_wp2
    go_ret
    exact ⟨rfl, HB.out⟩
  · obtain ⟨m, rfl⟩ := Int.eq_ofNat_of_zero_le (a := many) (by omega)
    obtain ⟨s, rfl⟩ := Int.eq_ofNat_of_zero_le (a := size) (by omega)
    have hm1 : 1 ≤ m := by omega
    have hm2 : m ≤ 64 := by omega
    have hs1 : 64 ≤ s := by omega
    have hs2 : s ≤ 1024 := by omega
    have hl : ats.length ≤ 60 := by omega
    clear hbad
    have hwk := writtenS_ok m s flushed ats hm1 (by omega) hs1 hs2 ats.length (by omega)
    have HW := Lib.hid hwk
    go_enter Try.func12, Try.ntmps12
    go_wp2_with fail
    refine (written38 m s flushed ats A ac _ HA.out hm1 hm2 hs1 hs2 hl).mono ?_
    rintro e w1 ⟨ka, rfl, hD, hb⟩
    have DA := Lib.hid hD
    have z1 := hb.size
    replace HA := Lib.hid (HA.out.below hb)
    clear hD
    (replace HB : Hid (Below w.heap.size w w1) := bCall (by repeat (first | (with_reducible exact HB.out) | (with_reducible apply bAl) | (with_reducible apply bDr) | (with_reducible apply bDrN) | ((with_reducible refine bSt ?_ ?_ _); (first | (with_reducible assumption) | omega | (simp <;> omega))))) hb); clear hb; (have := HB.out.size)
    go_wp2_with fail
    refine (written38 m s flushed ats A ac _ HA.out hm1 hm2 hs1 hs2 hl).mono ?_
    rintro e w2 ⟨kb, rfl, hD, hb⟩
    replace DA := Lib.hid (DA.out.below hb)
    have DB := Lib.hid hD
    have z2 := hb.size
    replace HA := Lib.hid (HA.out.below hb)
    clear hD
    (replace HB : Hid (Below w.heap.size w w2) := bCall (by repeat (first | (with_reducible exact HB.out) | (with_reducible apply bAl) | (with_reducible apply bDr) | (with_reducible apply bDrN) | ((with_reducible refine bSt ?_ ?_ _); (first | (with_reducible assumption) | omega | (simp <;> omega))))) hb); clear hb; (have := HB.out.size)
    go_wp2_with fail
    refine (written38 m s flushed ats A ac _ HA.out hm1 hm2 hs1 hs2 hl).mono ?_
    rintro e w3 ⟨kc, rfl, hD, hb⟩
    replace DA := Lib.hid (DA.out.below hb)
    replace DB := Lib.hid (DB.out.below hb)
    have DC := Lib.hid hD
    have z3 := hb.size
    clear hD
    (replace HB : Hid (Below w.heap.size w w3) := bCall (by repeat (first | (with_reducible exact HB.out) | (with_reducible apply bAl) | (with_reducible apply bDr) | (with_reducible apply bDrN) | ((with_reducible refine bSt ?_ ?_ _); (first | (with_reducible assumption) | omega | (simp <;> omega))))) hb); clear hb; (have := HB.out.size)
    generalize writtenS m s flushed ats ats.length = W at *
    obtain ⟨i0, hi0, hzz⟩ := Option.map_eq_some_iff.1 info4
    simp only [Prod.mk.injEq] at hzz
    obtain ⟨hz0, hsz0, hby0⟩ := hzz
    have hu64 := Try.underlying64
    go_wp2_with fail
    go_loopw [12, 13] (fun v i wr => ∃ (k : Nat) (A1 : Option Addr) (c1 : Nat), k ≤ ats.length ∧ v = .slice A1 k c1 ∧ i = .int .i64 k ∧ wr.ownsRow w3.heap.size 4 1 (.slice A1 k c1) k ((List.replicate k true).map Value.bool) ∧ Below w3.heap.size w3 wr) (fun _ i _ => ats.length - (intOf i).toNat)
    case atStart => exact ⟨0, none, 0, by omega, rfl, rfl, World.ownsRow_nil _ _ _ _, Below.refl _ _⟩
    case round =>
      obtain ⟨k, A1, c1, hk, rfl, rfl, ho, hbel⟩ := hrel
      have HO := Lib.hid ho
      have HL := Lib.hid hbel
      have z4 := hbel.size
      clear ho hbel
      by_cases hlt : k < ats.length
      · have hlt' : (k : Int) < (ats.length : Int) := by omega
        go_wp2_with (first | (at_builtin; refine wpList_appendH (v := .slice A1 k c1) w3.heap.size 64 4 i0 _ 1 1 Try.underlying64 hi0 hz0 hsz0 hby0 rfl (by decide) k 1 ((List.replicate k true).map Value.bool) [.bool true] (by rfl) (.tmp 48) (.tmp 49) (by rfl) (by rfl) (by rfl) (ownsAllocH HO.out _) (by rfl) (by refine Rd.newAt _ _ _ _ ?_; (first | rfl | (simp <;> omega))) (by intro u hu; obtain rfl := List.mem_singleton.1 hu; rfl) (by simp only [maxLen]; omega) (by omega) (by simp; omega) ?_; intro A2 c2 w5 ho1 hg1; (replace HL := Lib.hid (belowGrownH (bAl HL.out _) hg1 (ownsAllocH HO.out _) (by simp; omega) (Nat.le_refl _))); (replace HO := Lib.hid ho1); clear ho1 hg1))
        refine ⟨⟨k + 1, A2, c2, by omega, rfl, by go_num, ?_, HL.out⟩, by simp [intOf]; omega⟩
        have e : (List.replicate (k + 1) true).map Value.bool = (List.replicate k true).map Value.bool ++ [.bool true] := by rw [List.replicate_succ', List.map_append]; rfl
        rw [e]
        exact HO.out
      · obtain rfl : k = ats.length := by omega
        replace HB := Lib.hid (bCall HB.out HL.out)
        replace DA := Lib.hid (DA.out.below HL.out)
        replace DB := Lib.hid (DB.out.below HL.out)
        replace DC := Lib.hid (DC.out.below HL.out)
        clear HL
        go_wp2_with fail
        refine (imageAt _ _ kc W _ DC.out HW.out.ok).mono ?_
        rintro e w5 ⟨rfl, hw5⟩
        cases hw5
        go_wp2_with fail
        refine (flush44 _ _ ka W _ DA.out HW.out.ok HW.out.down).mono ?_
        rintro e w6 ⟨rfl, hD, ho⟩
        have HF := Lib.hid HW.out.flush
        have hfl := flushS_eq HW.out.breaks
        rw [hfl] at hD HF
        clear hfl
        replace DA := Lib.hid hD
        replace DB := Lib.hid (DB.out.only ho fun k h1 h2 hs => by have := hs.2; omega)
        replace DC := Lib.hid (DC.out.only ho fun k h1 h2 hs => by have := hs.2; omega)
        replace HO := Lib.hid (ownsOnly HO.out ho fun g hg hs => by have := ownsLo HO.out g hg; have := hs.2; omega)
        replace HB := Lib.hid (onlyBelow' HB.out ho (Nat.le_refl _))
        clear hD ho
        go_wp2_with fail
        have hcap := ownsCap HO.out
        refine (crash40L w1.heap.size w2.heap.size kb W (List.replicate ats.length true) ats.length (by simp) A1 c1 (-1) _ DB.out HW.out.ok (fun w' ho => ownsRd (ownsOnly HO.out ho fun g hg hs => by have := ownsLo HO.out g hg; have := hs.2; omega)) hcap.1 hcap.2).mono ?_
        rintro e w7 ⟨rfl, hD, ho⟩
        have HCB := Lib.hid (crashS_ok HW.out.ok (List.replicate ats.length true) (-1))
        have HIB := Lib.hid (crash_all HW.out.ok ats.length HW.out.few)
        generalize crashS W (List.replicate ats.length true) (-1) = WB at *
        replace DB := Lib.hid hD
        replace DA := Lib.hid (DA.out.only ho fun k h1 h2 hs => by have := hs.1; omega)
        replace DC := Lib.hid (DC.out.only ho fun k h1 h2 hs => by have := hs.2; omega)
        replace HB := Lib.hid (onlyBelow' HB.out ho (by omega))
        clear hD ho HO
        go_wp2_with fail
        refine (crash40 w2.heap.size w3.heap.size kc W [] none 0 5 _ DC.out HW.out.ok (fun w' _ => Rd.nil _ _) (Nat.le_refl _) (by decide)).mono ?_
        rintro e w8 ⟨rfl, hD, ho⟩
        have HCC := Lib.hid (crashS_ok HW.out.ok [] 5)
        have HIC := Lib.hid (crash_none W 5)
        generalize crashS W [] 5 = WC at *
        replace DC := Lib.hid hD
        replace DA := Lib.hid (DA.out.only ho fun k h1 h2 hs => by have := hs.1; omega)
        replace DB := Lib.hid (DB.out.only ho fun k h1 h2 hs => by have := hs.1; omega)
        replace HB := Lib.hid (onlyBelow' HB.out ho (by omega))
        clear hD ho
        go_wp2_with fail
        refine (stored37 _).mono ?_
        rintro e w9 ⟨rfl, hb⟩
        replace DA := Lib.hid (DA.out.below hb)
        replace DB := Lib.hid (DB.out.below hb)
        replace DC := Lib.hid (DC.out.below hb)
        (replace HB : Hid (Below w.heap.size w w9) := bCall (by repeat (first | (with_reducible exact HB.out) | (with_reducible apply bAl) | (with_reducible apply bDr) | (with_reducible apply bDrN) | ((with_reducible refine bSt ?_ ?_ _); (first | (with_reducible assumption) | omega | (simp <;> omega))))) hb); clear hb; (have := HB.out.size)
        go_wp2_with fail
        refine (imageAt _ _ ka _ _ DA.out HF.out.ok).mono ?_
        dsimp only
        rintro e w10 ⟨rfl, hw10⟩
        cases hw10
        go_wp2_with fail
        refine (imageAt _ _ kb WB _ DB.out HCB.out).mono ?_
        rw [HIB.out]
        rintro e w10 ⟨rfl, hw10⟩
        cases hw10
        go_wp2_with fail
        refine (imageAt _ _ kc WC _ DC.out HCC.out).mono ?_
        rw [HIC.out]
        rintro e w10 ⟨rfl, hw10⟩
        cases hw10
        go_wp2_with fail
        refine (pendingAt _ _ ka _ _ DA.out).mono ?_
        rintro e w10 ⟨rfl, hw10⟩
        cases hw10
        go_wp2
        go_ret
        exact ⟨rfl, HB.out⟩
end Go.Proofs.Ytlegpbookbghbaa
