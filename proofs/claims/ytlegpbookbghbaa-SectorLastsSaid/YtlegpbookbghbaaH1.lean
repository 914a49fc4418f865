/- A disk of some writes, flushed behind the first so many: the walk; the places are any numbers. -/
import Derived.Test.YtlegpbookbghbaaG8
import Derived.Test.YtlegpbookbghbaaG9
set_option linter.unusedVariables false
set_option linter.unusedSimpArgs false
namespace Go.Proofs.Ytlegpbookbghbaa
open Go.RowKit

def writeS (D : DiskS) (at_ : Int) (b : List UInt8) : DiskS := if refuseS D at_ = 0 then { D with pend := D.pend ++ [(at_.toNat, b)] } else D
def fullS (s i : Nat) : List UInt8 := List.replicate s (UInt8.ofNat (1 + i))
def stepS (D : DiskS) (i : Nat) (at_ flushed : Int) : DiskS := writeS (if (i : Int) = flushed then flushS D else D) at_ (fullS D.size i)
def writtenS (m s : Nat) (flushed : Int) (ats : List Int) : Nat → DiskS
  | 0 => newS m s
  | k + 1 => if h : k < ats.length then stepS (writtenS m s flushed ats k) k ats[k] flushed else writtenS m s flushed ats k
/-- A disk that stands, with k pending writes at most. -/
structure WOk (D : DiskS) (m s k : Nat) : Prop where
  ok : DOk D
  down : D.down = false
  breaks : D.breaks = false
  few : D.pend.length ≤ k
  many : D.many = m
  size : D.size = s
theorem countS_id {D : DiskS} (h : D.breaks = false) : countS D = D := by simp [countS, h]
theorem flushS_eq {D : DiskS} (h : D.breaks = false) : flushS D = { D with last := applied D D.pend.length, pend := [] } := countS_id h
theorem WOk.flush {D : DiskS} {m s k : Nat} (h : WOk D m s k) : WOk (flushS D) m s k := by
  rw [flushS_eq h.breaks]
  exact ⟨⟨h.ok.many, h.ok.size, applied_len h.ok _, fun p hp => (by cases hp), Nat.zero_le _, fun hb => (by have hb' : D.breaks = true := hb; rw [h.breaks] at hb'; cases hb')⟩, h.down, h.breaks, Nat.zero_le _, h.many, h.size⟩
theorem refuse_zero {D : DiskS} {at_ : Int} (hd : D.down = false) : refuseS D at_ = 0 ↔ 0 ≤ at_ ∧ at_ < (D.many : Int) := by
  unfold refuseS
  rw [hd]
  simp only [Bool.false_eq_true, if_false]
  split <;> omega
theorem WOk.write {D : DiskS} {m s k : Nat} {at_ : Int} {b : List UInt8} (h : WOk D m s k) (hb : b.length = D.size) (hk : k < 1000) : WOk (writeS D at_ b) m s (k + 1) := by
  unfold writeS
  split
  · rename_i hr
    have ha := (refuse_zero h.down).1 hr
    refine ⟨⟨h.ok.many, h.ok.size, h.ok.last, fun p hp => ?_, ?_, fun hb => (by have hb' : D.breaks = true := hb; rw [h.breaks] at hb'; cases hb')⟩, h.down, h.breaks, ?_, h.many, h.size⟩
    · rcases List.mem_append.1 hp with hp | hp
      · exact h.ok.pend p hp
      · obtain rfl := List.mem_singleton.1 hp
        exact ⟨by show at_.toNat < D.many; omega, hb⟩
    · have := h.few
      simp
      omega
    · have := h.few
      simp
      omega
  · exact ⟨h.ok, h.down, h.breaks, Nat.le_succ_of_le h.few, h.many, h.size⟩
theorem WOk.step {D : DiskS} {m s k : Nat} {at_ flushed : Int} (h : WOk D m s k) (hk : k < 1000) : WOk (stepS D k at_ flushed) m s (k + 1) := by
  unfold stepS
  split
  · exact h.flush.write (by rw [h.flush.size]; simp [fullS, h.size]) hk
  · exact h.write (by simp [fullS]) hk
theorem writtenS_ok (m s : Nat) (flushed : Int) (ats : List Int) (hm1 : 1 ≤ m) (hm2 : m ≤ 4096) (hs1 : 64 ≤ s) (hs2 : s ≤ 1024) : ∀ k, k ≤ 1000 → WOk (writtenS m s flushed ats k) m s k
  | 0, _ => ⟨newOk m s hm1 hm2 hs1 hs2, rfl, rfl, Nat.le_refl _, rfl, rfl⟩
  | k + 1, hk => by
    have ih := writtenS_ok m s flushed ats hm1 hm2 hs1 hs2 k (by omega)
    unfold writtenS
    split
    · exact ih.step (by omega)
    · exact ⟨ih.ok, ih.down, ih.breaks, Nat.le_succ_of_le ih.few, ih.many, ih.size⟩
theorem writeAny47 (lo hi kd : Nat) (D : DiskS) (at_ : Int) (b : List UInt8) (w : World) (hD : DiskAt w lo hi kd D) (hok : DOk D) (hd : D.down = false) (hbr : D.breaks = false) (hb : b.length = D.size) (hfew : D.pend.length < 1000) (hlo : lo ≤ w.heap.size) (hhi : hi ≤ w.heap.size) :
    Calls Try.prog 47 #[.pointer (some ⟨kd, 0, none⟩), .int .i64 at_, .string (bstr b)] w fun e w' => e = .returned (.int .i64 (refuseS D at_)) ∧ DiskAt w' lo w'.heap.size kd (writeS D at_ b) ∧ Only (In lo hi) w w' := by
  by_cases hr : refuseS D at_ = 0
  · have ha := (refuse_zero hd).1 hr
    obtain ⟨a, rfl⟩ := Int.eq_ofNat_of_zero_le ha.1
    refine (write47 lo hi kd D a b w hD hok hd (by omega) hb hfew hlo hhi).mono ?_
    rintro e w' ⟨rfl, h, ho⟩
    rw [countS_id (by exact hbr)] at h
    refine ⟨by rw [hr], ?_, ho⟩
    unfold writeS
    rw [if_pos hr]
    exact h
  · refine (writeRefused47 lo hi kd D at_ (bstr b) w hD hr).mono ?_
    rintro e w' ⟨rfl, hbl⟩
    refine ⟨rfl, ?_, Only.ofBelow hbl⟩
    unfold writeS
    rw [if_neg hr]
    exact (hD.below hbl).mono (Nat.le_trans hhi hbl.size)
theorem onlyBelow' {w0 w w1 : World} {lo hi : Nat} (hb : Below w0.heap.size w0 w) (h : Only (In lo hi) w w1) (hlo : w0.heap.size ≤ lo) : Below w0.heap.size w0 w1 :=
  Only.below hb h fun k hk hs => by have := hs.1; omega
theorem datDrew {w : World} {lo hi kd : Nat} {D : DiskS} (h : DiskAt w lo hi kd D) : DiskAt w.drew lo hi kd D := h.below (belowDrew w)
theorem wrapU8 (x : Int) : IntKind.u8.wrap x = x % 256 := by
  unfold IntKind.wrap
  simp [IntKind.signed, IntKind.bits]
theorem u8of {k : Nat} (h : k ≤ 100) : IntKind.u8.wrap (1 + IntKind.u8.wrap (k : Int)) = ((UInt8.ofNat (1 + k)).toNat : Int) := by
  rw [wrapU8, wrapU8, UInt8.toNat_ofNat']
  omega
theorem full43s (s k : Nat) (hs : s ≤ 1024) (hk : k ≤ 100) (w : World) : Calls Try.prog 43 #[.int .u8 (IntKind.u8.wrap (1 + IntKind.u8.wrap (k : Int))), .int .i64 s] w fun e w' => e = .returned (.string (bstr (fullS s k))) ∧ Below w.heap.size w w' :=
  full43 _ (UInt8.ofNat (1 + k)) (u8of hk) s (by omega) w
def intCells (l : List Int) : List Value := l.map (Value.int .i64)
set_option maxRecDepth 100000 in set_option maxHeartbeats 4000000 in
theorem written38 (m s : Nat) (flushed : Int) (ats : List Int) (A : Option Addr) (ac : Nat) (w : World) (hA : Rd w A (intCells ats)) (hm1 : 1 ≤ m) (hm2 : m ≤ 64) (hs1 : 64 ≤ s) (hs2 : s ≤ 1024) (hl : ats.length ≤ 60) :
    Calls Try.prog 38 #[.int .i64 m, .int .i64 s, .int .i64 flushed, .slice A ats.length ac, .int .u8 1] w fun e w' => ∃ kd, e = .returned (.pointer (some ⟨kd, 0, none⟩)) ∧ DiskAt w' w.heap.size w'.heap.size kd (writtenS m s flushed ats ats.length) ∧ Below w.heap.size w w' := by
  have HA := Lib.hid hA
  have HB : Hid (Below w.heap.size w w) := Below.refl _ _
  have i1 : (m : Int) ≤ 64 := by omega
  have i2 : (ats.length : Int) ≤ 60 := by omega
  have hw := fun k hk => writtenS_ok m s flushed ats hm1 (by omega) hs1 hs2 k hk
  have HW := Lib.hid hw
  clear hA hw
  go_enter Try.func38, Try.ntmps38
  go_wp2_with fail
  refine (newDisk m s _ hm1 (by omega) hs1 hs2).mono ?_
  rintro e w1 ⟨kd, rfl, hD, hb⟩
  have HD := Lib.hid hD
  clear hD
  have hs1' := hb.size
  (replace HB : Hid (Below w.heap.size w w1) := bCall (by repeat (first | (with_reducible exact HB.out) | (with_reducible apply bAl) | (with_reducible apply bDr) | (with_reducible apply bDrN) | ((with_reducible refine bSt ?_ ?_ _); (first | (with_reducible assumption) | omega | (simp <;> omega))))) hb); clear hb; (have := HB.out.size)
  go_wp2_with fail
  go_loopw [13] (fun i wr => ∃ k : Nat, k ≤ ats.length ∧ i = .int .i64 k ∧ DiskAt wr w.heap.size wr.heap.size kd (writtenS m s flushed ats k) ∧ Below w.heap.size w wr) (fun i _ => ats.length - (intOf i).toNat)
  case atStart => exact ⟨0, by omega, rfl, HD.out, HB.out⟩
  case round =>
    obtain ⟨k, hk, rfl, hDr, hbel⟩ := hrel
    clear HD HB
    have HD := Lib.hid hDr
    have HB := Lib.hid hbel
    have hsz := hbel.size
    clear hDr hbel
    by_cases hlt : k < ats.length
    · have hlt' : (k : Int) < (ats.length : Int) := by omega
      have hst : writtenS m s flushed ats (k + 1) = stepS (writtenS m s flushed ats k) k ats[k] flushed := by
        show (if h : k < ats.length then _ else _) = _
        rw [dif_pos hlt]
      have HST := Lib.hid hst
      have hwk := HW.out k (by omega)
      obtain ⟨b, o, rfl, hc⟩ := HA.out.at_ (j := k) (u := .int .i64 ats[k]) (by simp [intCells, hlt])
      have s0 := hc k (.int .i64 ats[k]) (by simp [intCells, hlt])
      have lb : b < w.heap.size := World.block_lt_of_cell? w _ s0
      have S0 := Lib.hid s0
      clear hst hc s0
      generalize ats[k] = a at *
      generalize writtenS m s flushed ats k = D at *
      have hk60 : k < 60 := by omega
      by_cases hf : (k : Int) = flushed
      · have hfb : ((k : Int) == flushed) = true := by simp only [beq_iff_eq]; exact hf
        have hst2 : stepS D k a flushed = writeS (flushS D) a (fullS s k) := by unfold stepS; rw [if_pos hf, hwk.size]
        rw [hst2] at HST
        clear hst2 hf
        go_wp2_with fail
        refine (flush44 _ _ kd D _ HD.out hwk.ok hwk.down).mono ?_
        rintro e w2 ⟨rfl, hD2, ho2⟩
        replace hwk := hwk.flush
        generalize flushS D = D2 at *
        replace HD := Lib.hid (hD2.mono ho2.size)
        replace HB := Lib.hid (onlyBelow' HB.out ho2 (Nat.le_refl _))
        replace hsz := HB.out.size
        clear hD2 ho2
        (go_wp2_with fail; go_region_held3 (fun w' => w'.cell? ⟨b, o + k, none⟩ = some (.int .i64 a)) (exact (Below.cell (by repeat (first | (with_reducible exact HB.out) | (with_reducible apply bAl) | (with_reducible apply bDr) | (with_reducible apply bDrN) | ((with_reducible refine bSt ?_ ?_ _); (first | (with_reducible assumption) | omega | (simp <;> omega))))) lb).trans S0.out) (first | (go_at_call 43; refine (full43s s k (by omega) (by omega) _).mono ?_; rintro e v1 ⟨rfl, hb⟩; (replace HD := Lib.hid (HD.out.below (bCall (w := w2) (by repeat (first | (with_reducible exact Below.refl _ _) | (with_reducible apply bAl) | (with_reducible apply bDr) | (with_reducible apply bDrN))) hb))); (have hsv : w2.heap.size ≤ v1.heap.size := (bCall (w := w2) (by repeat (first | (with_reducible exact Below.refl _ _) | (with_reducible apply bAl) | (with_reducible apply bDr) | (with_reducible apply bDrN))) hb).size); (replace HB : Hid (Below w.heap.size w v1) := bCall (by repeat (first | (with_reducible exact HB.out) | (with_reducible apply bAl) | (with_reducible apply bDr) | (with_reducible apply bDrN) | ((with_reducible refine bSt ?_ ?_ _); (first | (with_reducible assumption) | omega | (simp <;> omega))))) hb); clear hb; (have := HB.out.size)) | (go_at_call 47; refine (writeAny47 w.heap.size w2.heap.size kd D2 a (fullS s k) _ (by repeat (first | (with_reducible exact HD.out) | (with_reducible apply datDrew))) hwk.ok hwk.down hwk.breaks (by simp [fullS, hwk.size]) (by have := hwk.few; omega) (by omega) (by omega)).mono ?_; rintro e v2 ⟨rfl, hD3, ho3⟩; (replace HD := Lib.hid hD3); (replace HB := Lib.hid (onlyBelow' (w0 := w) (lo := w.heap.size) (hi := w2.heap.size) HB.out ho3 (Nat.le_refl _))); (clear hD3 ho3))); go_wp2; refine ⟨⟨k + 1, by omega, by go_num, ?_, HB.out⟩, by simp [intOf]; omega⟩; rw [HST.out]; exact HD.out)
      · have hfb : ((k : Int) == flushed) = false := by simp only [beq_eq_false_iff_ne]; exact hf
        have hst2 : stepS D k a flushed = writeS D a (fullS s k) := by unfold stepS; rw [if_neg hf, hwk.size]
        rw [hst2] at HST
        clear hst2 hf
        (go_wp2_with fail; go_region_held3 (fun w' => w'.cell? ⟨b, o + k, none⟩ = some (.int .i64 a)) (exact (Below.cell (by repeat (first | (with_reducible exact HB.out) | (with_reducible apply bAl) | (with_reducible apply bDr) | (with_reducible apply bDrN) | ((with_reducible refine bSt ?_ ?_ _); (first | (with_reducible assumption) | omega | (simp <;> omega))))) lb).trans S0.out) (first | (go_at_call 43; refine (full43s s k (by omega) (by omega) _).mono ?_; rintro e v1 ⟨rfl, hb⟩; (replace HD := Lib.hid (HD.out.below (bCall (w := wr) (by repeat (first | (with_reducible exact Below.refl _ _) | (with_reducible apply bAl) | (with_reducible apply bDr) | (with_reducible apply bDrN))) hb))); (have hsv : wr.heap.size ≤ v1.heap.size := (bCall (w := wr) (by repeat (first | (with_reducible exact Below.refl _ _) | (with_reducible apply bAl) | (with_reducible apply bDr) | (with_reducible apply bDrN))) hb).size); (replace HB : Hid (Below w.heap.size w v1) := bCall (by repeat (first | (with_reducible exact HB.out) | (with_reducible apply bAl) | (with_reducible apply bDr) | (with_reducible apply bDrN) | ((with_reducible refine bSt ?_ ?_ _); (first | (with_reducible assumption) | omega | (simp <;> omega))))) hb); clear hb; (have := HB.out.size)) | (go_at_call 47; refine (writeAny47 w.heap.size wr.heap.size kd D a (fullS s k) _ (by repeat (first | (with_reducible exact HD.out) | (with_reducible apply datDrew))) hwk.ok hwk.down hwk.breaks (by simp [fullS, hwk.size]) (by have := hwk.few; omega) (by omega) (by omega)).mono ?_; rintro e v2 ⟨rfl, hD3, ho3⟩; (replace HD := Lib.hid hD3); (replace HB := Lib.hid (onlyBelow' (w0 := w) (lo := w.heap.size) (hi := wr.heap.size) HB.out ho3 (Nat.le_refl _))); (clear hD3 ho3))); go_wp2; refine ⟨⟨k + 1, by omega, by go_num, ?_, HB.out⟩, by simp [intOf]; omega⟩; rw [HST.out]; exact HD.out)
    · have hkk : k = ats.length := by omega
      subst hkk
      go_wp2
      go_ret
      exact ⟨kd, rfl, HD.out, HB.out⟩
set_option maxRecDepth 100000 in set_option maxHeartbeats 4000000 in
theorem writtenBad38 (m s flushed : Int) (ats : List Int) (A : Option Addr) (ac : Nat) (w : World) (h : m < 1 ∨ 4096 < m ∨ s < 64 ∨ 1024 < s ∨ 64 < m ∨ 60 < (ats.length : Int)) :
    Calls Try.prog 38 #[.int .i64 m, .int .i64 s, .int .i64 flushed, .slice A ats.length ac, .int .u8 1] w fun e w' => e = .returned (.pointer none) ∧ Below w.heap.size w w' := by
  have HB : Hid (Below w.heap.size w w) := Below.refl _ _
  by_cases hb1 : m < 1 ∨ 4096 < m ∨ s < 64 ∨ 1024 < s
  · go_enter Try.func38, Try.ntmps38
    go_wp2_with fail
    refine (newBad45 m s _ hb1).mono ?_
    rintro e w1 ⟨rfl, rfl⟩
    go_wp2
    go_ret
    exact ⟨rfl, by repeat (first | (with_reducible exact HB.out) | (with_reducible apply bAl) | (with_reducible apply bDr) | (with_reducible apply bDrN) | ((with_reducible refine bSt ?_ ?_ _); (first | (with_reducible assumption) | omega | (simp <;> omega))))⟩
  · obtain ⟨m', rfl⟩ := Int.eq_ofNat_of_zero_le (a := m) (by omega)
    obtain ⟨s', rfl⟩ := Int.eq_ofNat_of_zero_le (a := s) (by omega)
    by_cases hm : 64 < (m' : Int)
    · go_enter Try.func38, Try.ntmps38
      go_wp2_with fail
      refine (newDisk m' s' _ (by omega) (by omega) (by omega) (by omega)).mono ?_
      rintro e w1 ⟨kd, rfl, hD, hb⟩
      clear hD
      (replace HB : Hid (Below w.heap.size w w1) := bCall (by repeat (first | (with_reducible exact HB.out) | (with_reducible apply bAl) | (with_reducible apply bDr) | (with_reducible apply bDrN) | ((with_reducible refine bSt ?_ ?_ _); (first | (with_reducible assumption) | omega | (simp <;> omega))))) hb); clear hb; (have := HB.out.size)
      go_wp2
      go_ret
      exact ⟨rfl, HB.out⟩
    · have hl : 60 < (ats.length : Int) := by omega
      go_enter Try.func38, Try.ntmps38
      go_wp2_with fail
      refine (newDisk m' s' _ (by omega) (by omega) (by omega) (by omega)).mono ?_
      rintro e w1 ⟨kd, rfl, hD, hb⟩
      clear hD
      (replace HB : Hid (Below w.heap.size w w1) := bCall (by repeat (first | (with_reducible exact HB.out) | (with_reducible apply bAl) | (with_reducible apply bDr) | (with_reducible apply bDrN) | ((with_reducible refine bSt ?_ ?_ _); (first | (with_reducible assumption) | omega | (simp <;> omega))))) hb); clear hb; (have := HB.out.size)
      go_wp2
      go_ret
      exact ⟨rfl, HB.out⟩
end Go.Proofs.Ytlegpbookbghbaa
