/- RingTells: the walk's parts; the numbers lie in memory. -/
import Derived.Test.YtlegpbookbghbaaB6
import Derived.Deep.RegionHeld3
set_option linter.unusedVariables false
set_option linter.unusedSimpArgs false
namespace Go.Proofs.Ytlegpbookbghbaa
open Go.RowKit
attribute [local go_sem high] eqIn27

theorem newS_no {n : Int} (h : roomB n = false) : newS n = (ring0, 2) := by simp [newS, h]
theorem newS_yes {n : Int} (h : roomB n = true) : newS n = (⟨n, [], ent0⟩, 0) := by simp [newS, h]
theorem room_in {n : Int} (h : roomB n = true) : 2 ≤ n ∧ n ≤ 64 := by simpa [roomB, inB] using h

theorem TInv.succ {n : Int} {r : RingS} {pt td : Int} {k : Nat} (h : TInv n r pt td k) : TInv n r pt td (k + 1) := ⟨h.is_, h.room, h.ch, h.td0, by have := h.pk; omega⟩
theorem isT (q : RingS) (A : Option Addr) (c : Nat) (w : World) (h : ringIs q = true) : Calls Try.prog 21 #[.agg #[.int .i64 q.room, .slice A q.L.length c, .int .u64 q.gap.st, .int .u64 q.gap.e.sq, .int .i64 q.gap.e.tk, .int .i64 q.gap.e.pt, .int .i64 q.gap.e.kd, .int .i64 q.gap.e.a, .int .i64 q.gap.e.b]] w fun e w' => e = .returned (.bool true) ∧ Below w.heap.size w w' := by
  rw [← h]
  exact isR q A c w
/-- What a loop's round needs of the ring: the calls it makes of it. -/
structure TellIn (r q s : RingS) (pt : Int) (first : Ent) (ok : Bool) : Prop where
  put : ∀ (W : World) A c, Rd W A (entCells r.L) → Calls Try.prog 17 #[.agg #[.int .i64 r.room, .slice A r.L.length c, .int .u64 r.gap.st, .int .u64 r.gap.e.sq, .int .i64 r.gap.e.tk, .int .i64 r.gap.e.pt, .int .i64 r.gap.e.kd, .int .i64 r.gap.e.a, .int .i64 r.gap.e.b], .agg #[.int .u64 pt, .int .u64 0, .int .i64 5, .int .i64 1, .int .i64 3, .int .i64 9, .int .i64 0]] W (PutPost W (q, 0))
  is_ : ∀ (W : World) A c, Calls Try.prog 21 #[.agg #[.int .i64 q.room, .slice A q.L.length c, .int .u64 q.gap.st, .int .u64 q.gap.e.sq, .int .i64 q.gap.e.tk, .int .i64 q.gap.e.pt, .int .i64 q.gap.e.kd, .int .i64 q.gap.e.a, .int .i64 q.gap.e.b]] W fun e w' => e = .returned (.bool true) ∧ Below W.heap.size W w'
  take_ : ∀ (W : World) A c, Rd W A (entCells r.L) → r.L.length ≤ c → Calls Try.prog 24 #[.agg #[.int .i64 r.room, .slice A r.L.length c, .int .u64 r.gap.st, .int .u64 r.gap.e.sq, .int .i64 r.gap.e.tk, .int .i64 r.gap.e.pt, .int .i64 r.gap.e.kd, .int .i64 r.gap.e.a, .int .i64 r.gap.e.b]] W (TakePost W (first, s, ok))

set_option maxRecDepth 100000 in set_option maxHeartbeats 4000000 in
theorem tellsNo (n : Int) (A : Option Addr) (len c : Nat) (w : World) (hn : roomB n = false) :
    Calls Try.prog 4 #[.int .i64 n, .slice A len c] w fun e w' => e = .returned (.bool true) ∧ Below w.heap.size w w' := by
  have hu29 := Try.underlying29; have hu27 := Try.underlying27; have hu25 := Try.underlying25
  have HB : Hid (Below w.heap.size w w) := Below.refl _ _
  have HN := Lib.hid (newS_no hn)
  clear hn
  go_enter Try.func4, Try.ntmps4
  go_wp2_with fail
  refine (new15 n _).mono ?_
  rw [HN.out]
  rintro e w1 ⟨rfl, hb⟩
  (replace HB : Hid (Below w.heap.size w w1) := bCall (by repeat (first | (with_reducible exact HB.out) | (with_reducible apply bAl) | (with_reducible apply bDr) | (with_reducible apply bDrN) | ((with_reducible refine bSt ?_ ?_ _); (first | (with_reducible assumption) | omega | (simp <;> omega))))) hb); clear hb; (have := HB.out.size)
  dsimp only [ringVal, ring0, ent0, ev0, List.length_nil]
  go_wp2_with fail
  refine (ringed19 _).mono ?_
  rintro e w2 ⟨rfl, hb⟩
  (replace HB : Hid (Below w.heap.size w w2) := bCall (by repeat (first | (with_reducible exact HB.out) | (with_reducible apply bAl) | (with_reducible apply bDr) | (with_reducible apply bDrN) | ((with_reducible refine bSt ?_ ?_ _); (first | (with_reducible assumption) | omega | (simp <;> omega))))) hb); clear hb; (have := HB.out.size)
  go_wp2
  go_ret
  refine ⟨rfl, ?_⟩
  repeat (first | (with_reducible exact HB.out) | (with_reducible apply bAl) | (with_reducible apply bDr) | (with_reducible apply bDrN) | ((with_reducible refine bSt ?_ ?_ _); (first | (with_reducible assumption) | omega | (simp <;> omega))))
set_option maxRecDepth 100000 in set_option maxHeartbeats 4000000 in
theorem tellsLong (n : Int) (A : Option Addr) (len c : Nat) (w : World) (hn : roomB n = true) (hl : (200 : Int) < (len : Int)) :
    Calls Try.prog 4 #[.int .i64 n, .slice A len c] w fun e w' => e = .returned (.bool true) ∧ Below w.heap.size w w' := by
  have hu29 := Try.underlying29; have hu27 := Try.underlying27; have hu25 := Try.underlying25
  have HB : Hid (Below w.heap.size w w) := Below.refl _ _
  have HN := Lib.hid (newS_yes hn)
  clear hn
  go_enter Try.func4, Try.ntmps4
  go_wp2_with fail
  refine (new15 n _).mono ?_
  rw [HN.out]
  rintro e w1 ⟨rfl, hb⟩
  (replace HB : Hid (Below w.heap.size w w1) := bCall (by repeat (first | (with_reducible exact HB.out) | (with_reducible apply bAl) | (with_reducible apply bDr) | (with_reducible apply bDrN) | ((with_reducible refine bSt ?_ ?_ _); (first | (with_reducible assumption) | omega | (simp <;> omega))))) hb); clear hb; (have := HB.out.size)
  dsimp only [ringVal, ring0, ent0, ev0, List.length_nil]
  go_wp2_with fail
  refine (ringed19 _).mono ?_
  rintro e w2 ⟨rfl, hb⟩
  (replace HB : Hid (Below w.heap.size w w2) := bCall (by repeat (first | (with_reducible exact HB.out) | (with_reducible apply bAl) | (with_reducible apply bDr) | (with_reducible apply bDrN) | ((with_reducible refine bSt ?_ ?_ _); (first | (with_reducible assumption) | omega | (simp <;> omega))))) hb); clear hb; (have := HB.out.size)
  go_wp2
  go_ret
  refine ⟨rfl, ?_⟩
  repeat (first | (with_reducible exact HB.out) | (with_reducible apply bAl) | (with_reducible apply bDr) | (with_reducible apply bDrN) | ((with_reducible refine bSt ?_ ?_ _); (first | (with_reducible assumption) | omega | (simp <;> omega))))
set_option maxRecDepth 100000 in set_option maxHeartbeats 4000000 in
theorem tellsYes (n : Int) (A : Option Addr) (c : Nat) (ops : List Int) (w : World) (hn : roomB n = true) (hl : ops.length ≤ 200) (hA : Rd w A (ops.map (Value.int .i64))) :
    Calls Try.prog 4 #[.int .i64 n, .slice A ops.length c] w fun e w' => e = .returned (.bool true) ∧ Below w.heap.size w w' := by
  have hu29 := Try.underlying29; have hu27 := Try.underlying27; have hu25 := Try.underlying25
  have HB : Hid (Below w.heap.size w w) := Below.refl _ _
  have HN := Lib.hid (newS_yes hn)
  have HI := Lib.hid (TInv.start n hn)
  have HR := Lib.hid (room_in hn)
  have HA : Hid (Rd w A (ops.map (Value.int .i64))) := hA
  have hl' : ¬ (200 : Int) < (ops.length : Int) := by omega
  clear hn hA
  go_enter Try.func4, Try.ntmps4
  go_wp2_with fail
  refine (new15 n _).mono ?_
  rw [HN.out]
  rintro e w1 ⟨rfl, hb⟩
  (replace HB : Hid (Below w.heap.size w w1) := bCall (by repeat (first | (with_reducible exact HB.out) | (with_reducible apply bAl) | (with_reducible apply bDr) | (with_reducible apply bDrN) | ((with_reducible refine bSt ?_ ?_ _); (first | (with_reducible assumption) | omega | (simp <;> omega))))) hb); clear hb; (have := HB.out.size)
  dsimp only [ringVal, ent0, ev0, List.length_nil]
  clear HN
  have HK : Hid (w.heap.size ≤ w1.heap.size) := by assumption
  go_wp2_with fail
  go_loopw [7, 8, 9, 10] (fun put told left i wr => ∃ (k : Nat) (pt td : Int) (r : RingS), k ≤ ops.length ∧ put = .int .u64 pt ∧ told = .int .u64 td ∧ left = .int .i64 (pt - td) ∧ i = .int .i64 k ∧ TInv n r pt td k ∧ RingAt wr w1.heap.size w.heap.size r ∧ Below w.heap.size w wr) (fun _ _ _ i _ => ops.length - (intOf i).toNat)
  case atStart =>
    refine ⟨0, 0, 0, ⟨n, [], ent0⟩, by omega, rfl, rfl, rfl, rfl, HI.out, ⟨none, 0, Blk.newAt _ _ _ _ rfl, Nat.le_refl _, RdN.nil _ _ _⟩, ?_⟩
    repeat (first | (with_reducible exact HB.out) | (with_reducible apply bAl) | (with_reducible apply bDr) | (with_reducible apply bDrN) | ((with_reducible refine bSt ?_ ?_ _); (first | (with_reducible assumption) | omega | (simp <;> omega))))
  case round =>
    obtain ⟨k, pt, td, r, hk, rfl, rfl, rfl, rfl, hT, ⟨A0, c0', hB, hc, hRr⟩, hbel⟩ := hrel
    clear HB HI
    have HB : Hid (Below w.heap.size w wr) := hbel
    have hzr : w.heap.size ≤ wr.heap.size := hbel.size
    have B0 : Hid (Blk wr (w1.heap.size) _ _) := hB
    have c0 := hB.cell
    have f0 := hB.froz
    have l0 := hB.lt
    have m0 := hB.lt
    have HRr : Hid (r.L.length ≤ c0' ∧ RdN wr w.heap.size A0 (entCells r.L)) := ⟨hc, hRr⟩
    have HT : Hid (TInv n r pt td k) := hT
    have hpk := hT.pk
    have htd := hT.td0
    have hle := hT.le
    have hrl : r.L.length ≤ 1000 := by
      have h1 := ((ringIs_iff _).1 hT.is_).2.2.1
      rw [hT.room] at h1
      have h2 := HR.out.2
      omega
    by_cases hlt : k < ops.length
    · have hlt' : (k : Int) < (ops.length : Int) := by omega
      obtain ⟨b, o, rfl, hcell⟩ := HA.out.at_ (j := k) (u := .int .i64 ops[k]) (by simp [hlt])
      have hck0 : w.cell? ⟨b, o + k, none⟩ = some (.int .i64 ops[k]) := hcell k _ (by simp [hlt])
      have hck : wr.cell? ⟨b, o + k, none⟩ = some (.int .i64 ops[k]) := (hbel.cell (World.block_lt_of_cell? w _ hck0)).trans hck0
      clear hcell hck0 hbel hB hRr hc
      by_cases hop : 0 ≤ ops[k]
--PUT{
      · have hP : ∀ W A c, Rd W A (entCells r.L) → Calls Try.prog 17 #[.agg #[.int .i64 r.room, .slice A r.L.length c, .int .u64 r.gap.st, .int .u64 r.gap.e.sq, .int .i64 r.gap.e.tk, .int .i64 r.gap.e.pt, .int .i64 r.gap.e.kd, .int .i64 r.gap.e.a, .int .i64 r.gap.e.b], .agg #[.int .u64 pt, .int .u64 0, .int .i64 5, .int .i64 1, .int .i64 3, .int .i64 9, .int .i64 0]] W (PutPost W ((putS r (ent9 pt)).1, 0)) := by
          intro W A c h
          have := putR r (ent9 pt) A c W h hrl
          have h0 := (HT.out.put (by omega)).1
          rw [show putS r (ent9 pt) = ((putS r (ent9 pt)).1, 0) from by rw [← h0]] at this
          exact this
        obtain ⟨hp0, hT1, hp2⟩ := HT.out.put (by omega)
        generalize (putS r (ent9 pt)).1 = q at hP hT1 hp2
        have HP := Lib.hid hP
        have HT1 := Lib.hid hT1
        have hqi := hT1.is_
        have hq2 : ¬ (n : Int) < (q.L.length : Int) := by omega
        clear hP hT1 hp0 hp2 hT
        have e0 := Nat.ne_of_lt l0
        have e0' := Nat.ne_of_gt l0
        have HC : Hid (Below wr.heap.size wr wr) := Below.refl _ _
        go_wp2
        go_region_held3 (fun w' => w'.cell? ⟨w1.heap.size, 0, none⟩ = some (.int .i64 r.room) ∧ w'.cell? ⟨w1.heap.size, 1, none⟩ = some (.slice A0 r.L.length c0') ∧ w'.cell? ⟨w1.heap.size, 2, none⟩ = some (.int .u64 r.gap.st) ∧ w'.cell? ⟨w1.heap.size, 3, none⟩ = some (.int .u64 r.gap.e.sq) ∧ w'.cell? ⟨w1.heap.size, 4, none⟩ = some (.int .i64 r.gap.e.tk) ∧ w'.cell? ⟨w1.heap.size, 5, none⟩ = some (.int .i64 r.gap.e.pt) ∧ w'.cell? ⟨w1.heap.size, 6, none⟩ = some (.int .i64 r.gap.e.kd) ∧ w'.cell? ⟨w1.heap.size, 7, none⟩ = some (.int .i64 r.gap.e.a) ∧ w'.cell? ⟨w1.heap.size, 8, none⟩ = some (.int .i64 r.gap.e.b)) ((simp [go_sem, *]; done))
          (first
            | (go_at_call 23; refine (entry23 _ _).mono ?_; rintro e w2 ⟨rfl, hb⟩; (replace B0 : Hid (Blk w2 (w1.heap.size) _ _) := Blk.below (by repeat (first | (with_reducible exact B0.out) | ((with_reducible apply Blk.newAt); (first | (with_reducible rfl) | (simp <;> omega))) | (with_reducible apply Blk.alloc) | (with_reducible apply Blk.drew) | (with_reducible apply Blk.drewN) | (with_reducible apply Blk.set) | ((with_reducible apply Blk.setO); (first | (with_reducible assumption) | omega | (simp <;> omega))))) hb); (replace c0 := (B0.out).cell); (replace f0 := (B0.out).froz); (replace l0 := (B0.out).lt); (first | ((replace B11 : Hid (Blk w2 (wr.heap.size) _ _) := Blk.below (by repeat (first | (with_reducible exact B11.out) | ((with_reducible apply Blk.newAt); (first | (with_reducible rfl) | (simp <;> omega))) | (with_reducible apply Blk.alloc) | (with_reducible apply Blk.drew) | (with_reducible apply Blk.drewN) | (with_reducible apply Blk.set) | ((with_reducible apply Blk.setO); (first | (with_reducible assumption) | omega | (simp <;> omega))))) hb); (replace c11 := (B11.out).cell); (replace f11 := (B11.out).froz); (replace l11 := (B11.out).lt); (have m11 := l11)) | skip); (have m2 := l0); (have e2 := Nat.ne_of_lt l0); (have e2' := Nat.ne_of_gt l0); (replace HC : Hid (Below wr.heap.size wr w2) := bCall (by repeat (first | (with_reducible exact HC.out) | (with_reducible apply bAl) | (with_reducible apply bDr) | (with_reducible apply bDrN) | ((with_reducible refine bSt ?_ ?_ _); (first | (with_reducible assumption) | omega | (simp <;> omega))))) hb); (replace HB : Hid (Below w.heap.size w w2) := bCall (by repeat (first | (with_reducible exact HB.out) | (with_reducible apply bAl) | (with_reducible apply bDr) | (with_reducible apply bDrN) | ((with_reducible refine bSt ?_ ?_ _); (first | (with_reducible assumption) | omega | (simp <;> omega))))) hb); clear hb; (have := HB.out.size))
            | (go_at_call 17; refine (HP.out _ _ _ ?_).mono ?_; (exact HRr.out.2.rd.below (by repeat (first | (with_reducible exact HC.out) | (with_reducible apply bAl) | (with_reducible apply bDr) | (with_reducible apply bDrN) | ((with_reducible refine bSt ?_ ?_ _); (first | (with_reducible assumption) | omega | (simp <;> omega)))))); rintro e w3 ⟨A', c', rfl, hc', hR', hb⟩; dsimp only [ringVal]; (replace B0 : Hid (Blk w3 (w1.heap.size) _ _) := Blk.below (by repeat (first | (with_reducible exact B0.out) | ((with_reducible apply Blk.newAt); (first | (with_reducible rfl) | (simp <;> omega))) | (with_reducible apply Blk.alloc) | (with_reducible apply Blk.drew) | (with_reducible apply Blk.drewN) | (with_reducible apply Blk.set) | ((with_reducible apply Blk.setO); (first | (with_reducible assumption) | omega | (simp <;> omega))))) hb); (replace c0 := (B0.out).cell); (replace f0 := (B0.out).froz); (replace l0 := (B0.out).lt); (first | ((replace B11 : Hid (Blk w3 (wr.heap.size) _ _) := Blk.below (by repeat (first | (with_reducible exact B11.out) | ((with_reducible apply Blk.newAt); (first | (with_reducible rfl) | (simp <;> omega))) | (with_reducible apply Blk.alloc) | (with_reducible apply Blk.drew) | (with_reducible apply Blk.drewN) | (with_reducible apply Blk.set) | ((with_reducible apply Blk.setO); (first | (with_reducible assumption) | omega | (simp <;> omega))))) hb); (replace c11 := (B11.out).cell); (replace f11 := (B11.out).froz); (replace l11 := (B11.out).lt)) | ((replace B11 : Hid (Blk w3 (w2.heap.size) _ _) := Blk.below (by repeat (first | (with_reducible exact B11.out) | ((with_reducible apply Blk.newAt); (first | (with_reducible rfl) | (simp <;> omega))) | (with_reducible apply Blk.alloc) | (with_reducible apply Blk.drew) | (with_reducible apply Blk.drewN) | (with_reducible apply Blk.set) | ((with_reducible apply Blk.setO); (first | (with_reducible assumption) | omega | (simp <;> omega))))) hb); (replace c11 := (B11.out).cell); (replace f11 := (B11.out).froz); (replace l11 := (B11.out).lt)) | skip); (obtain ⟨lo, hlo, hRI⟩ := hR'.ex); (try simp at hlo); (have hlo2 : w2.heap.size ≤ lo := by omega); (have HR2 : Hid (q.L.length ≤ c' ∧ RdI w3 lo w3.heap.size A' (entCells q.L)) := ⟨hc', hRI⟩); clear hc' hR' hRI; (have e3 := Nat.ne_of_lt l0); (have e3' := Nat.ne_of_gt l0); (replace HB : Hid (Below w.heap.size w w3) := bCall (by repeat (first | (with_reducible exact HB.out) | (with_reducible apply bAl) | (with_reducible apply bDr) | (with_reducible apply bDrN) | ((with_reducible refine bSt ?_ ?_ _); (first | (with_reducible assumption) | omega | (simp <;> omega))))) hb); clear hb; (have := HB.out.size)))
        all_goals go_wp2_with fail
        all_goals (with_reducible refine (isT q A' c' _ HT1.out.is_).mono ?_)
        all_goals rintro e w4 ⟨rfl, hb⟩
        all_goals (replace B0 : Hid (Blk w4 (w1.heap.size) _ _) := Blk.below (by repeat (first | (with_reducible exact B0.out) | ((with_reducible apply Blk.newAt); (first | (with_reducible rfl) | (simp <;> omega))) | (with_reducible apply Blk.alloc) | (with_reducible apply Blk.drew) | (with_reducible apply Blk.drewN) | (with_reducible apply Blk.set) | ((with_reducible apply Blk.setO); (first | (with_reducible assumption) | omega | (simp <;> omega))))) hb); (replace c0 := (B0.out).cell); (replace f0 := (B0.out).froz); (replace l0 := (B0.out).lt)
        all_goals (first | ((replace B11 : Hid (Blk w4 (w3.heap.size) _ _) := Blk.below (by repeat (first | (with_reducible exact B11.out) | ((with_reducible apply Blk.newAt); (first | (with_reducible rfl) | (simp <;> omega))) | (with_reducible apply Blk.alloc) | (with_reducible apply Blk.drew) | (with_reducible apply Blk.drewN) | (with_reducible apply Blk.set) | ((with_reducible apply Blk.setO); (first | (with_reducible assumption) | omega | (simp <;> omega))))) hb); (replace c11 := (B11.out).cell); (replace f11 := (B11.out).froz); (replace l11 := (B11.out).lt)) | ((replace B11 : Hid (Blk w4 (w2.heap.size) _ _) := Blk.below (by repeat (first | (with_reducible exact B11.out) | ((with_reducible apply Blk.newAt); (first | (with_reducible rfl) | (simp <;> omega))) | (with_reducible apply Blk.alloc) | (with_reducible apply Blk.drew) | (with_reducible apply Blk.drewN) | (with_reducible apply Blk.set) | ((with_reducible apply Blk.setO); (first | (with_reducible assumption) | omega | (simp <;> omega))))) hb); (replace c11 := (B11.out).cell); (replace f11 := (B11.out).froz); (replace l11 := (B11.out).lt)) | ((replace B11 : Hid (Blk w4 (wr.heap.size) _ _) := Blk.below (by repeat (first | (with_reducible exact B11.out) | ((with_reducible apply Blk.newAt); (first | (with_reducible rfl) | (simp <;> omega))) | (with_reducible apply Blk.alloc) | (with_reducible apply Blk.drew) | (with_reducible apply Blk.drewN) | (with_reducible apply Blk.set) | ((with_reducible apply Blk.setO); (first | (with_reducible assumption) | omega | (simp <;> omega))))) hb); (replace c11 := (B11.out).cell); (replace f11 := (B11.out).froz); (replace l11 := (B11.out).lt)))
        all_goals (have HR3 : Hid (RdI w4 lo w3.heap.size A' (entCells q.L)) := RdI.below (by repeat (first | (with_reducible exact HR2.out.2) | (with_reducible apply RdI.alloc) | (with_reducible apply RdI.drew) | (with_reducible apply RdI.drewN) | ((with_reducible refine RdI.set ?_ ?_ _); (first | (with_reducible assumption) | omega | (simp <;> omega))))) hb (by simp <;> omega))
        all_goals (have HL3 := Lib.hid HR2.out.1)
        all_goals (replace HB : Hid (Below w.heap.size w w4) := bCall (by repeat (first | (with_reducible exact HB.out) | (with_reducible apply bAl) | (with_reducible apply bDr) | (with_reducible apply bDrN) | ((with_reducible refine bSt ?_ ?_ _); (first | (with_reducible assumption) | omega | (simp <;> omega))))) hb); clear hb; (have := HB.out.size)
        all_goals go_wp2
        all_goals
          refine ⟨⟨k + 1, pt + 1, td, q, by omega, rfl, rfl, by go_num, by go_num, HT1.out, ⟨A', c', ?_, HL3.out, ?_⟩, ?_⟩, by simp [intOf]; omega⟩
          · apply Blk.cast
            · repeat (first | (with_reducible exact B0.out) | ((with_reducible apply Blk.newAt); (first | (with_reducible rfl) | (simp <;> omega))) | (with_reducible apply Blk.alloc) | (with_reducible apply Blk.drew) | (with_reducible apply Blk.drewN) | (with_reducible apply Blk.set) | ((with_reducible apply Blk.setO); (first | (with_reducible assumption) | omega | (simp <;> omega))))
            · simp only [List.setIfInBounds_toArray, List.set_cons_zero, List.set_cons_succ]
          · refine RdI.rdn (hi := w3.heap.size) (RdI.lower (lo := lo) ?_ (by omega))
            repeat (first | (with_reducible exact HR3.out) | (with_reducible apply RdI.alloc) | (with_reducible apply RdI.drew) | (with_reducible apply RdI.drewN) | ((with_reducible refine RdI.set ?_ ?_ _); (first | (with_reducible assumption) | omega | (simp <;> omega))))
          · repeat (first | (with_reducible exact HB.out) | (with_reducible apply bAl) | (with_reducible apply bDr) | (with_reducible apply bDrN) | ((with_reducible refine bSt ?_ ?_ _); (first | (with_reducible assumption) | omega | (simp <;> omega))))
--PUT}
      · have hQ : ∀ W A c, Rd W A (entCells r.L) → r.L.length ≤ c → Calls Try.prog 24 #[.agg #[.int .i64 r.room, .slice A r.L.length c, .int .u64 r.gap.st, .int .u64 r.gap.e.sq, .int .i64 r.gap.e.tk, .int .i64 r.gap.e.pt, .int .i64 r.gap.e.kd, .int .i64 r.gap.e.a, .int .i64 r.gap.e.b]] W (TakePost W (takeS r)) := fun W A c h h' => takeR r A c W h h' hrl
        have hno := fun h => HT.out.takeNo h
        have hyes := fun h => HT.out.takeYes h
        generalize takeS r = t at hQ hno hyes
        obtain ⟨first, s, ok⟩ := t
        have HQ := Lib.hid hQ
        clear hQ hT
        cases ok with
        | false =>
          obtain rfl := hno rfl
          clear hno hyes
          go_wp2_with fail
          refine (HQ.out _ _ _ ?hA HRr.out.1).mono ?_
          case hA => exact HRr.out.2.rd
          rintro e w2 ⟨A', c', rfl, hc', hR', hb⟩
          dsimp only [ringVal, entVal]
          (replace B0 : Hid (Blk w2 (w1.heap.size) _ _) := Blk.below (by repeat (first | (with_reducible exact B0.out) | ((with_reducible apply Blk.newAt); (first | (with_reducible rfl) | (simp <;> omega))) | (with_reducible apply Blk.alloc) | (with_reducible apply Blk.drew) | (with_reducible apply Blk.drewN) | (with_reducible apply Blk.set) | ((with_reducible apply Blk.setO); (first | (with_reducible assumption) | omega | (simp <;> omega))))) hb); (replace c0 := (B0.out).cell); (replace f0 := (B0.out).froz); (replace l0 := (B0.out).lt)
          have HR3 : Hid (RdN w2 w.heap.size A0 (entCells r.L)) := HRr.out.2.below hb
          (replace HB : Hid (Below w.heap.size w w2) := bCall (by repeat (first | (with_reducible exact HB.out) | (with_reducible apply bAl) | (with_reducible apply bDr) | (with_reducible apply bDrN) | ((with_reducible refine bSt ?_ ?_ _); (first | (with_reducible assumption) | omega | (simp <;> omega))))) hb); clear hb; (have := HB.out.size)
          clear hc' hR'
          go_wp2
          refine ⟨⟨k + 1, pt, pt, r, by omega, rfl, rfl, by go_num, by go_num, HT.out.succ, ⟨A0, c0', ?_, HRr.out.1, ?_⟩, ?_⟩, by simp [intOf]; omega⟩
          · repeat (first | (with_reducible exact B0.out) | ((with_reducible apply Blk.newAt); (first | (with_reducible rfl) | (simp <;> omega))) | (with_reducible apply Blk.alloc) | (with_reducible apply Blk.drew) | (with_reducible apply Blk.drewN) | (with_reducible apply Blk.set) | ((with_reducible apply Blk.setO); (first | (with_reducible assumption) | omega | (simp <;> omega))))
          · repeat (first | (with_reducible exact HR3.out) | (with_reducible apply RdN.alloc) | (with_reducible apply RdN.drew) | ((with_reducible refine RdN.set ?_ ?_ _); (first | (with_reducible assumption) | omega | (simp <;> omega))))
          · repeat (first | (with_reducible exact HB.out) | (with_reducible apply bAl) | (with_reducible apply bDr) | (with_reducible apply bDrN) | ((with_reducible refine bSt ?_ ?_ _); (first | (with_reducible assumption) | omega | (simp <;> omega))))
        | true =>
          obtain ⟨hlt2, h2, h3, h4, h5⟩ := hyes rfl
          clear hno hyes
          obtain ⟨fs, fq, ft, fp, fk, fa, fb⟩ := first
          simp only at h2 h3 h4 h5
          subst h2 h3 h4
          have hg0 : 0 < pt - fs := by omega
          rcases h5 with ⟨rfl, h6, h7, h8⟩ | ⟨h6, h8⟩
          · have HT1 := Lib.hid h8
            clear h8
            go_wp2_with fail
            refine (HQ.out _ _ _ ?hA HRr.out.1).mono ?_
            case hA => exact HRr.out.2.rd
            rintro e w2 ⟨A', c', rfl, hc', hR', hb⟩
            dsimp only [ringVal, entVal]
            (replace B0 : Hid (Blk w2 (w1.heap.size) _ _) := Blk.below (by repeat (first | (with_reducible exact B0.out) | ((with_reducible apply Blk.newAt); (first | (with_reducible rfl) | (simp <;> omega))) | (with_reducible apply Blk.alloc) | (with_reducible apply Blk.drew) | (with_reducible apply Blk.drewN) | (with_reducible apply Blk.set) | ((with_reducible apply Blk.setO); (first | (with_reducible assumption) | omega | (simp <;> omega))))) hb); (replace c0 := (B0.out).cell); (replace f0 := (B0.out).froz); (replace l0 := (B0.out).lt)
            have HR3 : Hid (s.L.length ≤ c' ∧ RdI w2 wr.heap.size w2.heap.size A' (entCells s.L)) := ⟨hc', hR'.rdi⟩
            (replace HB : Hid (Below w.heap.size w w2) := bCall (by repeat (first | (with_reducible exact HB.out) | (with_reducible apply bAl) | (with_reducible apply bDr) | (with_reducible apply bDrN) | ((with_reducible refine bSt ?_ ?_ _); (first | (with_reducible assumption) | omega | (simp <;> omega))))) hb); clear hb; (have := HB.out.size)
            clear hc' hR'
            go_wp2
            refine ⟨⟨k + 1, pt, fs + fa, s, by omega, rfl, rfl, by go_num, by go_num, HT1.out, ⟨A', c', ?_, HR3.out.1, ?_⟩, ?_⟩, by simp [intOf]; omega⟩
            · apply Blk.cast
              · repeat (first | (with_reducible exact B0.out) | ((with_reducible apply Blk.newAt); (first | (with_reducible rfl) | (simp <;> omega))) | (with_reducible apply Blk.alloc) | (with_reducible apply Blk.drew) | (with_reducible apply Blk.drewN) | (with_reducible apply Blk.set) | ((with_reducible apply Blk.setO); (first | (with_reducible assumption) | omega | (simp <;> omega))))
              · simp only [List.setIfInBounds_toArray, List.set_cons_zero, List.set_cons_succ]
            · refine RdI.rdn (hi := w2.heap.size) (RdI.lower (lo := wr.heap.size) ?_ (by omega))
              repeat (first | (with_reducible exact HR3.out.2) | (with_reducible apply RdI.alloc) | (with_reducible apply RdI.drew) | (with_reducible apply RdI.drewN) | ((with_reducible refine RdI.set ?_ ?_ _); (first | (with_reducible assumption) | omega | (simp <;> omega))))
            · repeat (first | (with_reducible exact HB.out) | (with_reducible apply bAl) | (with_reducible apply bDr) | (with_reducible apply bDrN) | ((with_reducible refine bSt ?_ ?_ _); (first | (with_reducible assumption) | omega | (simp <;> omega))))
          · have HT1 := Lib.hid h8
            clear h8
            simp only [ent9, Ent.mk.injEq, Ev.mk.injEq, true_and, and_true] at h6
            obtain ⟨rfl, rfl, rfl, rfl⟩ := h6
            have hg1 : ¬ pt - fs < 1 := by omega
            go_wp2_with fail
            refine (HQ.out _ _ _ ?hA HRr.out.1).mono ?_
            case hA => exact HRr.out.2.rd
            rintro e w2 ⟨A', c', rfl, hc', hR', hb⟩
            dsimp only [ringVal, entVal]
            (replace B0 : Hid (Blk w2 (w1.heap.size) _ _) := Blk.below (by repeat (first | (with_reducible exact B0.out) | ((with_reducible apply Blk.newAt); (first | (with_reducible rfl) | (simp <;> omega))) | (with_reducible apply Blk.alloc) | (with_reducible apply Blk.drew) | (with_reducible apply Blk.drewN) | (with_reducible apply Blk.set) | ((with_reducible apply Blk.setO); (first | (with_reducible assumption) | omega | (simp <;> omega))))) hb); (replace c0 := (B0.out).cell); (replace f0 := (B0.out).froz); (replace l0 := (B0.out).lt)
            have HR3 : Hid (s.L.length ≤ c' ∧ RdI w2 wr.heap.size w2.heap.size A' (entCells s.L)) := ⟨hc', hR'.rdi⟩
            (replace HB : Hid (Below w.heap.size w w2) := bCall (by repeat (first | (with_reducible exact HB.out) | (with_reducible apply bAl) | (with_reducible apply bDr) | (with_reducible apply bDrN) | ((with_reducible refine bSt ?_ ?_ _); (first | (with_reducible assumption) | omega | (simp <;> omega))))) hb); clear hb; (have := HB.out.size)
            clear hc' hR'
            go_wp2_with fail
            go_region_held3 (fun w' => w'.cell? ⟨w2.heap.size, 0, none⟩ = some (.int .u64 fs) ∧ w'.cell? ⟨w2.heap.size, 1, none⟩ = some (.int .u64 0) ∧ w'.cell? ⟨w2.heap.size, 2, none⟩ = some (.int .i64 5) ∧ w'.cell? ⟨w2.heap.size, 3, none⟩ = some (.int .i64 1) ∧ w'.cell? ⟨w2.heap.size, 4, none⟩ = some (.int .i64 3) ∧ w'.cell? ⟨w2.heap.size, 5, none⟩ = some (.int .i64 9) ∧ w'.cell? ⟨w2.heap.size, 6, none⟩ = some (.int .i64 0)) ((simp [go_sem, *]; done))
              (first | (go_at_call 23; refine (entry23 _ _).mono ?_; rintro e w3 ⟨rfl, hb⟩; (replace B0 : Hid (Blk w3 (w1.heap.size) _ _) := Blk.below (by repeat (first | (with_reducible exact B0.out) | ((with_reducible apply Blk.newAt); (first | (with_reducible rfl) | (simp <;> omega))) | (with_reducible apply Blk.alloc) | (with_reducible apply Blk.drew) | (with_reducible apply Blk.drewN) | (with_reducible apply Blk.set) | ((with_reducible apply Blk.setO); (first | (with_reducible assumption) | omega | (simp <;> omega))))) hb); (replace c0 := (B0.out).cell); (replace f0 := (B0.out).froz); (replace l0 := (B0.out).lt); (replace B13 : Hid (Blk w3 (w2.heap.size) _ _) := Blk.below (by repeat (first | (with_reducible exact B13.out) | ((with_reducible apply Blk.newAt); (first | (with_reducible rfl) | (simp <;> omega))) | (with_reducible apply Blk.alloc) | (with_reducible apply Blk.drew) | (with_reducible apply Blk.drewN) | (with_reducible apply Blk.set) | ((with_reducible apply Blk.setO); (first | (with_reducible assumption) | omega | (simp <;> omega))))) hb); (replace c13 := (B13.out).cell); (replace f13 := (B13.out).froz); (replace l13 := (B13.out).lt); (replace B14 : Hid (Blk w3 (w2.heap.size + 1) _ _) := Blk.below (by repeat (first | (with_reducible exact B14.out) | ((with_reducible apply Blk.newAt); (first | (with_reducible rfl) | (simp <;> omega))) | (with_reducible apply Blk.alloc) | (with_reducible apply Blk.drew) | (with_reducible apply Blk.drewN) | (with_reducible apply Blk.set) | ((with_reducible apply Blk.setO); (first | (with_reducible assumption) | omega | (simp <;> omega))))) hb); (replace c14 := (B14.out).cell); (replace f14 := (B14.out).froz); (replace l14 := (B14.out).lt); (have HR4 : Hid (RdI w3 wr.heap.size w2.heap.size A' (entCells s.L)) := RdI.below (by repeat (first | (with_reducible exact HR3.out.2) | (with_reducible apply RdI.alloc) | (with_reducible apply RdI.drew) | (with_reducible apply RdI.drewN) | ((with_reducible refine RdI.set ?_ ?_ _); (first | (with_reducible assumption) | omega | (simp <;> omega))))) hb (by simp <;> omega)); (replace HB : Hid (Below w.heap.size w w3) := bCall (by repeat (first | (with_reducible exact HB.out) | (with_reducible apply bAl) | (with_reducible apply bDr) | (with_reducible apply bDrN) | ((with_reducible refine bSt ?_ ?_ _); (first | (with_reducible assumption) | omega | (simp <;> omega))))) hb); clear hb; (have := HB.out.size)))
            all_goals go_wp2
            · exfalso
              rename_i h
              simp [entEq] at h
            · refine ⟨⟨k + 1, pt, fs + 1, s, by omega, rfl, rfl, by go_num, by go_num, HT1.out, ⟨A', c', ?_, HR3.out.1, ?_⟩, ?_⟩, by simp [intOf]; omega⟩
              · apply Blk.cast
                · repeat (first | (with_reducible exact B0.out) | ((with_reducible apply Blk.newAt); (first | (with_reducible rfl) | (simp <;> omega))) | (with_reducible apply Blk.alloc) | (with_reducible apply Blk.drew) | (with_reducible apply Blk.drewN) | (with_reducible apply Blk.set) | ((with_reducible apply Blk.setO); (first | (with_reducible assumption) | omega | (simp <;> omega))))
                · simp only [List.setIfInBounds_toArray, List.set_cons_zero, List.set_cons_succ]
              · refine RdI.rdn (hi := w2.heap.size) (RdI.lower (lo := wr.heap.size) ?_ (by omega))
                repeat (first | (with_reducible exact HR4.out) | (with_reducible apply RdI.alloc) | (with_reducible apply RdI.drew) | (with_reducible apply RdI.drewN) | ((with_reducible refine RdI.set ?_ ?_ _); (first | (with_reducible assumption) | omega | (simp <;> omega))))
              · repeat (first | (with_reducible exact HB.out) | (with_reducible apply bAl) | (with_reducible apply bDr) | (with_reducible apply bDrN) | ((with_reducible refine bSt ?_ ?_ _); (first | (with_reducible assumption) | omega | (simp <;> omega))))
    · clear hB hRr hc hT
      have HAL : ∀ W A c, Rd W A (entCells r.L) → r.L.length ≤ c → Calls Try.prog 25 #[.agg #[.int .i64 r.room, .slice A r.L.length c, .int .u64 r.gap.st, .int .u64 r.gap.e.sq, .int .i64 r.gap.e.tk, .int .i64 r.gap.e.pt, .int .i64 r.gap.e.kd, .int .i64 r.gap.e.a, .int .i64 r.gap.e.b]] W (AllPost W (allS r)) := fun W A c h h' => allR r A c W h h' hrl
      have HCH := HT.out.ch
      have HLN : (allS r).length ≤ 1000 := by
        have h1 := allS_len r
        have h2 := ((ringIs_iff _).1 HT.out.is_).2.2.1
        rw [HT.out.room] at h2
        have := HR.out.2
        omega
      generalize allS r = l at HAL HCH HLN
      have HAL' := Lib.hid HAL
      have HCH' := Lib.hid HCH
      clear HAL HCH
      go_wp2_with fail
      refine (HAL'.out _ _ _ ?hA HRr.out.1).mono ?_
      case hA => exact HRr.out.2.rd
      rintro e w2 ⟨A', c', rfl, hc', hR', hb⟩
      have HR3 : Hid (Rd w2 A' (entCells l)) := hR'.rd
      (replace HB : Hid (Below w.heap.size w w2) := bCall (by repeat (first | (with_reducible exact HB.out) | (with_reducible apply bAl) | (with_reducible apply bDr) | (with_reducible apply bDrN) | ((with_reducible refine bSt ?_ ?_ _); (first | (with_reducible assumption) | omega | (simp <;> omega))))) hb); clear hb; (have := HB.out.size)
      clear hc' hR'
      go_wp2_with fail
      go_loopw [8, 18] (fun told i wr => ∃ (j : Nat) (t : Int), j ≤ l.length ∧ told = .int .u64 t ∧ i = .int .i64 j ∧ td ≤ t ∧ chain (l.drop j) t pt ∧ wr = w2) (fun _ i _ => l.length - (intOf i).toNat)
      case atStart => exact ⟨0, td, by omega, rfl, rfl, Int.le_refl _, HCH'.out, rfl⟩
      case round =>
        obtain ⟨j, t, hj, rfl, rfl, ht, hch, rfl⟩ := hrel
        by_cases hjl : j < l.length
        · have hjl' : (j : Int) < (l.length : Int) := by omega
          obtain ⟨b2, o2, rfl, a0, a1, a2, a3, a4, a5, a6⟩ := HR3.out.ent j hjl
          rw [List.drop_eq_getElem_cons hjl] at hch
          generalize l[j] = x at a0 a1 a2 a3 a4 a5 a6 hch
          obtain ⟨fs, fq, ft, fp, fk, fa, fb⟩ := x
          obtain ⟨h1, h2, h3, h4⟩ := hch
          simp only at h1 h2 h3 h4 a0 a1 a2 a3 a4 a5 a6
          subst h1 h2 h3
          rcases h4 with ⟨rfl, h5, h6⟩ | ⟨h5, h6⟩
          · have := chain_le _ _ _ h6
            go_wp2
            exact ⟨⟨j + 1, fs + fa, by omega, rfl, by go_num, by omega, h6, trivial⟩, by simp [intOf]; omega⟩
          · have := chain_le _ _ _ h6
            simp only [ent9, Ent.mk.injEq, Ev.mk.injEq, true_and, and_true] at h5
            obtain ⟨rfl, rfl, rfl, rfl⟩ := h5
            go_wp2
            exact ⟨⟨j + 1, fs + 1, by omega, rfl, by go_num, by omega, h6, trivial⟩, by simp [intOf]; omega⟩
        · have hjj : j = l.length := by omega
          subst hjj
          rw [List.drop_length] at hch
          obtain rfl : t = pt := hch
          go_wp2_with fail
          refine (ringed19 _).mono ?_
          rintro e w3 ⟨rfl, hb⟩
          (replace HB : Hid (Below w.heap.size w w3) := bCall (by repeat (first | (with_reducible exact HB.out) | (with_reducible apply bAl) | (with_reducible apply bDr) | (with_reducible apply bDrN) | ((with_reducible refine bSt ?_ ?_ _); (first | (with_reducible assumption) | omega | (simp <;> omega))))) hb); clear hb; (have := HB.out.size)
          go_wp2
          go_ret
          refine ⟨rfl, ?_⟩
          repeat (first | (with_reducible exact HB.out) | (with_reducible apply bAl) | (with_reducible apply bDr) | (with_reducible apply bDrN) | ((with_reducible refine bSt ?_ ?_ _); (first | (with_reducible assumption) | omega | (simp <;> omega))))
theorem ringTells4 (n : Int) (A : Option Addr) (c : Nat) (ops : List Int) (w : World) (hA : Rd w A (ops.map (Value.int .i64))) :
    Calls Try.prog 4 #[.int .i64 n, .slice A ops.length c] w fun e w' => e = .returned (.bool true) ∧ Below w.heap.size w w' := by
  cases hn : roomB n
  · exact tellsNo n A ops.length c w hn
  · by_cases hl : ops.length ≤ 200
    · exact tellsYes n A c ops w hn hl hA
    · exact tellsLong n A ops.length c w hn (by omega)
end Go.Proofs.Ytlegpbookbghbaa
