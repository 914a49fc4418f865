/- The rings' example (ringed) answers true: the walk; no condition. -/
import Derived.Test.YtlegpbookbghbaaB0
set_option linter.unusedVariables false
set_option linter.unusedSimpArgs false
namespace Go.Proofs.Ytlegpbookbghbaa
open Go.RowKit
attribute [local go_sem high] eqIn27

def ent9 (s : Int) : Ent := ⟨s, ⟨0, 5, 1, 3, 9, 0⟩⟩
def rgS : Nat → RingS
  | 0 => ⟨2, [], ent0⟩
  | k + 1 => (putS (rgS k) (ent9 (k + 1))).1
theorem rgS_step (k : Nat) (hk : k < 4) : putS (rgS k) (ent9 (k + 1)) = (rgS (k + 1), 0) := by
  have : ∀ k, k < 4 → putS (rgS k) (ent9 ((k : Nat) + 1)) = (rgS (k + 1), 0) := by decide
  exact this k hk
theorem rgS_four : rgS 4 = ⟨2, [ent9 1, ent9 2], ⟨3, ⟨0, 5, 1, 7, 2, 0⟩⟩⟩ := by decide
theorem rgS_len (k : Nat) (hk : k ≤ 4) : (rgS k).L.length ≤ 1000 := by
  have : ∀ k, k < 5 → (rgS k).L.length ≤ 1000 := by decide
  exact this k (by omega)
theorem newS_two : newS 2 = (⟨2, [], ent0⟩, 0) := by decide

def gap3 : Ent := ⟨3, ⟨0, 5, 1, 7, 2, 0⟩⟩
set_option maxRecDepth 100000 in set_option maxHeartbeats 4000000 in
theorem exAll (A : Option Addr) (c : Nat) (W : World) (h : Rd W A (entCells [ent9 1, ent9 2])) (hc : 2 ≤ c) :
    Calls Try.prog 25 #[.agg #[.int .i64 2, .slice A 2 c, .int .u64 3, .int .u64 0, .int .i64 5, .int .i64 1, .int .i64 7, .int .i64 2, .int .i64 0]] W (AllPost W [ent9 1, ent9 2, gap3]) := by
  have hv : allS ⟨2, [ent9 1, ent9 2], ⟨3, ⟨0, 5, 1, 7, 2, 0⟩⟩⟩ = [ent9 1, ent9 2, gap3] := by decide
  rw [← hv]
  exact all25 2 A c [ent9 1, ent9 2] 3 0 5 1 7 2 0 W h hc (by decide)
set_option maxRecDepth 100000 in set_option maxHeartbeats 4000000 in
theorem exTake (A : Option Addr) (c : Nat) (W : World) (h : Rd W A (entCells [ent9 1, ent9 2])) (hc : 2 ≤ c) :
    Calls Try.prog 24 #[.agg #[.int .i64 2, .slice A 2 c, .int .u64 3, .int .u64 0, .int .i64 5, .int .i64 1, .int .i64 7, .int .i64 2, .int .i64 0]] W (TakePost W (ent9 1, ⟨2, [ent9 2], gap3⟩, true)) := by
  have hv : takeS ⟨2, [ent9 1, ent9 2], ⟨3, ⟨0, 5, 1, 7, 2, 0⟩⟩⟩ = (ent9 1, ⟨2, [ent9 2], gap3⟩, true) := by decide
  rw [← hv]
  exact take24 2 A c [ent9 1, ent9 2] 3 0 5 1 7 2 0 W h hc (by decide)
set_option maxRecDepth 100000 in set_option maxHeartbeats 4000000 in
theorem exHead (A : Option Addr) (c : Nat) (W : World) (h : Rd W A (entCells [ent9 2])) (hc : 1 ≤ c) :
    Calls Try.prog 58 #[.agg #[.int .i64 2, .slice A 1 c, .int .u64 3, .int .u64 0, .int .i64 5, .int .i64 1, .int .i64 7, .int .i64 2, .int .i64 0]] W fun e w' => e = .returned (.tuple #[.int .u64 2, .bool true]) ∧ Below W.heap.size W w' := by
  have hv : headS ⟨2, [ent9 2], ⟨3, ⟨0, 5, 1, 7, 2, 0⟩⟩⟩ = (2, true) := by decide
  have := head58 2 A c [ent9 2] 3 0 5 1 7 2 0 W h hc (by decide)
  rw [hv] at this
  exact this
set_option maxRecDepth 100000 in set_option maxHeartbeats 4000000 in
theorem exNew (W : World) : Calls Try.prog 15 #[.int .i64 1] W (NewPost W (ring0, 2)) := by
  have hv : newS 1 = (ring0, 2) := by decide
  rw [← hv]
  exact new15 1 W
set_option maxRecDepth 100000 in set_option maxHeartbeats 4000000 in
theorem exPut (W : World) : Calls Try.prog 17 #[.agg #[.int .i64 0, .slice none 0 0, .int .u64 0, .int .u64 0, .int .i64 0, .int .i64 0, .int .i64 0, .int .i64 0, .int .i64 0], .agg #[.int .u64 1, .int .u64 0, .int .i64 5, .int .i64 1, .int .i64 3, .int .i64 9, .int .i64 0]] W (PutPost W (ring0, 1)) := by
  have hv : putS ⟨0, [], ⟨0, ⟨0, 0, 0, 0, 0, 0⟩⟩⟩ ⟨1, ⟨0, 5, 1, 3, 9, 0⟩⟩ = (ring0, 1) := by decide
  rw [← hv]
  exact put17 0 none 0 [] 0 0 0 0 0 0 0 1 0 5 1 3 9 0 W (Rd.nil _ _) (by decide)
set_option maxRecDepth 100000 in set_option maxHeartbeats 4000000 in
theorem exEntries (A : Option Addr) (c : Nat) (S : Option Addr) (W : World) (h : Rd W A (entCells [ent9 1, ent9 2, gap3])) (hS : Rd W S (entCells [ent9 1, ent9 2, gap3])) :
    Calls Try.prog 26 #[.slice A 3 c, .slice S 3 3] W fun e w' => e = .returned (.bool true) ∧ Below W.heap.size W w' :=
  entries26 A c [ent9 1, ent9 2, gap3] S 3 [ent9 1, ent9 2, gap3] W h hS (by decide) (by decide)
set_option maxRecDepth 100000 in set_option maxHeartbeats 4000000 in
theorem exIs (A : Option Addr) (c : Nat) (W : World) : Calls Try.prog 21 #[.agg #[.int .i64 2, .slice A 2 c, .int .u64 3, .int .u64 0, .int .i64 5, .int .i64 1, .int .i64 7, .int .i64 2, .int .i64 0]] W fun e w' => e = .returned (.bool true) ∧ Below W.heap.size W w' := by
  have hv : ringIsN 2 2 ⟨3, ⟨0, 5, 1, 7, 2, 0⟩⟩ = true := by decide
  rw [← hv]
  exact ringIs21 2 A 2 c 3 0 5 1 7 2 0 W
def RingAt (w : World) (kb : Nat) (B : Nat) (r : RingS) : Prop :=
  ∃ A c, Blk w kb #[.int .i64 r.room, .slice A r.L.length c, .int .u64 r.gap.st, .int .u64 r.gap.e.sq, .int .i64 r.gap.e.tk, .int .i64 r.gap.e.pt, .int .i64 r.gap.e.kd, .int .i64 r.gap.e.a, .int .i64 r.gap.e.b] 29 ∧ r.L.length ≤ c ∧ RdN w B A (entCells r.L)
set_option maxRecDepth 100000 in set_option maxHeartbeats 4000000 in
theorem ringed19 (w : World) : Calls Try.prog 19 #[] w fun e w' => e = .returned (.bool true) ∧ Below w.heap.size w w' := by
  have hu29 := Try.underlying29; have hu27 := Try.underlying27; have hu25 := Try.underlying25
  have HB : Hid (Below w.heap.size w w) := Below.refl _ _
  have hn := newS_two
  have HN := Lib.hid hn
  clear hn
  go_enter Try.func19, Try.ntmps19
  go_wp2_with fail
  refine (new15 2 _).mono ?_
  rw [HN.out]
  rintro e w1 ⟨rfl, hb⟩
  (replace HB : Hid (Below w.heap.size w w1) := bCall (by repeat (first | (with_reducible exact HB.out) | (with_reducible apply bAl) | (with_reducible apply bDr) | (with_reducible apply bDrN) | ((with_reducible refine bSt ?_ ?_ _); (first | (with_reducible assumption) | omega | (simp <;> omega))))) hb); clear hb; (have := HB.out.size)
  dsimp only [ringVal, ent0, ev0, List.length_nil]
  go_wp2_with fail
  go_loopw [3, 4] (fun f i wr => ∃ k : Nat, k ≤ 4 ∧ f = .int .i64 0 ∧ i = .int .u64 ((k : Int) + 1) ∧ RingAt wr w1.heap.size w.heap.size (rgS k) ∧ Below w.heap.size w wr) (fun _ i _ => 5 - (intOf i).toNat)
  case atStart =>
    refine ⟨0, by omega, rfl, rfl, ⟨none, 0, Blk.newAt _ _ _ _ rfl, Nat.le_refl _, RdN.nil _ _ _⟩, ?_⟩
    repeat (first | (with_reducible exact HB.out) | (with_reducible apply bAl) | (with_reducible apply bDr) | (with_reducible apply bDrN) | ((with_reducible refine bSt ?_ ?_ _); (first | (with_reducible assumption) | omega | (simp <;> omega))))
  case round =>
    obtain ⟨k, hk, rfl, rfl, ⟨A, c, hB, hc, hR⟩, hbel⟩ := hrel
    clear HB
    have HB : Hid (Below w.heap.size w wr) := hbel
    have hzr : w.heap.size ≤ wr.heap.size := hbel.size
    have HK : Hid (w.heap.size ≤ w1.heap.size) := by assumption
    have B0 : Hid (Blk wr (w1.heap.size) _ _) := hB
    have c0 := hB.cell
    have f0 := hB.froz
    have l0 := hB.lt
    have HR : Hid ((rgS k).L.length ≤ c ∧ RdN wr w.heap.size A (entCells (rgS k).L)) := ⟨hc, hR⟩
    clear hbel hB hc hR
    by_cases hlt : k < 4
    · have hP : ∀ W, Rd W A (entCells (rgS k).L) → Calls Try.prog 17 #[.agg #[.int .i64 (rgS k).room, .slice A (rgS k).L.length c, .int .u64 (rgS k).gap.st, .int .u64 (rgS k).gap.e.sq, .int .i64 (rgS k).gap.e.tk, .int .i64 (rgS k).gap.e.pt, .int .i64 (rgS k).gap.e.kd, .int .i64 (rgS k).gap.e.a, .int .i64 (rgS k).gap.e.b], .agg #[.int .u64 ((k : Int) + 1), .int .u64 0, .int .i64 5, .int .i64 1, .int .i64 3, .int .i64 9, .int .i64 0]] W (PutPost W (rgS (k + 1), 0)) := by
        intro W hW
        rw [← rgS_step k hlt]
        exact put17 (rgS k).room A c (rgS k).L (rgS k).gap.st (rgS k).gap.e.sq (rgS k).gap.e.tk (rgS k).gap.e.pt (rgS k).gap.e.kd (rgS k).gap.e.a (rgS k).gap.e.b ((k : Int) + 1) 0 5 1 3 9 0 W hW (rgS_len k hk)
      have HP := Lib.hid hP
      clear hP
      have hi1 : ((k : Int) + 1) ≤ 4 := by omega
      have e0 := Nat.ne_of_lt l0
      have e0' := Nat.ne_of_gt l0
      have HC : Hid (Below wr.heap.size wr wr) := Below.refl _ _
      go_wp2
      go_region_held3 (fun w' => w'.cell? ⟨w1.heap.size, 0, none⟩ = some (.int .i64 (rgS k).room) ∧ w'.cell? ⟨w1.heap.size, 1, none⟩ = some (.slice A (rgS k).L.length c) ∧ w'.cell? ⟨w1.heap.size, 2, none⟩ = some (.int .u64 (rgS k).gap.st) ∧ w'.cell? ⟨w1.heap.size, 3, none⟩ = some (.int .u64 (rgS k).gap.e.sq) ∧ w'.cell? ⟨w1.heap.size, 4, none⟩ = some (.int .i64 (rgS k).gap.e.tk) ∧ w'.cell? ⟨w1.heap.size, 5, none⟩ = some (.int .i64 (rgS k).gap.e.pt) ∧ w'.cell? ⟨w1.heap.size, 6, none⟩ = some (.int .i64 (rgS k).gap.e.kd) ∧ w'.cell? ⟨w1.heap.size, 7, none⟩ = some (.int .i64 (rgS k).gap.e.a) ∧ w'.cell? ⟨w1.heap.size, 8, none⟩ = some (.int .i64 (rgS k).gap.e.b)) ((simp [go_sem, *]; done))
        (first
          | (go_at_call 23; refine (entry23 _ _).mono ?_; rintro e w2 ⟨rfl, hb⟩; (replace B0 : Hid (Blk w2 (w1.heap.size) _ _) := Blk.below (by repeat (first | (with_reducible exact B0.out) | ((with_reducible apply Blk.newAt); (first | (with_reducible rfl) | (simp <;> omega))) | (with_reducible apply Blk.alloc) | (with_reducible apply Blk.drew) | (with_reducible apply Blk.drewN) | (with_reducible apply Blk.set) | ((with_reducible apply Blk.setO); (first | (with_reducible assumption) | omega | (simp <;> omega))))) hb); (replace c0 := (B0.out).cell); (replace f0 := (B0.out).froz); (replace l0 := (B0.out).lt); (first | ((replace B5 : Hid (Blk w2 (wr.heap.size) _ _) := Blk.below (by repeat (first | (with_reducible exact B5.out) | ((with_reducible apply Blk.newAt); (first | (with_reducible rfl) | (simp <;> omega))) | (with_reducible apply Blk.alloc) | (with_reducible apply Blk.drew) | (with_reducible apply Blk.drewN) | (with_reducible apply Blk.set) | ((with_reducible apply Blk.setO); (first | (with_reducible assumption) | omega | (simp <;> omega))))) hb); (replace c5 := (B5.out).cell); (replace f5 := (B5.out).froz); (replace l5 := (B5.out).lt); (have m5 := l5)) | skip); (have m2 := l0); (have e2 := Nat.ne_of_lt l0); (have e2' := Nat.ne_of_gt l0); (replace HC : Hid (Below wr.heap.size wr w2) := bCall (by repeat (first | (with_reducible exact HC.out) | (with_reducible apply bAl) | (with_reducible apply bDr) | (with_reducible apply bDrN) | ((with_reducible refine bSt ?_ ?_ _); (first | (with_reducible assumption) | omega | (simp <;> omega))))) hb); (replace HB : Hid (Below w.heap.size w w2) := bCall (by repeat (first | (with_reducible exact HB.out) | (with_reducible apply bAl) | (with_reducible apply bDr) | (with_reducible apply bDrN) | ((with_reducible refine bSt ?_ ?_ _); (first | (with_reducible assumption) | omega | (simp <;> omega))))) hb); clear hb; (have := HB.out.size))
          | (go_at_call 17; refine (HP.out _ ?_).mono ?_; (exact HR.out.2.rd.below (by repeat (first | (with_reducible exact HC.out) | (with_reducible apply bAl) | (with_reducible apply bDr) | (with_reducible apply bDrN) | ((with_reducible refine bSt ?_ ?_ _); (first | (with_reducible assumption) | omega | (simp <;> omega)))))); rintro e w3 ⟨A', c', rfl, hc', hR', hb⟩; dsimp only [ringVal]; (replace B0 : Hid (Blk w3 (w1.heap.size) _ _) := Blk.below (by repeat (first | (with_reducible exact B0.out) | ((with_reducible apply Blk.newAt); (first | (with_reducible rfl) | (simp <;> omega))) | (with_reducible apply Blk.alloc) | (with_reducible apply Blk.drew) | (with_reducible apply Blk.drewN) | (with_reducible apply Blk.set) | ((with_reducible apply Blk.setO); (first | (with_reducible assumption) | omega | (simp <;> omega))))) hb); (replace c0 := (B0.out).cell); (replace f0 := (B0.out).froz); (replace l0 := (B0.out).lt); (first | ((replace B5 : Hid (Blk w3 (wr.heap.size) _ _) := Blk.below (by repeat (first | (with_reducible exact B5.out) | ((with_reducible apply Blk.newAt); (first | (with_reducible rfl) | (simp <;> omega))) | (with_reducible apply Blk.alloc) | (with_reducible apply Blk.drew) | (with_reducible apply Blk.drewN) | (with_reducible apply Blk.set) | ((with_reducible apply Blk.setO); (first | (with_reducible assumption) | omega | (simp <;> omega))))) hb); (replace c5 := (B5.out).cell); (replace f5 := (B5.out).froz); (replace l5 := (B5.out).lt)) | ((replace B5 : Hid (Blk w3 (w2.heap.size) _ _) := Blk.below (by repeat (first | (with_reducible exact B5.out) | ((with_reducible apply Blk.newAt); (first | (with_reducible rfl) | (simp <;> omega))) | (with_reducible apply Blk.alloc) | (with_reducible apply Blk.drew) | (with_reducible apply Blk.drewN) | (with_reducible apply Blk.set) | ((with_reducible apply Blk.setO); (first | (with_reducible assumption) | omega | (simp <;> omega))))) hb); (replace c5 := (B5.out).cell); (replace f5 := (B5.out).froz); (replace l5 := (B5.out).lt)) | skip); (obtain ⟨lo, hlo, hRI⟩ := hR'.ex); (try simp at hlo); (have hlo2 : w2.heap.size ≤ lo := by omega); (have HR2 : Hid ((rgS (k + 1)).L.length ≤ c' ∧ RdI w3 lo w3.heap.size A' (entCells (rgS (k + 1)).L)) := ⟨hc', hRI⟩); clear hc' hR' hRI; (have e3 := Nat.ne_of_lt l0); (have e3' := Nat.ne_of_gt l0); (replace HB : Hid (Below w.heap.size w w3) := bCall (by repeat (first | (with_reducible exact HB.out) | (with_reducible apply bAl) | (with_reducible apply bDr) | (with_reducible apply bDrN) | ((with_reducible refine bSt ?_ ?_ _); (first | (with_reducible assumption) | omega | (simp <;> omega))))) hb); clear hb; (have := HB.out.size)))
      all_goals go_wp2
      all_goals
        go_roundw
        case rel =>
          refine ⟨k + 1, by omega, rfl, by go_num, ⟨A', c', ?_, HR2.out.1, ?_⟩, ?_⟩
          · apply Blk.cast
            · repeat (first | (with_reducible exact B0.out) | ((with_reducible apply Blk.newAt); (first | (with_reducible rfl) | (simp <;> omega))) | (with_reducible apply Blk.alloc) | (with_reducible apply Blk.drew) | (with_reducible apply Blk.drewN) | (with_reducible apply Blk.set) | ((with_reducible apply Blk.setO); (first | (with_reducible assumption) | omega | (simp <;> omega))))
            · simp only [List.setIfInBounds_toArray, List.set_cons_zero, List.set_cons_succ]
          · refine RdI.rdn (hi := w3.heap.size) (RdI.lower (lo := lo) ?_ (by omega))
            repeat (first | (with_reducible exact HR2.out.2) | (with_reducible apply RdI.alloc) | (with_reducible apply RdI.drew) | (with_reducible apply RdI.drewN) | ((with_reducible refine RdI.set ?_ ?_ _); (first | (with_reducible assumption) | omega | (simp <;> omega))))
          · repeat (first | (with_reducible exact HB.out) | (with_reducible apply bAl) | (with_reducible apply bDr) | (with_reducible apply bDrN) | ((with_reducible refine bSt ?_ ?_ _); (first | (with_reducible assumption) | omega | (simp <;> omega))))
        case measure => simp [intOf]; omega
    · have hi1 : ¬ ((k : Int) + 1) ≤ 4 := by omega
      obtain rfl : k = 4 := by omega
      have hB := B0.out
      have hR := HR.out
      rw [rgS_four] at hB hR
      dsimp only [List.length_cons, List.length_nil] at hB hR
      clear B0 c0 f0 l0 HR
      have B0 : Hid (Blk wr (w1.heap.size) _ _) := hB
      have c0 := hB.cell
      have f0 := hB.froz
      have l0 := hB.lt
      have HR : Hid (2 ≤ c ∧ RdI wr w.heap.size wr.heap.size A (entCells [ent9 1, ent9 2])) := ⟨hR.1, hR.2.rdi⟩
      clear hB hR hlt hk
      go_wp2_with fail
      refine (exAll A c _ ?hA HR.out.1).mono ?_
      case hA => exact HR.out.2.rd
      rintro e w2 ⟨A2, c2', rfl, hc2, hR2, hb⟩
      (replace B0 : Hid (Blk w2 (w1.heap.size) _ _) := Blk.below (by repeat (first | (with_reducible exact B0.out) | ((with_reducible apply Blk.newAt); (first | (with_reducible rfl) | (simp <;> omega))) | (with_reducible apply Blk.alloc) | (with_reducible apply Blk.drew) | (with_reducible apply Blk.drewN) | (with_reducible apply Blk.set) | ((with_reducible apply Blk.setO); (first | (with_reducible assumption) | omega | (simp <;> omega))))) hb); (replace c0 := (B0.out).cell); (replace f0 := (B0.out).froz); (replace l0 := (B0.out).lt)
      have HR2 : Hid (3 ≤ c2' ∧ RdI w2 wr.heap.size w2.heap.size A2 (entCells [ent9 1, ent9 2, gap3])) := ⟨hc2, hR2.rdi⟩
      have HR' : Hid (RdI w2 w.heap.size wr.heap.size A (entCells [ent9 1, ent9 2])) := HR.out.2.below hb (Nat.le_refl _)
      clear hc2 hR2
      (replace HB : Hid (Below w.heap.size w w2) := bCall (by repeat (first | (with_reducible exact HB.out) | (with_reducible apply bAl) | (with_reducible apply bDr) | (with_reducible apply bDrN) | ((with_reducible refine bSt ?_ ?_ _); (first | (with_reducible assumption) | omega | (simp <;> omega))))) hb); clear hb; (have := HB.out.size)
      go_wp2_with fail
      refine (exTake A c _ ?hA HR.out.1).mono ?_
      case hA => exact HR'.out.rd
      rintro e w3 ⟨A3, c3', rfl, hc3, hR3, hb⟩
      dsimp only [ringVal, entVal, ent9, gap3, List.length_cons, List.length_nil]
      (replace B0 : Hid (Blk w3 (w1.heap.size) _ _) := Blk.below (by repeat (first | (with_reducible exact B0.out) | ((with_reducible apply Blk.newAt); (first | (with_reducible rfl) | (simp <;> omega))) | (with_reducible apply Blk.alloc) | (with_reducible apply Blk.drew) | (with_reducible apply Blk.drewN) | (with_reducible apply Blk.set) | ((with_reducible apply Blk.setO); (first | (with_reducible assumption) | omega | (simp <;> omega))))) hb); (replace c0 := (B0.out).cell); (replace f0 := (B0.out).froz); (replace l0 := (B0.out).lt)
      have HR3 : Hid (1 ≤ c3' ∧ RdI w3 w2.heap.size w3.heap.size A3 (entCells [ent9 2])) := ⟨hc3, hR3.rdi⟩
      have HR2' : Hid (RdI w3 wr.heap.size w2.heap.size A2 (entCells [ent9 1, ent9 2, gap3])) := HR2.out.2.below hb (Nat.le_refl _)
      clear hc3 hR3
      (replace HB : Hid (Below w.heap.size w w3) := bCall (by repeat (first | (with_reducible exact HB.out) | (with_reducible apply bAl) | (with_reducible apply bDr) | (with_reducible apply bDrN) | ((with_reducible refine bSt ?_ ?_ _); (first | (with_reducible assumption) | omega | (simp <;> omega))))) hb); clear hb; (have := HB.out.size)
      have Hw3 : Hid (Below w3.heap.size w3 w3) := Below.refl _ _
      go_wp2_with fail
      refine (exHead A3 c3' _ ?hA HR3.out.1).mono ?_
      case hA => exact HR3.out.2.rd.below (by repeat (first | (with_reducible exact Hw3.out) | (with_reducible apply bAl) | (with_reducible apply bDr) | (with_reducible apply bDrN) | ((with_reducible refine bSt ?_ ?_ _); (first | (with_reducible assumption) | omega | (simp <;> omega)))))
      rintro e w4 ⟨rfl, hb⟩
      (replace B0 : Hid (Blk w4 (w1.heap.size) _ _) := Blk.below (by repeat (first | (with_reducible exact B0.out) | ((with_reducible apply Blk.newAt); (first | (with_reducible rfl) | (simp <;> omega))) | (with_reducible apply Blk.alloc) | (with_reducible apply Blk.drew) | (with_reducible apply Blk.drewN) | (with_reducible apply Blk.set) | ((with_reducible apply Blk.setO); (first | (with_reducible assumption) | omega | (simp <;> omega))))) hb); (replace c0 := (B0.out).cell); (replace f0 := (B0.out).froz); (replace l0 := (B0.out).lt)
      (replace B8 : Hid (Blk w4 (w3.heap.size) _ _) := Blk.below (by repeat (first | (with_reducible exact B8.out) | ((with_reducible apply Blk.newAt); (first | (with_reducible rfl) | (simp <;> omega))) | (with_reducible apply Blk.alloc) | (with_reducible apply Blk.drew) | (with_reducible apply Blk.drewN) | (with_reducible apply Blk.set) | ((with_reducible apply Blk.setO); (first | (with_reducible assumption) | omega | (simp <;> omega))))) hb); (replace c8 := (B8.out).cell); (replace f8 := (B8.out).froz); (replace l8 := (B8.out).lt)
      (replace Hw3 : Hid (Below w3.heap.size w3 w4) := bCall (by repeat (first | (with_reducible exact Hw3.out) | (with_reducible apply bAl) | (with_reducible apply bDr) | (with_reducible apply bDrN) | ((with_reducible refine bSt ?_ ?_ _); (first | (with_reducible assumption) | omega | (simp <;> omega))))) hb)
      (replace HB : Hid (Below w.heap.size w w4) := bCall (by repeat (first | (with_reducible exact HB.out) | (with_reducible apply bAl) | (with_reducible apply bDr) | (with_reducible apply bDrN) | ((with_reducible refine bSt ?_ ?_ _); (first | (with_reducible assumption) | omega | (simp <;> omega))))) hb); clear hb; (have := HB.out.size)
      go_wp2_with fail
      refine (exNew _).mono ?_
      rintro e w5 ⟨rfl, hb⟩
      dsimp only [ringVal, ring0, ent0, ev0, List.length_nil]
      (replace B0 : Hid (Blk w5 (w1.heap.size) _ _) := Blk.below (by repeat (first | (with_reducible exact B0.out) | ((with_reducible apply Blk.newAt); (first | (with_reducible rfl) | (simp <;> omega))) | (with_reducible apply Blk.alloc) | (with_reducible apply Blk.drew) | (with_reducible apply Blk.drewN) | (with_reducible apply Blk.set) | ((with_reducible apply Blk.setO); (first | (with_reducible assumption) | omega | (simp <;> omega))))) hb); (replace c0 := (B0.out).cell); (replace f0 := (B0.out).froz); (replace l0 := (B0.out).lt)
      (replace B8 : Hid (Blk w5 (w3.heap.size) _ _) := Blk.below (by repeat (first | (with_reducible exact B8.out) | ((with_reducible apply Blk.newAt); (first | (with_reducible rfl) | (simp <;> omega))) | (with_reducible apply Blk.alloc) | (with_reducible apply Blk.drew) | (with_reducible apply Blk.drewN) | (with_reducible apply Blk.set) | ((with_reducible apply Blk.setO); (first | (with_reducible assumption) | omega | (simp <;> omega))))) hb); (replace c8 := (B8.out).cell); (replace f8 := (B8.out).froz); (replace l8 := (B8.out).lt)
      (replace Hw3 : Hid (Below w3.heap.size w3 w5) := bCall (by repeat (first | (with_reducible exact Hw3.out) | (with_reducible apply bAl) | (with_reducible apply bDr) | (with_reducible apply bDrN) | ((with_reducible refine bSt ?_ ?_ _); (first | (with_reducible assumption) | omega | (simp <;> omega))))) hb)
      (replace HB : Hid (Below w.heap.size w w5) := bCall (by repeat (first | (with_reducible exact HB.out) | (with_reducible apply bAl) | (with_reducible apply bDr) | (with_reducible apply bDrN) | ((with_reducible refine bSt ?_ ?_ _); (first | (with_reducible assumption) | omega | (simp <;> omega))))) hb); clear hb; (have := HB.out.size)
      go_wp2_with fail
      refine (entry23 1 _).mono ?_
      rintro e w6 ⟨rfl, hb⟩
      (replace B0 : Hid (Blk w6 (w1.heap.size) _ _) := Blk.below (by repeat (first | (with_reducible exact B0.out) | ((with_reducible apply Blk.newAt); (first | (with_reducible rfl) | (simp <;> omega))) | (with_reducible apply Blk.alloc) | (with_reducible apply Blk.drew) | (with_reducible apply Blk.drewN) | (with_reducible apply Blk.set) | ((with_reducible apply Blk.setO); (first | (with_reducible assumption) | omega | (simp <;> omega))))) hb); (replace c0 := (B0.out).cell); (replace f0 := (B0.out).froz); (replace l0 := (B0.out).lt)
      (replace B8 : Hid (Blk w6 (w3.heap.size) _ _) := Blk.below (by repeat (first | (with_reducible exact B8.out) | ((with_reducible apply Blk.newAt); (first | (with_reducible rfl) | (simp <;> omega))) | (with_reducible apply Blk.alloc) | (with_reducible apply Blk.drew) | (with_reducible apply Blk.drewN) | (with_reducible apply Blk.set) | ((with_reducible apply Blk.setO); (first | (with_reducible assumption) | omega | (simp <;> omega))))) hb); (replace c8 := (B8.out).cell); (replace f8 := (B8.out).froz); (replace l8 := (B8.out).lt)
      (replace Hw3 : Hid (Below w3.heap.size w3 w6) := bCall (by repeat (first | (with_reducible exact Hw3.out) | (with_reducible apply bAl) | (with_reducible apply bDr) | (with_reducible apply bDrN) | ((with_reducible refine bSt ?_ ?_ _); (first | (with_reducible assumption) | omega | (simp <;> omega))))) hb)
      (replace HB : Hid (Below w.heap.size w w6) := bCall (by repeat (first | (with_reducible exact HB.out) | (with_reducible apply bAl) | (with_reducible apply bDr) | (with_reducible apply bDrN) | ((with_reducible refine bSt ?_ ?_ _); (first | (with_reducible assumption) | omega | (simp <;> omega))))) hb); clear hb; (have := HB.out.size)
      go_wp2_with fail
      refine (exPut _).mono ?_
      rintro e w7 ⟨A7, c7', rfl, -, -, hb⟩
      dsimp only [ringVal, ring0, ent0, ev0, List.length_nil]
      (replace B0 : Hid (Blk w7 (w1.heap.size) _ _) := Blk.below (by repeat (first | (with_reducible exact B0.out) | ((with_reducible apply Blk.newAt); (first | (with_reducible rfl) | (simp <;> omega))) | (with_reducible apply Blk.alloc) | (with_reducible apply Blk.drew) | (with_reducible apply Blk.drewN) | (with_reducible apply Blk.set) | ((with_reducible apply Blk.setO); (first | (with_reducible assumption) | omega | (simp <;> omega))))) hb); (replace c0 := (B0.out).cell); (replace f0 := (B0.out).froz); (replace l0 := (B0.out).lt)
      (replace B8 : Hid (Blk w7 (w3.heap.size) _ _) := Blk.below (by repeat (first | (with_reducible exact B8.out) | ((with_reducible apply Blk.newAt); (first | (with_reducible rfl) | (simp <;> omega))) | (with_reducible apply Blk.alloc) | (with_reducible apply Blk.drew) | (with_reducible apply Blk.drewN) | (with_reducible apply Blk.set) | ((with_reducible apply Blk.setO); (first | (with_reducible assumption) | omega | (simp <;> omega))))) hb); (replace c8 := (B8.out).cell); (replace f8 := (B8.out).froz); (replace l8 := (B8.out).lt)
      (replace Hw3 : Hid (Below w3.heap.size w3 w7) := bCall (by repeat (first | (with_reducible exact Hw3.out) | (with_reducible apply bAl) | (with_reducible apply bDr) | (with_reducible apply bDrN) | ((with_reducible refine bSt ?_ ?_ _); (first | (with_reducible assumption) | omega | (simp <;> omega))))) hb)
      (replace HB : Hid (Below w.heap.size w w7) := bCall (by repeat (first | (with_reducible exact HB.out) | (with_reducible apply bAl) | (with_reducible apply bDr) | (with_reducible apply bDrN) | ((with_reducible refine bSt ?_ ?_ _); (first | (with_reducible assumption) | omega | (simp <;> omega))))) hb); clear hb; (have := HB.out.size)
      have B8' : Hid (Blk w7 w3.heap.size #[.int .u64 1, .int .u64 0, .int .i64 5, .int .i64 1, .int .i64 3, .int .i64 9, .int .i64 0] 27) := B8.out
      clear B8 c8
      have B8 := B8'
      have c8 := B8.out.cell
      clear B8'
      go_wp2_with fail
      go_region_held3 (fun w' => (∀ j, w'.cell? ⟨w1.heap.size, j, none⟩ = (#[.int .i64 2, .slice A 2 c, .int .u64 3, .int .u64 0, .int .i64 5, .int .i64 1, .int .i64 7, .int .i64 2, .int .i64 0] : Array Value)[j]?) ∧ (∀ j, w'.cell? ⟨w3.heap.size, j, none⟩ = (#[.int .u64 1, .int .u64 0, .int .i64 5, .int .i64 1, .int .i64 3, .int .i64 9, .int .i64 0] : Array Value)[j]?) ∧ (∀ j, w'.cell? ⟨w7.heap.size + 1, j, none⟩ = (#[.int .u64 3, .int .u64 0, .int .i64 5, .int .i64 1, .int .i64 7, .int .i64 2, .int .i64 0] : Array Value)[j]?))
        (exact ⟨Blk.cell (by repeat (first | (with_reducible exact B0.out) | ((with_reducible apply Blk.newAt); (first | (with_reducible rfl) | (simp <;> omega))) | (with_reducible apply Blk.alloc) | (with_reducible apply Blk.drew) | (with_reducible apply Blk.drewN) | (with_reducible apply Blk.set) | ((with_reducible apply Blk.setO); (first | (with_reducible assumption) | omega | (simp <;> omega))))), Blk.cell (by repeat (first | (with_reducible exact B8.out) | ((with_reducible apply Blk.newAt); (first | (with_reducible rfl) | (simp <;> omega))) | (with_reducible apply Blk.alloc) | (with_reducible apply Blk.drew) | (with_reducible apply Blk.drewN) | (with_reducible apply Blk.set) | ((with_reducible apply Blk.setO); (first | (with_reducible assumption) | omega | (simp <;> omega))))), Blk.cell (by repeat (first | (with_reducible exact B17.out) | ((with_reducible apply Blk.newAt); (first | (with_reducible rfl) | (simp <;> omega))) | (with_reducible apply Blk.alloc) | (with_reducible apply Blk.drew) | (with_reducible apply Blk.drewN) | (with_reducible apply Blk.set) | ((with_reducible apply Blk.setO); (first | (with_reducible assumption) | omega | (simp <;> omega)))))⟩)
        (first
          | (go_at_call 23; refine (entry23 _ _).mono ?_; rintro e w8 ⟨rfl, hb⟩; (replace B0 : Hid (Blk w8 (w1.heap.size) _ _) := Blk.below (by repeat (first | (with_reducible exact B0.out) | ((with_reducible apply Blk.newAt); (first | (with_reducible rfl) | (simp <;> omega))) | (with_reducible apply Blk.alloc) | (with_reducible apply Blk.drew) | (with_reducible apply Blk.drewN) | (with_reducible apply Blk.set) | ((with_reducible apply Blk.setO); (first | (with_reducible assumption) | omega | (simp <;> omega))))) hb); (replace c0 := (B0.out).cell); (replace f0 := (B0.out).froz); (replace l0 := (B0.out).lt); (replace B8 : Hid (Blk w8 (w3.heap.size) _ _) := Blk.below (by repeat (first | (with_reducible exact B8.out) | ((with_reducible apply Blk.newAt); (first | (with_reducible rfl) | (simp <;> omega))) | (with_reducible apply Blk.alloc) | (with_reducible apply Blk.drew) | (with_reducible apply Blk.drewN) | (with_reducible apply Blk.set) | ((with_reducible apply Blk.setO); (first | (with_reducible assumption) | omega | (simp <;> omega))))) hb); (replace c8 := (B8.out).cell); (replace f8 := (B8.out).froz); (replace l8 := (B8.out).lt); (replace B17 : Hid (Blk w8 (w7.heap.size + 1) _ _) := Blk.below (by repeat (first | (with_reducible exact B17.out) | ((with_reducible apply Blk.newAt); (first | (with_reducible rfl) | (simp <;> omega))) | (with_reducible apply Blk.alloc) | (with_reducible apply Blk.drew) | (with_reducible apply Blk.drewN) | (with_reducible apply Blk.set) | ((with_reducible apply Blk.setO); (first | (with_reducible assumption) | omega | (simp <;> omega))))) hb); (replace c17 := (B17.out).cell); (replace f17 := (B17.out).froz); (replace l17 := (B17.out).lt); (replace Hw3 : Hid (Below w3.heap.size w3 w8) := bCall (by repeat (first | (with_reducible exact Hw3.out) | (with_reducible apply bAl) | (with_reducible apply bDr) | (with_reducible apply bDrN) | ((with_reducible refine bSt ?_ ?_ _); (first | (with_reducible assumption) | omega | (simp <;> omega))))) hb); (replace HB : Hid (Below w.heap.size w w8) := bCall (by repeat (first | (with_reducible exact HB.out) | (with_reducible apply bAl) | (with_reducible apply bDr) | (with_reducible apply bDrN) | ((with_reducible refine bSt ?_ ?_ _); (first | (with_reducible assumption) | omega | (simp <;> omega))))) hb); clear hb; (have := HB.out.size))
          | (go_at_call 26; refine (exEntries A2 c2' _ _ ?_ ?_).mono ?_; (exact HR2'.out.rd.below (by repeat (first | (with_reducible exact Hw3.out) | (with_reducible apply bAl) | (with_reducible apply bDr) | (with_reducible apply bDrN) | ((with_reducible refine bSt ?_ ?_ _); (first | (with_reducible assumption) | omega | (simp <;> omega)))))); (refine Rd.newAt _ _ _ _ ?_; (first | (with_reducible rfl) | (simp <;> omega))); rintro e w8 ⟨rfl, hb⟩; (replace B0 : Hid (Blk w8 (w1.heap.size) _ _) := Blk.below (by repeat (first | (with_reducible exact B0.out) | ((with_reducible apply Blk.newAt); (first | (with_reducible rfl) | (simp <;> omega))) | (with_reducible apply Blk.alloc) | (with_reducible apply Blk.drew) | (with_reducible apply Blk.drewN) | (with_reducible apply Blk.set) | ((with_reducible apply Blk.setO); (first | (with_reducible assumption) | omega | (simp <;> omega))))) hb); (replace c0 := (B0.out).cell); (replace f0 := (B0.out).froz); (replace l0 := (B0.out).lt); (replace B8 : Hid (Blk w8 (w3.heap.size) _ _) := Blk.below (by repeat (first | (with_reducible exact B8.out) | ((with_reducible apply Blk.newAt); (first | (with_reducible rfl) | (simp <;> omega))) | (with_reducible apply Blk.alloc) | (with_reducible apply Blk.drew) | (with_reducible apply Blk.drewN) | (with_reducible apply Blk.set) | ((with_reducible apply Blk.setO); (first | (with_reducible assumption) | omega | (simp <;> omega))))) hb); (replace c8 := (B8.out).cell); (replace f8 := (B8.out).froz); (replace l8 := (B8.out).lt); (replace B17 : Hid (Blk w8 (w7.heap.size + 1) _ _) := Blk.below (by repeat (first | (with_reducible exact B17.out) | ((with_reducible apply Blk.newAt); (first | (with_reducible rfl) | (simp <;> omega))) | (with_reducible apply Blk.alloc) | (with_reducible apply Blk.drew) | (with_reducible apply Blk.drewN) | (with_reducible apply Blk.set) | ((with_reducible apply Blk.setO); (first | (with_reducible assumption) | omega | (simp <;> omega))))) hb); (replace c17 := (B17.out).cell); (replace f17 := (B17.out).froz); (replace l17 := (B17.out).lt); (replace Hw3 : Hid (Below w3.heap.size w3 w8) := bCall (by repeat (first | (with_reducible exact Hw3.out) | (with_reducible apply bAl) | (with_reducible apply bDr) | (with_reducible apply bDrN) | ((with_reducible refine bSt ?_ ?_ _); (first | (with_reducible assumption) | omega | (simp <;> omega))))) hb); (replace HB : Hid (Below w.heap.size w w8) := bCall (by repeat (first | (with_reducible exact HB.out) | (with_reducible apply bAl) | (with_reducible apply bDr) | (with_reducible apply bDrN) | ((with_reducible refine bSt ?_ ?_ _); (first | (with_reducible assumption) | omega | (simp <;> omega))))) hb); clear hb; (have := HB.out.size))
          | (go_at_call 21; refine (exIs A c _).mono ?_; rintro e w8 ⟨rfl, hb⟩; (replace B0 : Hid (Blk w8 (w1.heap.size) _ _) := Blk.below (by repeat (first | (with_reducible exact B0.out) | ((with_reducible apply Blk.newAt); (first | (with_reducible rfl) | (simp <;> omega))) | (with_reducible apply Blk.alloc) | (with_reducible apply Blk.drew) | (with_reducible apply Blk.drewN) | (with_reducible apply Blk.set) | ((with_reducible apply Blk.setO); (first | (with_reducible assumption) | omega | (simp <;> omega))))) hb); (replace c0 := (B0.out).cell); (replace f0 := (B0.out).froz); (replace l0 := (B0.out).lt); (replace B8 : Hid (Blk w8 (w3.heap.size) _ _) := Blk.below (by repeat (first | (with_reducible exact B8.out) | ((with_reducible apply Blk.newAt); (first | (with_reducible rfl) | (simp <;> omega))) | (with_reducible apply Blk.alloc) | (with_reducible apply Blk.drew) | (with_reducible apply Blk.drewN) | (with_reducible apply Blk.set) | ((with_reducible apply Blk.setO); (first | (with_reducible assumption) | omega | (simp <;> omega))))) hb); (replace c8 := (B8.out).cell); (replace f8 := (B8.out).froz); (replace l8 := (B8.out).lt); (replace B17 : Hid (Blk w8 (w7.heap.size + 1) _ _) := Blk.below (by repeat (first | (with_reducible exact B17.out) | ((with_reducible apply Blk.newAt); (first | (with_reducible rfl) | (simp <;> omega))) | (with_reducible apply Blk.alloc) | (with_reducible apply Blk.drew) | (with_reducible apply Blk.drewN) | (with_reducible apply Blk.set) | ((with_reducible apply Blk.setO); (first | (with_reducible assumption) | omega | (simp <;> omega))))) hb); (replace c17 := (B17.out).cell); (replace f17 := (B17.out).froz); (replace l17 := (B17.out).lt); (replace Hw3 : Hid (Below w3.heap.size w3 w8) := bCall (by repeat (first | (with_reducible exact Hw3.out) | (with_reducible apply bAl) | (with_reducible apply bDr) | (with_reducible apply bDrN) | ((with_reducible refine bSt ?_ ?_ _); (first | (with_reducible assumption) | omega | (simp <;> omega))))) hb); (replace HB : Hid (Below w.heap.size w w8) := bCall (by repeat (first | (with_reducible exact HB.out) | (with_reducible apply bAl) | (with_reducible apply bDr) | (with_reducible apply bDrN) | ((with_reducible refine bSt ?_ ?_ _); (first | (with_reducible assumption) | omega | (simp <;> omega))))) hb); clear hb; (have := HB.out.size)))
      all_goals go_wp2
      all_goals go_outline
      all_goals go_ret
      all_goals refine ⟨rfl, ?_⟩
      all_goals repeat (first | (with_reducible exact HB.out) | (with_reducible apply bAl) | (with_reducible apply bDr) | (with_reducible apply bDrN) | ((with_reducible refine bSt ?_ ?_ _); (first | (with_reducible assumption) | omega | (simp <;> omega))))
end Go.Proofs.Ytlegpbookbghbaa
