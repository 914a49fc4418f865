/- The chapter's example for disks answers true; no condition. -/
import Derived.Test.YtlegpbookbghbaaG8
import Derived.Test.YtlegpbookbghbaaG9
set_option linter.unusedVariables false
set_option linter.unusedSimpArgs false
namespace Go.Proofs.Ytlegpbookbghbaa
open Go.RowKit

def a64 : List UInt8 := List.replicate 64 97
def b64 : List UInt8 := List.replicate 64 98
def z64 : List UInt8 := List.replicate 64 0
def d1 : DiskS := ⟨2, 64, List.replicate 128 0, [(1, a64)], false, false, 0⟩
def d2 : DiskS := ⟨2, 64, List.replicate 128 0, [], false, false, 0⟩
def d3 : DiskS := ⟨2, 64, List.replicate 128 0, [(0, b64)], false, false, 0⟩
def d4 : DiskS := ⟨2, 64, [98, 98, 98] ++ List.replicate 125 0, [], false, false, 0⟩
theorem new2 : newS 2 64 = d2 := rfl
theorem write1 : countS { newS 2 64 with pend := (newS 2 64).pend ++ [(1, a64)] } = d1 := rfl
theorem count1 : countS d1 = d1 := rfl
theorem crash1 : crashS d1 [] (-1) = d2 := rfl
theorem count2 : countS d2 = d2 := rfl
theorem write3 : countS { d2 with pend := d2.pend ++ [(0, b64)] } = d3 := rfl
theorem crash3 : crashS d3 [true] 3 = d4 := by
  have h : crashed d3 [true] 3 1 = [98, 98, 98] ++ List.replicate 125 0 := by decide +kernel
  show ({ d3 with last := crashed d3 [true] 3 1, pend := [], down := false, breaks := false, left := 0 } : DiskS) = d4
  rw [h]
  rfl
theorem sec2 : sectorOf d2 1 = z64 := by decide +kernel
theorem ok1 : DOk d1 := ⟨by decide, by decide, by simp [d1], fun p hp => by simp [d1] at hp; subst hp; exact ⟨by decide, by simp [a64, d1]⟩, by decide, fun h => by cases h⟩
theorem ok2 : DOk d2 := ⟨by decide, by decide, by simp [d2], fun p hp => by simp [d2] at hp, by decide, fun h => by cases h⟩
theorem ok3 : DOk d3 := ⟨by decide, by decide, by simp [d3], fun p hp => by simp [d3] at hp; subst hp; exact ⟨by decide, by simp [b64, d3]⟩, by decide, fun h => by cases h⟩
theorem ok4 : DOk d4 := ⟨by decide, by decide, by simp [d4], fun p hp => by simp [d4] at hp, by decide, fun h => by cases h⟩
theorem bstr_append (l m : List UInt8) : bstr l ++ bstr m = bstr (l ++ m) := by
  apply ByteArray.ext
  simp [bstr]
theorem onlyBelow {w0 w w1 : World} {lo hi : Nat} (hb : Below w0.heap.size w0 w) (h : Only (In lo hi) w w1) (hlo : w0.heap.size ≤ lo) : Below w0.heap.size w0 w1 :=
  Only.below hb h fun k hk hs => by have := hs.1; omega
def z128 : List UInt8 := List.replicate 128 0
def z61 : List UInt8 := List.replicate 61 0
theorem blkRd {w : World} {k : Nat} {cs : List Value} {t : TypeId} (h : Blk w k cs.toArray t) : Rd w (some ⟨k, 0, none⟩) cs := .inr ⟨k, 0, rfl, fun j u hu => by rw [Nat.zero_add, h.cell j]; simpa using hu⟩
theorem fullA (w : World) : Calls Try.prog 43 #[.int .u8 97, .int .i64 64] w fun e w' => e = .returned (.string (bstr a64)) ∧ Below w.heap.size w w' := full43 97 97 rfl 64 (by decide) w
theorem fullB (w : World) : Calls Try.prog 43 #[.int .u8 98, .int .i64 64] w fun e w' => e = .returned (.string (bstr b64)) ∧ Below w.heap.size w w' := full43 98 98 rfl 64 (by decide) w
theorem fullZ (w : World) : Calls Try.prog 43 #[.int .u8 0, .int .i64 64] w fun e w' => e = .returned (.string (bstr z64)) ∧ Below w.heap.size w w' := full43 0 0 rfl 64 (by decide) w
theorem fullZZ (w : World) : Calls Try.prog 43 #[.int .u8 0, .int .i64 128] w fun e w' => e = .returned (.string (bstr z128)) ∧ Below w.heap.size w w' := full43 0 0 rfl 128 (by decide) w
theorem fullZs (w : World) : Calls Try.prog 43 #[.int .u8 0, .int .i64 61] w fun e w' => e = .returned (.string (bstr z61)) ∧ Below w.heap.size w w' := full43 0 0 rfl 61 (by decide) w
theorem imageAt (lo hi kd : Nat) (D : DiskS) (w : World) (hD : DiskAt w lo hi kd D) (hok : DOk D) :
    Calls Try.prog 39 #[.pointer (some ⟨kd, 0, none⟩)] w fun e w' => e = .returned (.string (bstr D.last)) ∧ w' = w := by
  obtain ⟨kl, km, pA, wA, pc, wc, ks, hD⟩ := hD
  exact image39 D kd kl km pA wA pc wc w hD.blk.cell hD.last hok.last
theorem image1 (lo hi kd : Nat) (w : World) (hD : DiskAt w lo hi kd d1) : Calls Try.prog 39 #[.pointer (some ⟨kd, 0, none⟩)] w fun e w' => e = .returned (.string (bstr z128)) ∧ w' = w := imageAt lo hi kd d1 w hD ok1
def bbb : List UInt8 := [98, 98, 98] ++ z61
theorem sec4 : sectorOf d4 0 = bbb := by decide +kernel
theorem hba : (⟨#[98, 98, 98]⟩ : ByteArray) ++ bstr z61 = bstr bbb := bstr_append [98, 98, 98] z61
theorem hzs : (bstr z61).size = 61 := by rw [bstr_size]; rfl
set_option maxRecDepth 100000 in set_option maxHeartbeats 4000000 in
theorem stored37 (w : World) : Calls Try.prog 37 #[] w fun e w' => e = .returned (.bool true) ∧ Below w.heap.size w w' := by
  have HB : Hid (Below w.heap.size w w) := Below.refl _ _
  have hba := hba
  have hzs := hzs
  go_enter Try.func37, Try.ntmps37
  go_wp2_with fail
  refine (newDisk 2 64 _ (by decide) (by decide) (by decide) (by decide)).mono ?_
  rintro e w1 ⟨kd, rfl, hD, hb⟩
  have HD : Hid (DiskAt w1 w.heap.size w1.heap.size kd d2) := hD
  have hs1 := hb.size
  clear hD
  (replace HB : Hid (Below w.heap.size w w1) := bCall (by repeat (first | (with_reducible exact HB.out) | (with_reducible apply bAl) | (with_reducible apply bDr) | (with_reducible apply bDrN) | ((with_reducible refine bSt ?_ ?_ _); (first | (with_reducible assumption) | omega | (simp <;> omega))))) hb); clear hb; (have := HB.out.size)
  go_wp2_with fail
  refine (fullA _).mono ?_
  rintro e w2 ⟨rfl, hb⟩
  have hs2 := hb.size
  replace HD := Lib.hid (HD.out.below hb)
  (replace HB : Hid (Below w.heap.size w w2) := bCall (by repeat (first | (with_reducible exact HB.out) | (with_reducible apply bAl) | (with_reducible apply bDr) | (with_reducible apply bDrN) | ((with_reducible refine bSt ?_ ?_ _); (first | (with_reducible assumption) | omega | (simp <;> omega))))) hb); clear hb; (have := HB.out.size)
  go_wp2_with fail
  refine (write47 w.heap.size w1.heap.size kd d2 1 a64 _ HD.out ok2 rfl (by decide) (by simp [a64, d2]) (by decide) (by omega) (by omega)).mono ?_
  rintro e w3 ⟨rfl, hD, ho⟩
  replace HD : Hid (DiskAt w3 w.heap.size w3.heap.size kd d1) := hD
  have hs3 := ho.size
  have HB := Lib.hid (onlyBelow HB.out ho (Nat.le_refl _))
  clear hD ho
  go_wp2_with fail
  refine (readOne42 w.heap.size w3.heap.size kd d1 1 a64 _ HD.out ok1 rfl (by decide) rfl (Nat.le_refl _)).mono ?_
  rintro e w4 ⟨rfl, hD, ho⟩
  replace HD : Hid (DiskAt w4 w.heap.size w3.heap.size kd d1) := hD
  have hs4 := ho.size
  have HB := Lib.hid (onlyBelow HB.out ho (Nat.le_refl _))
  clear hD ho
  go_wp2_with fail
  refine (image1 w.heap.size w3.heap.size kd _ HD.out).mono ?_
  rintro e w5 ⟨rfl, rfl⟩
  go_wp2_with fail
  refine (crash40 w.heap.size w3.heap.size kd d1 [] none 0 (-1) _ HD.out ok1 (fun _ _ => Rd.nil _ _) (Nat.le_refl _) (by decide)).mono ?_
  rintro e w6 ⟨rfl, hD, ho⟩
  replace HD : Hid (DiskAt w6 w.heap.size w3.heap.size kd d2) := hD
  have hs6 := ho.size
  have HB := Lib.hid (onlyBelow HB.out ho (Nat.le_refl _))
  clear hD ho
  go_wp2_with fail
  refine (read42 w.heap.size w3.heap.size kd d2 1 _ HD.out ok2 rfl (by decide) rfl).mono ?_
  rw [sec2]
  rintro e w7 ⟨rfl, hD, ho⟩
  replace HD : Hid (DiskAt w7 w.heap.size w3.heap.size kd d2) := hD
  have hs7 := ho.size
  have HB := Lib.hid (onlyBelow HB.out ho (Nat.le_refl _))
  clear hD ho
  go_wp2_with fail
  refine (fullB _).mono ?_
  rintro e w8 ⟨rfl, hb⟩
  have hs8 := hb.size
  replace HD := Lib.hid (HD.out.below hb)
  (replace HB : Hid (Below w.heap.size w w8) := bCall (by repeat (first | (with_reducible exact HB.out) | (with_reducible apply bAl) | (with_reducible apply bDr) | (with_reducible apply bDrN) | ((with_reducible refine bSt ?_ ?_ _); (first | (with_reducible assumption) | omega | (simp <;> omega))))) hb); clear hb; (have := HB.out.size)
  go_wp2_with fail
  refine (write47 w.heap.size w3.heap.size kd d2 0 b64 _ HD.out ok2 rfl (by decide) (by simp [b64, d2]) (by decide) (by omega) (by omega)).mono ?_
  rintro e w9 ⟨rfl, hD, ho⟩
  replace HD : Hid (DiskAt w9 w.heap.size w9.heap.size kd d3) := hD
  have hs9 := ho.size
  have HB := Lib.hid (onlyBelow HB.out ho (Nat.le_refl _))
  clear hD ho
  go_wp2_with fail
  refine (crash40 w.heap.size w9.heap.size kd d3 [true] (some ⟨w9.heap.size, 0, none⟩) 1 3 _ (HD.out.below (belowAlloc _ _)) ok3 (fun W ho => blkRd (cs := [.bool true]) (ho.blk (Blk.newAt w9 w9.heap.size #[.bool true] 4 rfl) (fun hs => Nat.lt_irrefl _ hs.2))) (Nat.le_refl _) (by decide)).mono ?_
  rw [crash3]
  rintro e w10 ⟨rfl, hD, ho⟩
  replace HD : Hid (DiskAt w10 w.heap.size w9.heap.size kd d4) := hD
  have hs10 := ho.size
  simp only [World.size_alloc] at hs10
  have HB := Lib.hid (onlyBelow (bAl HB.out _) ho (Nat.le_refl _))
  clear hD ho
  go_wp2_with fail
  refine (read42 w.heap.size w9.heap.size kd d4 0 _ HD.out ok4 rfl (by decide) rfl).mono ?_
  rw [sec4]
  rintro e w11 ⟨rfl, hD, ho⟩
  replace HD : Hid (DiskAt w11 w.heap.size w9.heap.size kd d4) := hD
  have hs11 := ho.size
  have HB := Lib.hid (onlyBelow HB.out ho (Nat.le_refl _))
  clear hD ho
  go_wp2_with fail
  refine (fullA _).mono ?_
  rintro e w12 ⟨rfl, hb⟩
  replace HD := Lib.hid (HD.out.below hb)
  (replace HB : Hid (Below w.heap.size w w12) := bCall (by repeat (first | (with_reducible exact HB.out) | (with_reducible apply bAl) | (with_reducible apply bDr) | (with_reducible apply bDrN) | ((with_reducible refine bSt ?_ ?_ _); (first | (with_reducible assumption) | omega | (simp <;> omega))))) hb); clear hb; (have := HB.out.size)
  go_wp2_with fail
  refine (fullZZ _).mono ?_
  rintro e w13 ⟨rfl, hb⟩
  replace HD := Lib.hid (HD.out.below hb)
  (replace HB : Hid (Below w.heap.size w w13) := bCall (by repeat (first | (with_reducible exact HB.out) | (with_reducible apply bAl) | (with_reducible apply bDr) | (with_reducible apply bDrN) | ((with_reducible refine bSt ?_ ?_ _); (first | (with_reducible assumption) | omega | (simp <;> omega))))) hb); clear hb; (have := HB.out.size)
  go_wp2_with fail
  refine (fullZ _).mono ?_
  rintro e w14 ⟨rfl, hb⟩
  replace HD := Lib.hid (HD.out.below hb)
  (replace HB : Hid (Below w.heap.size w w14) := bCall (by repeat (first | (with_reducible exact HB.out) | (with_reducible apply bAl) | (with_reducible apply bDr) | (with_reducible apply bDrN) | ((with_reducible refine bSt ?_ ?_ _); (first | (with_reducible assumption) | omega | (simp <;> omega))))) hb); clear hb; (have := HB.out.size)
  go_wp2_with fail
  refine (fullZs _).mono ?_
  rintro e w15 ⟨rfl, hb⟩
  replace HD := Lib.hid (HD.out.below hb)
  (replace HB : Hid (Below w.heap.size w w15) := bCall (by repeat (first | (with_reducible exact HB.out) | (with_reducible apply bAl) | (with_reducible apply bDr) | (with_reducible apply bDrN) | ((with_reducible refine bSt ?_ ?_ _); (first | (with_reducible assumption) | omega | (simp <;> omega))))) hb); clear hb; (have := HB.out.size)
  go_wp2_with fail
  refine (flushNil44 _).mono ?_
  rintro e w16 ⟨rfl, rfl⟩
  go_wp2_with fail
  refine (writeRefused47 w.heap.size w9.heap.size kd d4 2 (bstr a64) _ HD.out (by decide)).mono ?_
  rintro e w17 ⟨rfl, hb⟩
  (replace HB : Hid (Below w.heap.size w w17) := bCall (by repeat (first | (with_reducible exact HB.out) | (with_reducible apply bAl) | (with_reducible apply bDr) | (with_reducible apply bDrN) | ((with_reducible refine bSt ?_ ?_ _); (first | (with_reducible assumption) | omega | (simp <;> omega))))) hb); clear hb; (have := HB.out.size)
  have hr6 : refuseS d4 2 = 6 := by decide
  rw [hr6]
  go_wp2
  go_ret
  exact ⟨rfl, HB.out⟩
end Go.Proofs.Ytlegpbookbghbaa
