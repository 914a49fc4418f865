/- RingKeeps answers true: the walk; the entries lie in memory. -/
import Derived.Test.YtlegpbookbghbaaB3
set_option linter.unusedVariables false
set_option linter.unusedSimpArgs false
namespace Go.Proofs.Ytlegpbookbghbaa
open Go.RowKit
attribute [local go_sem high] eqIn27

theorem Rd7.at_ {w w' : World} {b o : Nat} {v0 v1 v2 v3 v4 v5 v6 : Value} (h : w.cell? ⟨b, o, none⟩ = some v0 ∧ w.cell? ⟨b, o + 1, none⟩ = some v1 ∧ w.cell? ⟨b, o + 2, none⟩ = some v2 ∧ w.cell? ⟨b, o + 3, none⟩ = some v3 ∧ w.cell? ⟨b, o + 4, none⟩ = some v4 ∧ w.cell? ⟨b, o + 5, none⟩ = some v5 ∧ w.cell? ⟨b, o + 6, none⟩ = some v6)
    (hb : Below w.heap.size w w') : w'.cell? ⟨b, o, none⟩ = some v0 ∧ w'.cell? ⟨b, o + 1, none⟩ = some v1 ∧ w'.cell? ⟨b, o + 2, none⟩ = some v2 ∧ w'.cell? ⟨b, o + 3, none⟩ = some v3 ∧ w'.cell? ⟨b, o + 4, none⟩ = some v4 ∧ w'.cell? ⟨b, o + 5, none⟩ = some v5 ∧ w'.cell? ⟨b, o + 6, none⟩ = some v6 := by
  have k : ∀ j u, w.cell? ⟨b, j, none⟩ = some u → w'.cell? ⟨b, j, none⟩ = some u := fun j u hu => (hb.cell (p := ⟨b, j, none⟩) (World.block_lt_of_cell? w _ hu)).trans hu
  exact ⟨k _ _ h.1, k _ _ h.2.1, k _ _ h.2.2.1, k _ _ h.2.2.2.1, k _ _ h.2.2.2.2.1, k _ _ h.2.2.2.2.2.1, k _ _ h.2.2.2.2.2.2⟩
/-- What is asked of the pieces: the contracts, at hand for the walk. -/
structure KeepsIn (r : RingS) (x y : Ent) (was xs ys rest : List Ent) (qx qy s : RingS) (ex ey : Int) (first : Ent) (ok : Bool) : Prop where
  all_ : ∀ w A c, Rd w A (entCells r.L) → r.L.length ≤ c → Calls Try.prog 25 #[.agg #[.int .i64 r.room, .slice A r.L.length c, .int .u64 r.gap.st, .int .u64 r.gap.e.sq, .int .i64 r.gap.e.tk, .int .i64 r.gap.e.pt, .int .i64 r.gap.e.kd, .int .i64 r.gap.e.a, .int .i64 r.gap.e.b]] w (AllPost w was)
  putx : ∀ w A c, Rd w A (entCells r.L) → Calls Try.prog 17 #[.agg #[.int .i64 r.room, .slice A r.L.length c, .int .u64 r.gap.st, .int .u64 r.gap.e.sq, .int .i64 r.gap.e.tk, .int .i64 r.gap.e.pt, .int .i64 r.gap.e.kd, .int .i64 r.gap.e.a, .int .i64 r.gap.e.b], .agg #[.int .u64 x.st, .int .u64 x.e.sq, .int .i64 x.e.tk, .int .i64 x.e.pt, .int .i64 x.e.kd, .int .i64 x.e.a, .int .i64 x.e.b]] w (PutPost w (qx, ex))
  puty : ∀ w A c, Rd w A (entCells r.L) → Calls Try.prog 17 #[.agg #[.int .i64 r.room, .slice A r.L.length c, .int .u64 r.gap.st, .int .u64 r.gap.e.sq, .int .i64 r.gap.e.tk, .int .i64 r.gap.e.pt, .int .i64 r.gap.e.kd, .int .i64 r.gap.e.a, .int .i64 r.gap.e.b], .agg #[.int .u64 y.st, .int .u64 y.e.sq, .int .i64 y.e.tk, .int .i64 y.e.pt, .int .i64 y.e.kd, .int .i64 y.e.a, .int .i64 y.e.b]] w (PutPost w (qy, ey))
  allx : ∀ w A c, Rd w A (entCells qx.L) → qx.L.length ≤ c → Calls Try.prog 25 #[.agg #[.int .i64 qx.room, .slice A qx.L.length c, .int .u64 qx.gap.st, .int .u64 qx.gap.e.sq, .int .i64 qx.gap.e.tk, .int .i64 qx.gap.e.pt, .int .i64 qx.gap.e.kd, .int .i64 qx.gap.e.a, .int .i64 qx.gap.e.b]] w (AllPost w xs)
  ally : ∀ w A c, Rd w A (entCells qy.L) → qy.L.length ≤ c → Calls Try.prog 25 #[.agg #[.int .i64 qy.room, .slice A qy.L.length c, .int .u64 qy.gap.st, .int .u64 qy.gap.e.sq, .int .i64 qy.gap.e.tk, .int .i64 qy.gap.e.pt, .int .i64 qy.gap.e.kd, .int .i64 qy.gap.e.a, .int .i64 qy.gap.e.b]] w (AllPost w ys)
  take_ : ∀ w A c, Rd w A (entCells r.L) → r.L.length ≤ c → Calls Try.prog 24 #[.agg #[.int .i64 r.room, .slice A r.L.length c, .int .u64 r.gap.st, .int .u64 r.gap.e.sq, .int .i64 r.gap.e.tk, .int .i64 r.gap.e.pt, .int .i64 r.gap.e.kd, .int .i64 r.gap.e.a, .int .i64 r.gap.e.b]] w (TakePost w (first, s, ok))
  alls : ∀ w A c, Rd w A (entCells s.L) → s.L.length ≤ c → Calls Try.prog 25 #[.agg #[.int .i64 s.room, .slice A s.L.length c, .int .u64 s.gap.st, .int .u64 s.gap.e.sq, .int .i64 s.gap.e.tk, .int .i64 s.gap.e.pt, .int .i64 s.gap.e.kd, .int .i64 s.gap.e.a, .int .i64 s.gap.e.b]] w (AllPost w rest)
  selfx : ∀ w A c S d, Rd w A (entCells xs) → Rd w S (entCells xs) → Calls Try.prog 26 #[.slice A xs.length c, .slice S xs.length d] w fun e w' => e = .returned (.bool true) ∧ Below w.heap.size w w'
  selfr : ∀ w A c S d, Rd w A (entCells was) → Rd w S (entCells was) → Calls Try.prog 26 #[.slice A was.length c, .slice S was.length d] w fun e w' => e = .returned (.bool true) ∧ Below w.heap.size w w'
  selft : ∀ w A c S d, Rd w A (entCells rest) → Rd w S (entCells rest) → Calls Try.prog 26 #[.slice A rest.length c, .slice S rest.length d] w fun e w' => e = .returned (.bool true) ∧ Below w.heap.size w w'

set_option maxRecDepth 100000 in set_option maxHeartbeats 4000000 in
theorem keepsNo1 (r : RingS) (A : Option Addr) (c : Nat) (x y : Ent) (w : World) (hA : Rd w A (entCells r.L)) (hl : r.L.length ≤ c) (hs : r.L.length ≤ 200) (xs ys rest : List Ent) (qx qy s : RingS) (ey : Int) (first : Ent)
    (hK : KeepsIn r x y ([] : List Ent) xs ys rest qx qy s 1 ey first false) :
    Calls Try.prog 5 #[.agg #[.int .i64 r.room, .slice A r.L.length c, .int .u64 r.gap.st, .int .u64 r.gap.e.sq, .int .i64 r.gap.e.tk, .int .i64 r.gap.e.pt, .int .i64 r.gap.e.kd, .int .i64 r.gap.e.a, .int .i64 r.gap.e.b], .agg #[.int .u64 x.st, .int .u64 x.e.sq, .int .i64 x.e.tk, .int .i64 x.e.pt, .int .i64 x.e.kd, .int .i64 x.e.a, .int .i64 x.e.b], .agg #[.int .u64 y.st, .int .u64 y.e.sq, .int .i64 y.e.tk, .int .i64 y.e.pt, .int .i64 y.e.kd, .int .i64 y.e.a, .int .i64 y.e.b]] w fun e w' => e = .returned (.bool true) ∧ Below w.heap.size w w' := by
  have hu29 := Try.underlying29; have hu27 := Try.underlying27; have hu25 := Try.underlying25
  have HA : Hid (Rd w A (entCells r.L)) := hA
  have HL : Hid (r.L.length ≤ c) := hl
  have HK := Lib.hid hK
  have HB : Hid (Below w.heap.size w w) := Below.refl _ _
  clear hA hl hK
  have hl1 : ¬ (200 : Int) < (r.L.length : Int) := by omega
  go_enter Try.func5, Try.ntmps5
  go_wp2_with fail
  refine (HK.out.all_ _ A c ?_ HL.out).mono ?_
  · exact Rd.below HA.out (by repeat (first | (with_reducible exact Below.refl _ _) | (with_reducible apply bAl) | (with_reducible apply bDr) | (with_reducible apply bDrN) | ((with_reducible refine bSt ?_ ?_ _); (first | (with_reducible assumption) | omega | (simp <;> omega)))))
  rintro e w1 ⟨A1, c1', rfl, hc', hR', hb⟩
  (have hst : Below w.heap.size w w1 := bCall (by repeat (first | (with_reducible exact Below.refl _ _) | (with_reducible apply bAl) | (with_reducible apply bDr) | (with_reducible apply bDrN) | ((with_reducible refine bSt ?_ ?_ _); (first | (with_reducible assumption) | omega | (simp <;> omega))))) hb); (replace HB : Hid (Below w.heap.size w w1) := bCall HB.out hst); (have := HB.out.size)
  (replace B0 : Hid (Blk w1 (w.heap.size) _ _) := Blk.below (by repeat (first | (with_reducible exact B0.out) | ((with_reducible apply Blk.newAt); (first | (with_reducible rfl) | (simp <;> omega))) | (with_reducible apply Blk.alloc) | (with_reducible apply Blk.drew) | (with_reducible apply Blk.drewN) | (with_reducible apply Blk.set) | ((with_reducible apply Blk.setO); (first | (with_reducible assumption) | omega | (simp <;> omega))))) hb); (replace c0 := (B0.out).cell); (replace f0 := (B0.out).froz); (replace l0 := (B0.out).lt)
  (replace B1 : Hid (Blk w1 (w.heap.size + 1) _ _) := Blk.below (by repeat (first | (with_reducible exact B1.out) | ((with_reducible apply Blk.newAt); (first | (with_reducible rfl) | (simp <;> omega))) | (with_reducible apply Blk.alloc) | (with_reducible apply Blk.drew) | (with_reducible apply Blk.drewN) | (with_reducible apply Blk.set) | ((with_reducible apply Blk.setO); (first | (with_reducible assumption) | omega | (simp <;> omega))))) hb); (replace c1 := (B1.out).cell); (replace f1 := (B1.out).froz); (replace l1 := (B1.out).lt)
  (replace B2 : Hid (Blk w1 (w.heap.size + 1 + 1) _ _) := Blk.below (by repeat (first | (with_reducible exact B2.out) | ((with_reducible apply Blk.newAt); (first | (with_reducible rfl) | (simp <;> omega))) | (with_reducible apply Blk.alloc) | (with_reducible apply Blk.drew) | (with_reducible apply Blk.drewN) | (with_reducible apply Blk.set) | ((with_reducible apply Blk.setO); (first | (with_reducible assumption) | omega | (simp <;> omega))))) hb); (replace c2 := (B2.out).cell); (replace f2 := (B2.out).froz); (replace l2 := (B2.out).lt)
  (replace HA : Hid (Rd w1 _ _) := Rd.below HA.out hst)
  have HR1 : Hid (Rd w1 A1 (entCells ([] : List Ent))) := hR'.rd
  clear hc' hR' hst hb
  go_wp2_with fail
  refine (HK.out.putx _ A c ?_).mono ?_
  · exact Rd.below HA.out (by repeat (first | (with_reducible exact Below.refl _ _) | (with_reducible apply bAl) | (with_reducible apply bDr) | (with_reducible apply bDrN) | ((with_reducible refine bSt ?_ ?_ _); (first | (with_reducible assumption) | omega | (simp <;> omega)))))
  rintro e w2 ⟨A2, c2', rfl, hc', hR', hb⟩
  dsimp only [ringVal]
  (have hst : Below w1.heap.size w1 w2 := bCall (by repeat (first | (with_reducible exact Below.refl _ _) | (with_reducible apply bAl) | (with_reducible apply bDr) | (with_reducible apply bDrN) | ((with_reducible refine bSt ?_ ?_ _); (first | (with_reducible assumption) | omega | (simp <;> omega))))) hb); (replace HB : Hid (Below w.heap.size w w2) := bCall HB.out hst); (have := HB.out.size)
  (replace B0 : Hid (Blk w2 _ _ _) := Blk.below B0.out hst); (replace c0 := (B0.out).cell); (replace f0 := (B0.out).froz); (replace l0 := (B0.out).lt); (replace B1 : Hid (Blk w2 _ _ _) := Blk.below B1.out hst); (replace c1 := (B1.out).cell); (replace f1 := (B1.out).froz); (replace l1 := (B1.out).lt); (replace B2 : Hid (Blk w2 _ _ _) := Blk.below B2.out hst); (replace c2 := (B2.out).cell); (replace f2 := (B2.out).froz); (replace l2 := (B2.out).lt)
  (replace HA : Hid (Rd w2 _ _) := Rd.below HA.out hst)
  (replace HR1 : Hid (Rd w2 _ _) := Rd.below HR1.out hst)
  have HR2 : Hid (Rd w2 A2 (entCells qx.L)) := hR'.rd
  have HL2 : Hid (qx.L.length ≤ c2') := hc'
  clear hc' hR' hst hb
  go_wp2_with fail
  refine (HK.out.allx _ A2 c2' ?_ HL2.out).mono ?_
  · exact Rd.below HR2.out (by repeat (first | (with_reducible exact Below.refl _ _) | (with_reducible apply bAl) | (with_reducible apply bDr) | (with_reducible apply bDrN) | ((with_reducible refine bSt ?_ ?_ _); (first | (with_reducible assumption) | omega | (simp <;> omega)))))
  rintro e w3 ⟨A3, c3', rfl, hc', hR', hb⟩
  (have hst : Below w2.heap.size w2 w3 := bCall (by repeat (first | (with_reducible exact Below.refl _ _) | (with_reducible apply bAl) | (with_reducible apply bDr) | (with_reducible apply bDrN) | ((with_reducible refine bSt ?_ ?_ _); (first | (with_reducible assumption) | omega | (simp <;> omega))))) hb); (replace HB : Hid (Below w.heap.size w w3) := bCall HB.out hst); (have := HB.out.size)
  (replace B0 : Hid (Blk w3 _ _ _) := Blk.below B0.out hst); (replace c0 := (B0.out).cell); (replace f0 := (B0.out).froz); (replace l0 := (B0.out).lt); (replace B1 : Hid (Blk w3 _ _ _) := Blk.below B1.out hst); (replace c1 := (B1.out).cell); (replace f1 := (B1.out).froz); (replace l1 := (B1.out).lt); (replace B2 : Hid (Blk w3 _ _ _) := Blk.below B2.out hst); (replace c2 := (B2.out).cell); (replace f2 := (B2.out).froz); (replace l2 := (B2.out).lt)
  (replace B3 : Hid (Blk w3 (w2.heap.size) _ _) := Blk.below (by repeat (first | (with_reducible exact B3.out) | ((with_reducible apply Blk.newAt); (first | (with_reducible rfl) | (simp <;> omega))) | (with_reducible apply Blk.alloc) | (with_reducible apply Blk.drew) | (with_reducible apply Blk.drewN) | (with_reducible apply Blk.set) | ((with_reducible apply Blk.setO); (first | (with_reducible assumption) | omega | (simp <;> omega))))) hb); (replace c3 := (B3.out).cell); (replace f3 := (B3.out).froz); (replace l3 := (B3.out).lt)
  (replace HA : Hid (Rd w3 _ _) := Rd.below HA.out hst)
  (replace HR1 : Hid (Rd w3 _ _) := Rd.below HR1.out hst)
  (replace HR2 : Hid (Rd w3 _ _) := Rd.below HR2.out hst)
  have HR3 : Hid (Rd w3 A3 (entCells xs)) := hR'.rd
  clear hc' hR' hst hb
  go_wp2_with fail
  refine (HK.out.puty _ A c ?_).mono ?_
  · exact Rd.below HA.out (by repeat (first | (with_reducible exact Below.refl _ _) | (with_reducible apply bAl) | (with_reducible apply bDr) | (with_reducible apply bDrN) | ((with_reducible refine bSt ?_ ?_ _); (first | (with_reducible assumption) | omega | (simp <;> omega)))))
  rintro e w4 ⟨A4, c4', rfl, hc', hR', hb⟩
  dsimp only [ringVal]
  (have hst : Below w3.heap.size w3 w4 := bCall (by repeat (first | (with_reducible exact Below.refl _ _) | (with_reducible apply bAl) | (with_reducible apply bDr) | (with_reducible apply bDrN) | ((with_reducible refine bSt ?_ ?_ _); (first | (with_reducible assumption) | omega | (simp <;> omega))))) hb); (replace HB : Hid (Below w.heap.size w w4) := bCall HB.out hst); (have := HB.out.size)
  (replace B0 : Hid (Blk w4 _ _ _) := Blk.below B0.out hst); (replace c0 := (B0.out).cell); (replace f0 := (B0.out).froz); (replace l0 := (B0.out).lt); (replace B1 : Hid (Blk w4 _ _ _) := Blk.below B1.out hst); (replace c1 := (B1.out).cell); (replace f1 := (B1.out).froz); (replace l1 := (B1.out).lt); (replace B2 : Hid (Blk w4 _ _ _) := Blk.below B2.out hst); (replace c2 := (B2.out).cell); (replace f2 := (B2.out).froz); (replace l2 := (B2.out).lt)
  (replace B3 : Hid (Blk w4 _ _ _) := Blk.below B3.out hst); (replace c3 := (B3.out).cell); (replace f3 := (B3.out).froz); (replace l3 := (B3.out).lt)
  (replace HA : Hid (Rd w4 _ _) := Rd.below HA.out hst)
  (replace HR1 : Hid (Rd w4 _ _) := Rd.below HR1.out hst)
  (replace HR2 : Hid (Rd w4 _ _) := Rd.below HR2.out hst)
  (replace HR3 : Hid (Rd w4 _ _) := Rd.below HR3.out hst)
  have HR4 : Hid (Rd w4 A4 (entCells qy.L)) := hR'.rd
  have HL4 : Hid (qy.L.length ≤ c4') := hc'
  clear hc' hR' hst hb
  go_wp2_with fail
  refine (HK.out.ally _ A4 c4' ?_ HL4.out).mono ?_
  · exact Rd.below HR4.out (by repeat (first | (with_reducible exact Below.refl _ _) | (with_reducible apply bAl) | (with_reducible apply bDr) | (with_reducible apply bDrN) | ((with_reducible refine bSt ?_ ?_ _); (first | (with_reducible assumption) | omega | (simp <;> omega)))))
  rintro e w5 ⟨A5, c5', rfl, hc', hR', hb⟩
  (have hst : Below w4.heap.size w4 w5 := bCall (by repeat (first | (with_reducible exact Below.refl _ _) | (with_reducible apply bAl) | (with_reducible apply bDr) | (with_reducible apply bDrN) | ((with_reducible refine bSt ?_ ?_ _); (first | (with_reducible assumption) | omega | (simp <;> omega))))) hb); (replace HB : Hid (Below w.heap.size w w5) := bCall HB.out hst); (have := HB.out.size)
  (replace B0 : Hid (Blk w5 _ _ _) := Blk.below B0.out hst); (replace c0 := (B0.out).cell); (replace f0 := (B0.out).froz); (replace l0 := (B0.out).lt); (replace B1 : Hid (Blk w5 _ _ _) := Blk.below B1.out hst); (replace c1 := (B1.out).cell); (replace f1 := (B1.out).froz); (replace l1 := (B1.out).lt); (replace B2 : Hid (Blk w5 _ _ _) := Blk.below B2.out hst); (replace c2 := (B2.out).cell); (replace f2 := (B2.out).froz); (replace l2 := (B2.out).lt)
  (replace B3 : Hid (Blk w5 _ _ _) := Blk.below B3.out hst); (replace c3 := (B3.out).cell); (replace f3 := (B3.out).froz); (replace l3 := (B3.out).lt)
  (replace HA : Hid (Rd w5 _ _) := Rd.below HA.out hst)
  (replace HR1 : Hid (Rd w5 _ _) := Rd.below HR1.out hst)
  (replace HR2 : Hid (Rd w5 _ _) := Rd.below HR2.out hst)
  (replace HR3 : Hid (Rd w5 _ _) := Rd.below HR3.out hst)
  have HR5 : Hid (Rd w5 A5 (entCells ys)) := hR'.rd
  clear hc' hR' hst hb
  go_wp2_with fail
  refine (HK.out.allx _ A2 c2' ?_ HL2.out).mono ?_
  · exact Rd.below HR2.out (by repeat (first | (with_reducible exact Below.refl _ _) | (with_reducible apply bAl) | (with_reducible apply bDr) | (with_reducible apply bDrN) | ((with_reducible refine bSt ?_ ?_ _); (first | (with_reducible assumption) | omega | (simp <;> omega)))))
  rintro e w6 ⟨A6, c6', rfl, hc', hR', hb⟩
  (have hst : Below w5.heap.size w5 w6 := bCall (by repeat (first | (with_reducible exact Below.refl _ _) | (with_reducible apply bAl) | (with_reducible apply bDr) | (with_reducible apply bDrN) | ((with_reducible refine bSt ?_ ?_ _); (first | (with_reducible assumption) | omega | (simp <;> omega))))) hb); (replace HB : Hid (Below w.heap.size w w6) := bCall HB.out hst); (have := HB.out.size)
  (replace B0 : Hid (Blk w6 _ _ _) := Blk.below B0.out hst); (replace c0 := (B0.out).cell); (replace f0 := (B0.out).froz); (replace l0 := (B0.out).lt); (replace B1 : Hid (Blk w6 _ _ _) := Blk.below B1.out hst); (replace c1 := (B1.out).cell); (replace f1 := (B1.out).froz); (replace l1 := (B1.out).lt); (replace B2 : Hid (Blk w6 _ _ _) := Blk.below B2.out hst); (replace c2 := (B2.out).cell); (replace f2 := (B2.out).froz); (replace l2 := (B2.out).lt)
  (replace HA : Hid (Rd w6 _ _) := Rd.below HA.out hst)
  (replace HR1 : Hid (Rd w6 _ _) := Rd.below HR1.out hst)
  (replace HR3 : Hid (Rd w6 _ _) := Rd.below HR3.out hst)
  (replace HR5 : Hid (Rd w6 _ _) := Rd.below HR5.out hst)
  have HR6 : Hid (Rd w6 A6 (entCells xs)) := hR'.rd
  clear hc' hR' hst hb
  go_wp2_with fail
  refine (HK.out.selfx _ A6 c6' A3 c3' HR6.out HR3.out).mono ?_
  rintro e w7 ⟨rfl, hb⟩
  (have hst : Below w6.heap.size w6 w7 := bCall (by repeat (first | (with_reducible exact Below.refl _ _) | (with_reducible apply bAl) | (with_reducible apply bDr) | (with_reducible apply bDrN) | ((with_reducible refine bSt ?_ ?_ _); (first | (with_reducible assumption) | omega | (simp <;> omega))))) hb); (replace HB : Hid (Below w.heap.size w w7) := bCall HB.out hst); (have := HB.out.size)
  (replace B0 : Hid (Blk w7 _ _ _) := Blk.below B0.out hst); (replace c0 := (B0.out).cell); (replace f0 := (B0.out).froz); (replace l0 := (B0.out).lt); (replace B1 : Hid (Blk w7 _ _ _) := Blk.below B1.out hst); (replace c1 := (B1.out).cell); (replace f1 := (B1.out).froz); (replace l1 := (B1.out).lt); (replace B2 : Hid (Blk w7 _ _ _) := Blk.below B2.out hst); (replace c2 := (B2.out).cell); (replace f2 := (B2.out).froz); (replace l2 := (B2.out).lt)
  (replace HA : Hid (Rd w7 _ _) := Rd.below HA.out hst)
  (replace HR1 : Hid (Rd w7 _ _) := Rd.below HR1.out hst)
  (replace HR5 : Hid (Rd w7 _ _) := Rd.below HR5.out hst)
  clear hst hb
  go_wp2_with fail
  refine (HK.out.all_ _ A c ?_ HL.out).mono ?_
  · exact Rd.below HA.out (by repeat (first | (with_reducible exact Below.refl _ _) | (with_reducible apply bAl) | (with_reducible apply bDr) | (with_reducible apply bDrN) | ((with_reducible refine bSt ?_ ?_ _); (first | (with_reducible assumption) | omega | (simp <;> omega)))))
  rintro e w8 ⟨A8, c8', rfl, hc', hR', hb⟩
  (have hst : Below w7.heap.size w7 w8 := bCall (by repeat (first | (with_reducible exact Below.refl _ _) | (with_reducible apply bAl) | (with_reducible apply bDr) | (with_reducible apply bDrN) | ((with_reducible refine bSt ?_ ?_ _); (first | (with_reducible assumption) | omega | (simp <;> omega))))) hb); (replace HB : Hid (Below w.heap.size w w8) := bCall HB.out hst); (have := HB.out.size)
  (replace B0 : Hid (Blk w8 _ _ _) := Blk.below B0.out hst); (replace c0 := (B0.out).cell); (replace f0 := (B0.out).froz); (replace l0 := (B0.out).lt); (replace B1 : Hid (Blk w8 _ _ _) := Blk.below B1.out hst); (replace c1 := (B1.out).cell); (replace f1 := (B1.out).froz); (replace l1 := (B1.out).lt); (replace B2 : Hid (Blk w8 _ _ _) := Blk.below B2.out hst); (replace c2 := (B2.out).cell); (replace f2 := (B2.out).froz); (replace l2 := (B2.out).lt)
  (replace HA : Hid (Rd w8 _ _) := Rd.below HA.out hst)
  (replace HR1 : Hid (Rd w8 _ _) := Rd.below HR1.out hst)
  (replace HR5 : Hid (Rd w8 _ _) := Rd.below HR5.out hst)
  have HR8 : Hid (Rd w8 A8 (entCells ([] : List Ent))) := hR'.rd
  clear hc' hR' hst hb
  go_wp2_with fail
  refine (HK.out.selfr _ A8 c8' A1 c1' HR8.out HR1.out).mono ?_
  rintro e w9 ⟨rfl, hb⟩
  (have hst : Below w8.heap.size w8 w9 := bCall (by repeat (first | (with_reducible exact Below.refl _ _) | (with_reducible apply bAl) | (with_reducible apply bDr) | (with_reducible apply bDrN) | ((with_reducible refine bSt ?_ ?_ _); (first | (with_reducible assumption) | omega | (simp <;> omega))))) hb); (replace HB : Hid (Below w.heap.size w w9) := bCall HB.out hst); (have := HB.out.size)
  (replace B0 : Hid (Blk w9 _ _ _) := Blk.below B0.out hst); (replace c0 := (B0.out).cell); (replace f0 := (B0.out).froz); (replace l0 := (B0.out).lt); (replace B1 : Hid (Blk w9 _ _ _) := Blk.below B1.out hst); (replace c1 := (B1.out).cell); (replace f1 := (B1.out).froz); (replace l1 := (B1.out).lt); (replace B2 : Hid (Blk w9 _ _ _) := Blk.below B2.out hst); (replace c2 := (B2.out).cell); (replace f2 := (B2.out).froz); (replace l2 := (B2.out).lt)
  (replace HA : Hid (Rd w9 _ _) := Rd.below HA.out hst)
  (replace HR1 : Hid (Rd w9 _ _) := Rd.below HR1.out hst)
  (replace HR5 : Hid (Rd w9 _ _) := Rd.below HR5.out hst)
  clear hst hb
  go_wp2_with fail
  refine (HK.out.take_ _ A c ?_ HL.out).mono ?_
  · exact Rd.below HA.out (by repeat (first | (with_reducible exact Below.refl _ _) | (with_reducible apply bAl) | (with_reducible apply bDr) | (with_reducible apply bDrN) | ((with_reducible refine bSt ?_ ?_ _); (first | (with_reducible assumption) | omega | (simp <;> omega)))))
  rintro e w10 ⟨A10, c10', rfl, hc', hR', hb⟩
  dsimp only [ringVal, entVal]
  (have hst : Below w9.heap.size w9 w10 := bCall (by repeat (first | (with_reducible exact Below.refl _ _) | (with_reducible apply bAl) | (with_reducible apply bDr) | (with_reducible apply bDrN) | ((with_reducible refine bSt ?_ ?_ _); (first | (with_reducible assumption) | omega | (simp <;> omega))))) hb); (replace HB : Hid (Below w.heap.size w w10) := bCall HB.out hst); (have := HB.out.size)
  have HR10 : Hid (Rd w10 A10 (entCells s.L)) := hR'.rd
  have HL10 : Hid (s.L.length ≤ c10') := hc'
  clear hc' hR' hst hb
  go_wp2_with fail
  refine (HK.out.alls _ A10 c10' ?_ HL10.out).mono ?_
  · exact Rd.below HR10.out (by repeat (first | (with_reducible exact Below.refl _ _) | (with_reducible apply bAl) | (with_reducible apply bDr) | (with_reducible apply bDrN) | ((with_reducible refine bSt ?_ ?_ _); (first | (with_reducible assumption) | omega | (simp <;> omega)))))
  rintro e w11 ⟨A11, c11', rfl, hc', hR', hb⟩
  (have hst : Below w10.heap.size w10 w11 := bCall (by repeat (first | (with_reducible exact Below.refl _ _) | (with_reducible apply bAl) | (with_reducible apply bDr) | (with_reducible apply bDrN) | ((with_reducible refine bSt ?_ ?_ _); (first | (with_reducible assumption) | omega | (simp <;> omega))))) hb); (replace HB : Hid (Below w.heap.size w w11) := bCall HB.out hst); (have := HB.out.size)
  clear hc' hR' hst hb
  go_wp2_with fail
  refine (ringed19 _).mono ?_
  rintro e w12 ⟨rfl, hb⟩
  (have hst : Below w11.heap.size w11 w12 := bCall (by repeat (first | (with_reducible exact Below.refl _ _) | (with_reducible apply bAl) | (with_reducible apply bDr) | (with_reducible apply bDrN) | ((with_reducible refine bSt ?_ ?_ _); (first | (with_reducible assumption) | omega | (simp <;> omega))))) hb); (replace HB : Hid (Below w.heap.size w w12) := bCall HB.out hst); (have := HB.out.size)
  clear hst hb
  go_wp2
  go_ret
  refine ⟨rfl, ?_⟩
  repeat (first | (with_reducible exact HB.out) | (with_reducible apply bAl) | (with_reducible apply bDr) | (with_reducible apply bDrN) | ((with_reducible refine bSt ?_ ?_ _); (first | (with_reducible assumption) | omega | (simp <;> omega))))
set_option maxRecDepth 100000 in set_option maxHeartbeats 4000000 in
theorem keepsNo01 (r : RingS) (A : Option Addr) (c : Nat) (x y : Ent) (w : World) (hA : Rd w A (entCells r.L)) (hl : r.L.length ≤ c) (hs : r.L.length ≤ 200) (xs ys rest : List Ent) (qx qy s : RingS) (first : Ent)
    (hK : KeepsIn r x y ([] : List Ent) xs ys rest qx qy s 0 1 first false) :
    Calls Try.prog 5 #[.agg #[.int .i64 r.room, .slice A r.L.length c, .int .u64 r.gap.st, .int .u64 r.gap.e.sq, .int .i64 r.gap.e.tk, .int .i64 r.gap.e.pt, .int .i64 r.gap.e.kd, .int .i64 r.gap.e.a, .int .i64 r.gap.e.b], .agg #[.int .u64 x.st, .int .u64 x.e.sq, .int .i64 x.e.tk, .int .i64 x.e.pt, .int .i64 x.e.kd, .int .i64 x.e.a, .int .i64 x.e.b], .agg #[.int .u64 y.st, .int .u64 y.e.sq, .int .i64 y.e.tk, .int .i64 y.e.pt, .int .i64 y.e.kd, .int .i64 y.e.a, .int .i64 y.e.b]] w fun e w' => e = .returned (.bool true) ∧ Below w.heap.size w w' := by
  have hu29 := Try.underlying29; have hu27 := Try.underlying27; have hu25 := Try.underlying25
  have HA : Hid (Rd w A (entCells r.L)) := hA
  have HL : Hid (r.L.length ≤ c) := hl
  have HK := Lib.hid hK
  have HB : Hid (Below w.heap.size w w) := Below.refl _ _
  clear hA hl hK
  have hl1 : ¬ (200 : Int) < (r.L.length : Int) := by omega
  go_enter Try.func5, Try.ntmps5
  go_wp2_with fail
  refine (HK.out.all_ _ A c ?_ HL.out).mono ?_
  · exact Rd.below HA.out (by repeat (first | (with_reducible exact Below.refl _ _) | (with_reducible apply bAl) | (with_reducible apply bDr) | (with_reducible apply bDrN) | ((with_reducible refine bSt ?_ ?_ _); (first | (with_reducible assumption) | omega | (simp <;> omega)))))
  rintro e w1 ⟨A1, c1', rfl, hc', hR', hb⟩
  (have hst : Below w.heap.size w w1 := bCall (by repeat (first | (with_reducible exact Below.refl _ _) | (with_reducible apply bAl) | (with_reducible apply bDr) | (with_reducible apply bDrN) | ((with_reducible refine bSt ?_ ?_ _); (first | (with_reducible assumption) | omega | (simp <;> omega))))) hb); (replace HB : Hid (Below w.heap.size w w1) := bCall HB.out hst); (have := HB.out.size)
  (replace B0 : Hid (Blk w1 (w.heap.size) _ _) := Blk.below (by repeat (first | (with_reducible exact B0.out) | ((with_reducible apply Blk.newAt); (first | (with_reducible rfl) | (simp <;> omega))) | (with_reducible apply Blk.alloc) | (with_reducible apply Blk.drew) | (with_reducible apply Blk.drewN) | (with_reducible apply Blk.set) | ((with_reducible apply Blk.setO); (first | (with_reducible assumption) | omega | (simp <;> omega))))) hb); (replace c0 := (B0.out).cell); (replace f0 := (B0.out).froz); (replace l0 := (B0.out).lt)
  (replace B1 : Hid (Blk w1 (w.heap.size + 1) _ _) := Blk.below (by repeat (first | (with_reducible exact B1.out) | ((with_reducible apply Blk.newAt); (first | (with_reducible rfl) | (simp <;> omega))) | (with_reducible apply Blk.alloc) | (with_reducible apply Blk.drew) | (with_reducible apply Blk.drewN) | (with_reducible apply Blk.set) | ((with_reducible apply Blk.setO); (first | (with_reducible assumption) | omega | (simp <;> omega))))) hb); (replace c1 := (B1.out).cell); (replace f1 := (B1.out).froz); (replace l1 := (B1.out).lt)
  (replace B2 : Hid (Blk w1 (w.heap.size + 1 + 1) _ _) := Blk.below (by repeat (first | (with_reducible exact B2.out) | ((with_reducible apply Blk.newAt); (first | (with_reducible rfl) | (simp <;> omega))) | (with_reducible apply Blk.alloc) | (with_reducible apply Blk.drew) | (with_reducible apply Blk.drewN) | (with_reducible apply Blk.set) | ((with_reducible apply Blk.setO); (first | (with_reducible assumption) | omega | (simp <;> omega))))) hb); (replace c2 := (B2.out).cell); (replace f2 := (B2.out).froz); (replace l2 := (B2.out).lt)
  (replace HA : Hid (Rd w1 _ _) := Rd.below HA.out hst)
  have HR1 : Hid (Rd w1 A1 (entCells ([] : List Ent))) := hR'.rd
  clear hc' hR' hst hb
  go_wp2_with fail
  refine (HK.out.putx _ A c ?_).mono ?_
  · exact Rd.below HA.out (by repeat (first | (with_reducible exact Below.refl _ _) | (with_reducible apply bAl) | (with_reducible apply bDr) | (with_reducible apply bDrN) | ((with_reducible refine bSt ?_ ?_ _); (first | (with_reducible assumption) | omega | (simp <;> omega)))))
  rintro e w2 ⟨A2, c2', rfl, hc', hR', hb⟩
  dsimp only [ringVal]
  (have hst : Below w1.heap.size w1 w2 := bCall (by repeat (first | (with_reducible exact Below.refl _ _) | (with_reducible apply bAl) | (with_reducible apply bDr) | (with_reducible apply bDrN) | ((with_reducible refine bSt ?_ ?_ _); (first | (with_reducible assumption) | omega | (simp <;> omega))))) hb); (replace HB : Hid (Below w.heap.size w w2) := bCall HB.out hst); (have := HB.out.size)
  (replace B0 : Hid (Blk w2 _ _ _) := Blk.below B0.out hst); (replace c0 := (B0.out).cell); (replace f0 := (B0.out).froz); (replace l0 := (B0.out).lt); (replace B1 : Hid (Blk w2 _ _ _) := Blk.below B1.out hst); (replace c1 := (B1.out).cell); (replace f1 := (B1.out).froz); (replace l1 := (B1.out).lt); (replace B2 : Hid (Blk w2 _ _ _) := Blk.below B2.out hst); (replace c2 := (B2.out).cell); (replace f2 := (B2.out).froz); (replace l2 := (B2.out).lt)
  (replace HA : Hid (Rd w2 _ _) := Rd.below HA.out hst)
  (replace HR1 : Hid (Rd w2 _ _) := Rd.below HR1.out hst)
  have HR2 : Hid (Rd w2 A2 (entCells qx.L)) := hR'.rd
  have HL2 : Hid (qx.L.length ≤ c2') := hc'
  clear hc' hR' hst hb
  go_wp2_with fail
  refine (HK.out.allx _ A2 c2' ?_ HL2.out).mono ?_
  · exact Rd.below HR2.out (by repeat (first | (with_reducible exact Below.refl _ _) | (with_reducible apply bAl) | (with_reducible apply bDr) | (with_reducible apply bDrN) | ((with_reducible refine bSt ?_ ?_ _); (first | (with_reducible assumption) | omega | (simp <;> omega)))))
  rintro e w3 ⟨A3, c3', rfl, hc', hR', hb⟩
  (have hst : Below w2.heap.size w2 w3 := bCall (by repeat (first | (with_reducible exact Below.refl _ _) | (with_reducible apply bAl) | (with_reducible apply bDr) | (with_reducible apply bDrN) | ((with_reducible refine bSt ?_ ?_ _); (first | (with_reducible assumption) | omega | (simp <;> omega))))) hb); (replace HB : Hid (Below w.heap.size w w3) := bCall HB.out hst); (have := HB.out.size)
  (replace B0 : Hid (Blk w3 _ _ _) := Blk.below B0.out hst); (replace c0 := (B0.out).cell); (replace f0 := (B0.out).froz); (replace l0 := (B0.out).lt); (replace B1 : Hid (Blk w3 _ _ _) := Blk.below B1.out hst); (replace c1 := (B1.out).cell); (replace f1 := (B1.out).froz); (replace l1 := (B1.out).lt); (replace B2 : Hid (Blk w3 _ _ _) := Blk.below B2.out hst); (replace c2 := (B2.out).cell); (replace f2 := (B2.out).froz); (replace l2 := (B2.out).lt)
  (replace B3 : Hid (Blk w3 (w2.heap.size) _ _) := Blk.below (by repeat (first | (with_reducible exact B3.out) | ((with_reducible apply Blk.newAt); (first | (with_reducible rfl) | (simp <;> omega))) | (with_reducible apply Blk.alloc) | (with_reducible apply Blk.drew) | (with_reducible apply Blk.drewN) | (with_reducible apply Blk.set) | ((with_reducible apply Blk.setO); (first | (with_reducible assumption) | omega | (simp <;> omega))))) hb); (replace c3 := (B3.out).cell); (replace f3 := (B3.out).froz); (replace l3 := (B3.out).lt)
  (replace HA : Hid (Rd w3 _ _) := Rd.below HA.out hst)
  (replace HR1 : Hid (Rd w3 _ _) := Rd.below HR1.out hst)
  (replace HR2 : Hid (Rd w3 _ _) := Rd.below HR2.out hst)
  have HR3 : Hid (Rd w3 A3 (entCells xs)) := hR'.rd
  clear hc' hR' hst hb
  go_wp2_with fail
  refine (HK.out.puty _ A c ?_).mono ?_
  · exact Rd.below HA.out (by repeat (first | (with_reducible exact Below.refl _ _) | (with_reducible apply bAl) | (with_reducible apply bDr) | (with_reducible apply bDrN) | ((with_reducible refine bSt ?_ ?_ _); (first | (with_reducible assumption) | omega | (simp <;> omega)))))
  rintro e w4 ⟨A4, c4', rfl, hc', hR', hb⟩
  dsimp only [ringVal]
  (have hst : Below w3.heap.size w3 w4 := bCall (by repeat (first | (with_reducible exact Below.refl _ _) | (with_reducible apply bAl) | (with_reducible apply bDr) | (with_reducible apply bDrN) | ((with_reducible refine bSt ?_ ?_ _); (first | (with_reducible assumption) | omega | (simp <;> omega))))) hb); (replace HB : Hid (Below w.heap.size w w4) := bCall HB.out hst); (have := HB.out.size)
  (replace B0 : Hid (Blk w4 _ _ _) := Blk.below B0.out hst); (replace c0 := (B0.out).cell); (replace f0 := (B0.out).froz); (replace l0 := (B0.out).lt); (replace B1 : Hid (Blk w4 _ _ _) := Blk.below B1.out hst); (replace c1 := (B1.out).cell); (replace f1 := (B1.out).froz); (replace l1 := (B1.out).lt); (replace B2 : Hid (Blk w4 _ _ _) := Blk.below B2.out hst); (replace c2 := (B2.out).cell); (replace f2 := (B2.out).froz); (replace l2 := (B2.out).lt)
  (replace B3 : Hid (Blk w4 _ _ _) := Blk.below B3.out hst); (replace c3 := (B3.out).cell); (replace f3 := (B3.out).froz); (replace l3 := (B3.out).lt)
  (replace HA : Hid (Rd w4 _ _) := Rd.below HA.out hst)
  (replace HR1 : Hid (Rd w4 _ _) := Rd.below HR1.out hst)
  (replace HR2 : Hid (Rd w4 _ _) := Rd.below HR2.out hst)
  (replace HR3 : Hid (Rd w4 _ _) := Rd.below HR3.out hst)
  have HR4 : Hid (Rd w4 A4 (entCells qy.L)) := hR'.rd
  have HL4 : Hid (qy.L.length ≤ c4') := hc'
  clear hc' hR' hst hb
  go_wp2_with fail
  refine (HK.out.ally _ A4 c4' ?_ HL4.out).mono ?_
  · exact Rd.below HR4.out (by repeat (first | (with_reducible exact Below.refl _ _) | (with_reducible apply bAl) | (with_reducible apply bDr) | (with_reducible apply bDrN) | ((with_reducible refine bSt ?_ ?_ _); (first | (with_reducible assumption) | omega | (simp <;> omega)))))
  rintro e w5 ⟨A5, c5', rfl, hc', hR', hb⟩
  (have hst : Below w4.heap.size w4 w5 := bCall (by repeat (first | (with_reducible exact Below.refl _ _) | (with_reducible apply bAl) | (with_reducible apply bDr) | (with_reducible apply bDrN) | ((with_reducible refine bSt ?_ ?_ _); (first | (with_reducible assumption) | omega | (simp <;> omega))))) hb); (replace HB : Hid (Below w.heap.size w w5) := bCall HB.out hst); (have := HB.out.size)
  (replace B0 : Hid (Blk w5 _ _ _) := Blk.below B0.out hst); (replace c0 := (B0.out).cell); (replace f0 := (B0.out).froz); (replace l0 := (B0.out).lt); (replace B1 : Hid (Blk w5 _ _ _) := Blk.below B1.out hst); (replace c1 := (B1.out).cell); (replace f1 := (B1.out).froz); (replace l1 := (B1.out).lt); (replace B2 : Hid (Blk w5 _ _ _) := Blk.below B2.out hst); (replace c2 := (B2.out).cell); (replace f2 := (B2.out).froz); (replace l2 := (B2.out).lt)
  (replace B3 : Hid (Blk w5 _ _ _) := Blk.below B3.out hst); (replace c3 := (B3.out).cell); (replace f3 := (B3.out).froz); (replace l3 := (B3.out).lt)
  (replace HA : Hid (Rd w5 _ _) := Rd.below HA.out hst)
  (replace HR1 : Hid (Rd w5 _ _) := Rd.below HR1.out hst)
  (replace HR2 : Hid (Rd w5 _ _) := Rd.below HR2.out hst)
  (replace HR3 : Hid (Rd w5 _ _) := Rd.below HR3.out hst)
  have HR5 : Hid (Rd w5 A5 (entCells ys)) := hR'.rd
  clear hc' hR' hst hb
  go_wp2_with fail
  refine (HK.out.allx _ A2 c2' ?_ HL2.out).mono ?_
  · exact Rd.below HR2.out (by repeat (first | (with_reducible exact Below.refl _ _) | (with_reducible apply bAl) | (with_reducible apply bDr) | (with_reducible apply bDrN) | ((with_reducible refine bSt ?_ ?_ _); (first | (with_reducible assumption) | omega | (simp <;> omega)))))
  rintro e w6 ⟨A6, c6', rfl, hc', hR', hb⟩
  (have hst : Below w5.heap.size w5 w6 := bCall (by repeat (first | (with_reducible exact Below.refl _ _) | (with_reducible apply bAl) | (with_reducible apply bDr) | (with_reducible apply bDrN) | ((with_reducible refine bSt ?_ ?_ _); (first | (with_reducible assumption) | omega | (simp <;> omega))))) hb); (replace HB : Hid (Below w.heap.size w w6) := bCall HB.out hst); (have := HB.out.size)
  (replace B0 : Hid (Blk w6 _ _ _) := Blk.below B0.out hst); (replace c0 := (B0.out).cell); (replace f0 := (B0.out).froz); (replace l0 := (B0.out).lt); (replace B1 : Hid (Blk w6 _ _ _) := Blk.below B1.out hst); (replace c1 := (B1.out).cell); (replace f1 := (B1.out).froz); (replace l1 := (B1.out).lt); (replace B2 : Hid (Blk w6 _ _ _) := Blk.below B2.out hst); (replace c2 := (B2.out).cell); (replace f2 := (B2.out).froz); (replace l2 := (B2.out).lt)
  (replace HA : Hid (Rd w6 _ _) := Rd.below HA.out hst)
  (replace HR1 : Hid (Rd w6 _ _) := Rd.below HR1.out hst)
  (replace HR3 : Hid (Rd w6 _ _) := Rd.below HR3.out hst)
  (replace HR5 : Hid (Rd w6 _ _) := Rd.below HR5.out hst)
  have HR6 : Hid (Rd w6 A6 (entCells xs)) := hR'.rd
  clear hc' hR' hst hb
  go_wp2_with fail
  refine (HK.out.selfx _ A6 c6' A3 c3' HR6.out HR3.out).mono ?_
  rintro e w7 ⟨rfl, hb⟩
  (have hst : Below w6.heap.size w6 w7 := bCall (by repeat (first | (with_reducible exact Below.refl _ _) | (with_reducible apply bAl) | (with_reducible apply bDr) | (with_reducible apply bDrN) | ((with_reducible refine bSt ?_ ?_ _); (first | (with_reducible assumption) | omega | (simp <;> omega))))) hb); (replace HB : Hid (Below w.heap.size w w7) := bCall HB.out hst); (have := HB.out.size)
  (replace B0 : Hid (Blk w7 _ _ _) := Blk.below B0.out hst); (replace c0 := (B0.out).cell); (replace f0 := (B0.out).froz); (replace l0 := (B0.out).lt); (replace B1 : Hid (Blk w7 _ _ _) := Blk.below B1.out hst); (replace c1 := (B1.out).cell); (replace f1 := (B1.out).froz); (replace l1 := (B1.out).lt); (replace B2 : Hid (Blk w7 _ _ _) := Blk.below B2.out hst); (replace c2 := (B2.out).cell); (replace f2 := (B2.out).froz); (replace l2 := (B2.out).lt)
  (replace HA : Hid (Rd w7 _ _) := Rd.below HA.out hst)
  (replace HR1 : Hid (Rd w7 _ _) := Rd.below HR1.out hst)
  (replace HR5 : Hid (Rd w7 _ _) := Rd.below HR5.out hst)
  clear hst hb
  go_wp2_with fail
  refine (HK.out.all_ _ A c ?_ HL.out).mono ?_
  · exact Rd.below HA.out (by repeat (first | (with_reducible exact Below.refl _ _) | (with_reducible apply bAl) | (with_reducible apply bDr) | (with_reducible apply bDrN) | ((with_reducible refine bSt ?_ ?_ _); (first | (with_reducible assumption) | omega | (simp <;> omega)))))
  rintro e w8 ⟨A8, c8', rfl, hc', hR', hb⟩
  (have hst : Below w7.heap.size w7 w8 := bCall (by repeat (first | (with_reducible exact Below.refl _ _) | (with_reducible apply bAl) | (with_reducible apply bDr) | (with_reducible apply bDrN) | ((with_reducible refine bSt ?_ ?_ _); (first | (with_reducible assumption) | omega | (simp <;> omega))))) hb); (replace HB : Hid (Below w.heap.size w w8) := bCall HB.out hst); (have := HB.out.size)
  (replace B0 : Hid (Blk w8 _ _ _) := Blk.below B0.out hst); (replace c0 := (B0.out).cell); (replace f0 := (B0.out).froz); (replace l0 := (B0.out).lt); (replace B1 : Hid (Blk w8 _ _ _) := Blk.below B1.out hst); (replace c1 := (B1.out).cell); (replace f1 := (B1.out).froz); (replace l1 := (B1.out).lt); (replace B2 : Hid (Blk w8 _ _ _) := Blk.below B2.out hst); (replace c2 := (B2.out).cell); (replace f2 := (B2.out).froz); (replace l2 := (B2.out).lt)
  (replace HA : Hid (Rd w8 _ _) := Rd.below HA.out hst)
  (replace HR1 : Hid (Rd w8 _ _) := Rd.below HR1.out hst)
  (replace HR5 : Hid (Rd w8 _ _) := Rd.below HR5.out hst)
  have HR8 : Hid (Rd w8 A8 (entCells ([] : List Ent))) := hR'.rd
  clear hc' hR' hst hb
  go_wp2_with fail
  refine (HK.out.selfr _ A8 c8' A1 c1' HR8.out HR1.out).mono ?_
  rintro e w9 ⟨rfl, hb⟩
  (have hst : Below w8.heap.size w8 w9 := bCall (by repeat (first | (with_reducible exact Below.refl _ _) | (with_reducible apply bAl) | (with_reducible apply bDr) | (with_reducible apply bDrN) | ((with_reducible refine bSt ?_ ?_ _); (first | (with_reducible assumption) | omega | (simp <;> omega))))) hb); (replace HB : Hid (Below w.heap.size w w9) := bCall HB.out hst); (have := HB.out.size)
  (replace B0 : Hid (Blk w9 _ _ _) := Blk.below B0.out hst); (replace c0 := (B0.out).cell); (replace f0 := (B0.out).froz); (replace l0 := (B0.out).lt); (replace B1 : Hid (Blk w9 _ _ _) := Blk.below B1.out hst); (replace c1 := (B1.out).cell); (replace f1 := (B1.out).froz); (replace l1 := (B1.out).lt); (replace B2 : Hid (Blk w9 _ _ _) := Blk.below B2.out hst); (replace c2 := (B2.out).cell); (replace f2 := (B2.out).froz); (replace l2 := (B2.out).lt)
  (replace HA : Hid (Rd w9 _ _) := Rd.below HA.out hst)
  (replace HR1 : Hid (Rd w9 _ _) := Rd.below HR1.out hst)
  (replace HR5 : Hid (Rd w9 _ _) := Rd.below HR5.out hst)
  clear hst hb
  go_wp2_with fail
  refine (HK.out.take_ _ A c ?_ HL.out).mono ?_
  · exact Rd.below HA.out (by repeat (first | (with_reducible exact Below.refl _ _) | (with_reducible apply bAl) | (with_reducible apply bDr) | (with_reducible apply bDrN) | ((with_reducible refine bSt ?_ ?_ _); (first | (with_reducible assumption) | omega | (simp <;> omega)))))
  rintro e w10 ⟨A10, c10', rfl, hc', hR', hb⟩
  dsimp only [ringVal, entVal]
  (have hst : Below w9.heap.size w9 w10 := bCall (by repeat (first | (with_reducible exact Below.refl _ _) | (with_reducible apply bAl) | (with_reducible apply bDr) | (with_reducible apply bDrN) | ((with_reducible refine bSt ?_ ?_ _); (first | (with_reducible assumption) | omega | (simp <;> omega))))) hb); (replace HB : Hid (Below w.heap.size w w10) := bCall HB.out hst); (have := HB.out.size)
  have HR10 : Hid (Rd w10 A10 (entCells s.L)) := hR'.rd
  have HL10 : Hid (s.L.length ≤ c10') := hc'
  clear hc' hR' hst hb
  go_wp2_with fail
  refine (HK.out.alls _ A10 c10' ?_ HL10.out).mono ?_
  · exact Rd.below HR10.out (by repeat (first | (with_reducible exact Below.refl _ _) | (with_reducible apply bAl) | (with_reducible apply bDr) | (with_reducible apply bDrN) | ((with_reducible refine bSt ?_ ?_ _); (first | (with_reducible assumption) | omega | (simp <;> omega)))))
  rintro e w11 ⟨A11, c11', rfl, hc', hR', hb⟩
  (have hst : Below w10.heap.size w10 w11 := bCall (by repeat (first | (with_reducible exact Below.refl _ _) | (with_reducible apply bAl) | (with_reducible apply bDr) | (with_reducible apply bDrN) | ((with_reducible refine bSt ?_ ?_ _); (first | (with_reducible assumption) | omega | (simp <;> omega))))) hb); (replace HB : Hid (Below w.heap.size w w11) := bCall HB.out hst); (have := HB.out.size)
  clear hc' hR' hst hb
  go_wp2_with fail
  refine (ringed19 _).mono ?_
  rintro e w12 ⟨rfl, hb⟩
  (have hst : Below w11.heap.size w11 w12 := bCall (by repeat (first | (with_reducible exact Below.refl _ _) | (with_reducible apply bAl) | (with_reducible apply bDr) | (with_reducible apply bDrN) | ((with_reducible refine bSt ?_ ?_ _); (first | (with_reducible assumption) | omega | (simp <;> omega))))) hb); (replace HB : Hid (Below w.heap.size w w12) := bCall HB.out hst); (have := HB.out.size)
  clear hst hb
  go_wp2
  go_ret
  refine ⟨rfl, ?_⟩
  repeat (first | (with_reducible exact HB.out) | (with_reducible apply bAl) | (with_reducible apply bDr) | (with_reducible apply bDrN) | ((with_reducible refine bSt ?_ ?_ _); (first | (with_reducible assumption) | omega | (simp <;> omega))))
set_option maxRecDepth 100000 in set_option maxHeartbeats 4000000 in
theorem keepsNo00 (r : RingS) (A : Option Addr) (c : Nat) (x y : Ent) (w : World) (hA : Rd w A (entCells r.L)) (hl : r.L.length ≤ c) (hs : r.L.length ≤ 200) (xs ys rest : List Ent) (qx qy s : RingS) (first : Ent)
    (hK : KeepsIn r x y ([] : List Ent) xs ys rest qx qy s 0 0 first false) (hxy : ((xs.length : Int) != (ys.length : Int)) = false) (hwx : ¬ (xs.length : Int) < 0) :
    Calls Try.prog 5 #[.agg #[.int .i64 r.room, .slice A r.L.length c, .int .u64 r.gap.st, .int .u64 r.gap.e.sq, .int .i64 r.gap.e.tk, .int .i64 r.gap.e.pt, .int .i64 r.gap.e.kd, .int .i64 r.gap.e.a, .int .i64 r.gap.e.b], .agg #[.int .u64 x.st, .int .u64 x.e.sq, .int .i64 x.e.tk, .int .i64 x.e.pt, .int .i64 x.e.kd, .int .i64 x.e.a, .int .i64 x.e.b], .agg #[.int .u64 y.st, .int .u64 y.e.sq, .int .i64 y.e.tk, .int .i64 y.e.pt, .int .i64 y.e.kd, .int .i64 y.e.a, .int .i64 y.e.b]] w fun e w' => e = .returned (.bool true) ∧ Below w.heap.size w w' := by
  have hu29 := Try.underlying29; have hu27 := Try.underlying27; have hu25 := Try.underlying25
  have HA : Hid (Rd w A (entCells r.L)) := hA
  have HL : Hid (r.L.length ≤ c) := hl
  have HK := Lib.hid hK
  have HB : Hid (Below w.heap.size w w) := Below.refl _ _
  clear hA hl hK
  have hl1 : ¬ (200 : Int) < (r.L.length : Int) := by omega
  go_enter Try.func5, Try.ntmps5
  go_wp2_with fail
  refine (HK.out.all_ _ A c ?_ HL.out).mono ?_
  · exact Rd.below HA.out (by repeat (first | (with_reducible exact Below.refl _ _) | (with_reducible apply bAl) | (with_reducible apply bDr) | (with_reducible apply bDrN) | ((with_reducible refine bSt ?_ ?_ _); (first | (with_reducible assumption) | omega | (simp <;> omega)))))
  rintro e w1 ⟨A1, c1', rfl, hc', hR', hb⟩
  (have hst : Below w.heap.size w w1 := bCall (by repeat (first | (with_reducible exact Below.refl _ _) | (with_reducible apply bAl) | (with_reducible apply bDr) | (with_reducible apply bDrN) | ((with_reducible refine bSt ?_ ?_ _); (first | (with_reducible assumption) | omega | (simp <;> omega))))) hb); (replace HB : Hid (Below w.heap.size w w1) := bCall HB.out hst); (have := HB.out.size)
  (replace B0 : Hid (Blk w1 (w.heap.size) _ _) := Blk.below (by repeat (first | (with_reducible exact B0.out) | ((with_reducible apply Blk.newAt); (first | (with_reducible rfl) | (simp <;> omega))) | (with_reducible apply Blk.alloc) | (with_reducible apply Blk.drew) | (with_reducible apply Blk.drewN) | (with_reducible apply Blk.set) | ((with_reducible apply Blk.setO); (first | (with_reducible assumption) | omega | (simp <;> omega))))) hb); (replace c0 := (B0.out).cell); (replace f0 := (B0.out).froz); (replace l0 := (B0.out).lt)
  (replace B1 : Hid (Blk w1 (w.heap.size + 1) _ _) := Blk.below (by repeat (first | (with_reducible exact B1.out) | ((with_reducible apply Blk.newAt); (first | (with_reducible rfl) | (simp <;> omega))) | (with_reducible apply Blk.alloc) | (with_reducible apply Blk.drew) | (with_reducible apply Blk.drewN) | (with_reducible apply Blk.set) | ((with_reducible apply Blk.setO); (first | (with_reducible assumption) | omega | (simp <;> omega))))) hb); (replace c1 := (B1.out).cell); (replace f1 := (B1.out).froz); (replace l1 := (B1.out).lt)
  (replace B2 : Hid (Blk w1 (w.heap.size + 1 + 1) _ _) := Blk.below (by repeat (first | (with_reducible exact B2.out) | ((with_reducible apply Blk.newAt); (first | (with_reducible rfl) | (simp <;> omega))) | (with_reducible apply Blk.alloc) | (with_reducible apply Blk.drew) | (with_reducible apply Blk.drewN) | (with_reducible apply Blk.set) | ((with_reducible apply Blk.setO); (first | (with_reducible assumption) | omega | (simp <;> omega))))) hb); (replace c2 := (B2.out).cell); (replace f2 := (B2.out).froz); (replace l2 := (B2.out).lt)
  (replace HA : Hid (Rd w1 _ _) := Rd.below HA.out hst)
  have HR1 : Hid (Rd w1 A1 (entCells ([] : List Ent))) := hR'.rd
  clear hc' hR' hst hb
  go_wp2_with fail
  refine (HK.out.putx _ A c ?_).mono ?_
  · exact Rd.below HA.out (by repeat (first | (with_reducible exact Below.refl _ _) | (with_reducible apply bAl) | (with_reducible apply bDr) | (with_reducible apply bDrN) | ((with_reducible refine bSt ?_ ?_ _); (first | (with_reducible assumption) | omega | (simp <;> omega)))))
  rintro e w2 ⟨A2, c2', rfl, hc', hR', hb⟩
  dsimp only [ringVal]
  (have hst : Below w1.heap.size w1 w2 := bCall (by repeat (first | (with_reducible exact Below.refl _ _) | (with_reducible apply bAl) | (with_reducible apply bDr) | (with_reducible apply bDrN) | ((with_reducible refine bSt ?_ ?_ _); (first | (with_reducible assumption) | omega | (simp <;> omega))))) hb); (replace HB : Hid (Below w.heap.size w w2) := bCall HB.out hst); (have := HB.out.size)
  (replace B0 : Hid (Blk w2 _ _ _) := Blk.below B0.out hst); (replace c0 := (B0.out).cell); (replace f0 := (B0.out).froz); (replace l0 := (B0.out).lt); (replace B1 : Hid (Blk w2 _ _ _) := Blk.below B1.out hst); (replace c1 := (B1.out).cell); (replace f1 := (B1.out).froz); (replace l1 := (B1.out).lt); (replace B2 : Hid (Blk w2 _ _ _) := Blk.below B2.out hst); (replace c2 := (B2.out).cell); (replace f2 := (B2.out).froz); (replace l2 := (B2.out).lt)
  (replace HA : Hid (Rd w2 _ _) := Rd.below HA.out hst)
  (replace HR1 : Hid (Rd w2 _ _) := Rd.below HR1.out hst)
  have HR2 : Hid (Rd w2 A2 (entCells qx.L)) := hR'.rd
  have HL2 : Hid (qx.L.length ≤ c2') := hc'
  clear hc' hR' hst hb
  go_wp2_with fail
  refine (HK.out.allx _ A2 c2' ?_ HL2.out).mono ?_
  · exact Rd.below HR2.out (by repeat (first | (with_reducible exact Below.refl _ _) | (with_reducible apply bAl) | (with_reducible apply bDr) | (with_reducible apply bDrN) | ((with_reducible refine bSt ?_ ?_ _); (first | (with_reducible assumption) | omega | (simp <;> omega)))))
  rintro e w3 ⟨A3, c3', rfl, hc', hR', hb⟩
  (have hst : Below w2.heap.size w2 w3 := bCall (by repeat (first | (with_reducible exact Below.refl _ _) | (with_reducible apply bAl) | (with_reducible apply bDr) | (with_reducible apply bDrN) | ((with_reducible refine bSt ?_ ?_ _); (first | (with_reducible assumption) | omega | (simp <;> omega))))) hb); (replace HB : Hid (Below w.heap.size w w3) := bCall HB.out hst); (have := HB.out.size)
  (replace B0 : Hid (Blk w3 _ _ _) := Blk.below B0.out hst); (replace c0 := (B0.out).cell); (replace f0 := (B0.out).froz); (replace l0 := (B0.out).lt); (replace B1 : Hid (Blk w3 _ _ _) := Blk.below B1.out hst); (replace c1 := (B1.out).cell); (replace f1 := (B1.out).froz); (replace l1 := (B1.out).lt); (replace B2 : Hid (Blk w3 _ _ _) := Blk.below B2.out hst); (replace c2 := (B2.out).cell); (replace f2 := (B2.out).froz); (replace l2 := (B2.out).lt)
  (replace B3 : Hid (Blk w3 (w2.heap.size) _ _) := Blk.below (by repeat (first | (with_reducible exact B3.out) | ((with_reducible apply Blk.newAt); (first | (with_reducible rfl) | (simp <;> omega))) | (with_reducible apply Blk.alloc) | (with_reducible apply Blk.drew) | (with_reducible apply Blk.drewN) | (with_reducible apply Blk.set) | ((with_reducible apply Blk.setO); (first | (with_reducible assumption) | omega | (simp <;> omega))))) hb); (replace c3 := (B3.out).cell); (replace f3 := (B3.out).froz); (replace l3 := (B3.out).lt)
  (replace HA : Hid (Rd w3 _ _) := Rd.below HA.out hst)
  (replace HR1 : Hid (Rd w3 _ _) := Rd.below HR1.out hst)
  (replace HR2 : Hid (Rd w3 _ _) := Rd.below HR2.out hst)
  have HR3 : Hid (Rd w3 A3 (entCells xs)) := hR'.rd
  clear hc' hR' hst hb
  go_wp2_with fail
  refine (HK.out.puty _ A c ?_).mono ?_
  · exact Rd.below HA.out (by repeat (first | (with_reducible exact Below.refl _ _) | (with_reducible apply bAl) | (with_reducible apply bDr) | (with_reducible apply bDrN) | ((with_reducible refine bSt ?_ ?_ _); (first | (with_reducible assumption) | omega | (simp <;> omega)))))
  rintro e w4 ⟨A4, c4', rfl, hc', hR', hb⟩
  dsimp only [ringVal]
  (have hst : Below w3.heap.size w3 w4 := bCall (by repeat (first | (with_reducible exact Below.refl _ _) | (with_reducible apply bAl) | (with_reducible apply bDr) | (with_reducible apply bDrN) | ((with_reducible refine bSt ?_ ?_ _); (first | (with_reducible assumption) | omega | (simp <;> omega))))) hb); (replace HB : Hid (Below w.heap.size w w4) := bCall HB.out hst); (have := HB.out.size)
  (replace B0 : Hid (Blk w4 _ _ _) := Blk.below B0.out hst); (replace c0 := (B0.out).cell); (replace f0 := (B0.out).froz); (replace l0 := (B0.out).lt); (replace B1 : Hid (Blk w4 _ _ _) := Blk.below B1.out hst); (replace c1 := (B1.out).cell); (replace f1 := (B1.out).froz); (replace l1 := (B1.out).lt); (replace B2 : Hid (Blk w4 _ _ _) := Blk.below B2.out hst); (replace c2 := (B2.out).cell); (replace f2 := (B2.out).froz); (replace l2 := (B2.out).lt)
  (replace B3 : Hid (Blk w4 _ _ _) := Blk.below B3.out hst); (replace c3 := (B3.out).cell); (replace f3 := (B3.out).froz); (replace l3 := (B3.out).lt)
  (replace HA : Hid (Rd w4 _ _) := Rd.below HA.out hst)
  (replace HR1 : Hid (Rd w4 _ _) := Rd.below HR1.out hst)
  (replace HR2 : Hid (Rd w4 _ _) := Rd.below HR2.out hst)
  (replace HR3 : Hid (Rd w4 _ _) := Rd.below HR3.out hst)
  have HR4 : Hid (Rd w4 A4 (entCells qy.L)) := hR'.rd
  have HL4 : Hid (qy.L.length ≤ c4') := hc'
  clear hc' hR' hst hb
  go_wp2_with fail
  refine (HK.out.ally _ A4 c4' ?_ HL4.out).mono ?_
  · exact Rd.below HR4.out (by repeat (first | (with_reducible exact Below.refl _ _) | (with_reducible apply bAl) | (with_reducible apply bDr) | (with_reducible apply bDrN) | ((with_reducible refine bSt ?_ ?_ _); (first | (with_reducible assumption) | omega | (simp <;> omega)))))
  rintro e w5 ⟨A5, c5', rfl, hc', hR', hb⟩
  (have hst : Below w4.heap.size w4 w5 := bCall (by repeat (first | (with_reducible exact Below.refl _ _) | (with_reducible apply bAl) | (with_reducible apply bDr) | (with_reducible apply bDrN) | ((with_reducible refine bSt ?_ ?_ _); (first | (with_reducible assumption) | omega | (simp <;> omega))))) hb); (replace HB : Hid (Below w.heap.size w w5) := bCall HB.out hst); (have := HB.out.size)
  (replace B0 : Hid (Blk w5 _ _ _) := Blk.below B0.out hst); (replace c0 := (B0.out).cell); (replace f0 := (B0.out).froz); (replace l0 := (B0.out).lt); (replace B1 : Hid (Blk w5 _ _ _) := Blk.below B1.out hst); (replace c1 := (B1.out).cell); (replace f1 := (B1.out).froz); (replace l1 := (B1.out).lt); (replace B2 : Hid (Blk w5 _ _ _) := Blk.below B2.out hst); (replace c2 := (B2.out).cell); (replace f2 := (B2.out).froz); (replace l2 := (B2.out).lt)
  (replace B3 : Hid (Blk w5 _ _ _) := Blk.below B3.out hst); (replace c3 := (B3.out).cell); (replace f3 := (B3.out).froz); (replace l3 := (B3.out).lt)
  (replace HA : Hid (Rd w5 _ _) := Rd.below HA.out hst)
  (replace HR1 : Hid (Rd w5 _ _) := Rd.below HR1.out hst)
  (replace HR2 : Hid (Rd w5 _ _) := Rd.below HR2.out hst)
  (replace HR3 : Hid (Rd w5 _ _) := Rd.below HR3.out hst)
  have HR5 : Hid (Rd w5 A5 (entCells ys)) := hR'.rd
  clear hc' hR' hst hb
  go_wp2_with fail
  refine (HK.out.allx _ A2 c2' ?_ HL2.out).mono ?_
  · exact Rd.below HR2.out (by repeat (first | (with_reducible exact Below.refl _ _) | (with_reducible apply bAl) | (with_reducible apply bDr) | (with_reducible apply bDrN) | ((with_reducible refine bSt ?_ ?_ _); (first | (with_reducible assumption) | omega | (simp <;> omega)))))
  rintro e w6 ⟨A6, c6', rfl, hc', hR', hb⟩
  (have hst : Below w5.heap.size w5 w6 := bCall (by repeat (first | (with_reducible exact Below.refl _ _) | (with_reducible apply bAl) | (with_reducible apply bDr) | (with_reducible apply bDrN) | ((with_reducible refine bSt ?_ ?_ _); (first | (with_reducible assumption) | omega | (simp <;> omega))))) hb); (replace HB : Hid (Below w.heap.size w w6) := bCall HB.out hst); (have := HB.out.size)
  (replace B0 : Hid (Blk w6 _ _ _) := Blk.below B0.out hst); (replace c0 := (B0.out).cell); (replace f0 := (B0.out).froz); (replace l0 := (B0.out).lt); (replace B1 : Hid (Blk w6 _ _ _) := Blk.below B1.out hst); (replace c1 := (B1.out).cell); (replace f1 := (B1.out).froz); (replace l1 := (B1.out).lt); (replace B2 : Hid (Blk w6 _ _ _) := Blk.below B2.out hst); (replace c2 := (B2.out).cell); (replace f2 := (B2.out).froz); (replace l2 := (B2.out).lt)
  (replace HA : Hid (Rd w6 _ _) := Rd.below HA.out hst)
  (replace HR1 : Hid (Rd w6 _ _) := Rd.below HR1.out hst)
  (replace HR3 : Hid (Rd w6 _ _) := Rd.below HR3.out hst)
  (replace HR5 : Hid (Rd w6 _ _) := Rd.below HR5.out hst)
  have HR6 : Hid (Rd w6 A6 (entCells xs)) := hR'.rd
  clear hc' hR' hst hb
  go_wp2_with fail
  refine (HK.out.selfx _ A6 c6' A3 c3' HR6.out HR3.out).mono ?_
  rintro e w7 ⟨rfl, hb⟩
  (have hst : Below w6.heap.size w6 w7 := bCall (by repeat (first | (with_reducible exact Below.refl _ _) | (with_reducible apply bAl) | (with_reducible apply bDr) | (with_reducible apply bDrN) | ((with_reducible refine bSt ?_ ?_ _); (first | (with_reducible assumption) | omega | (simp <;> omega))))) hb); (replace HB : Hid (Below w.heap.size w w7) := bCall HB.out hst); (have := HB.out.size)
  (replace B0 : Hid (Blk w7 _ _ _) := Blk.below B0.out hst); (replace c0 := (B0.out).cell); (replace f0 := (B0.out).froz); (replace l0 := (B0.out).lt); (replace B1 : Hid (Blk w7 _ _ _) := Blk.below B1.out hst); (replace c1 := (B1.out).cell); (replace f1 := (B1.out).froz); (replace l1 := (B1.out).lt); (replace B2 : Hid (Blk w7 _ _ _) := Blk.below B2.out hst); (replace c2 := (B2.out).cell); (replace f2 := (B2.out).froz); (replace l2 := (B2.out).lt)
  (replace HA : Hid (Rd w7 _ _) := Rd.below HA.out hst)
  (replace HR1 : Hid (Rd w7 _ _) := Rd.below HR1.out hst)
  (replace HR5 : Hid (Rd w7 _ _) := Rd.below HR5.out hst)
  clear hst hb
  go_wp2_with fail
  refine (HK.out.all_ _ A c ?_ HL.out).mono ?_
  · exact Rd.below HA.out (by repeat (first | (with_reducible exact Below.refl _ _) | (with_reducible apply bAl) | (with_reducible apply bDr) | (with_reducible apply bDrN) | ((with_reducible refine bSt ?_ ?_ _); (first | (with_reducible assumption) | omega | (simp <;> omega)))))
  rintro e w8 ⟨A8, c8', rfl, hc', hR', hb⟩
  (have hst : Below w7.heap.size w7 w8 := bCall (by repeat (first | (with_reducible exact Below.refl _ _) | (with_reducible apply bAl) | (with_reducible apply bDr) | (with_reducible apply bDrN) | ((with_reducible refine bSt ?_ ?_ _); (first | (with_reducible assumption) | omega | (simp <;> omega))))) hb); (replace HB : Hid (Below w.heap.size w w8) := bCall HB.out hst); (have := HB.out.size)
  (replace B0 : Hid (Blk w8 _ _ _) := Blk.below B0.out hst); (replace c0 := (B0.out).cell); (replace f0 := (B0.out).froz); (replace l0 := (B0.out).lt); (replace B1 : Hid (Blk w8 _ _ _) := Blk.below B1.out hst); (replace c1 := (B1.out).cell); (replace f1 := (B1.out).froz); (replace l1 := (B1.out).lt); (replace B2 : Hid (Blk w8 _ _ _) := Blk.below B2.out hst); (replace c2 := (B2.out).cell); (replace f2 := (B2.out).froz); (replace l2 := (B2.out).lt)
  (replace HA : Hid (Rd w8 _ _) := Rd.below HA.out hst)
  (replace HR1 : Hid (Rd w8 _ _) := Rd.below HR1.out hst)
  (replace HR5 : Hid (Rd w8 _ _) := Rd.below HR5.out hst)
  have HR8 : Hid (Rd w8 A8 (entCells ([] : List Ent))) := hR'.rd
  clear hc' hR' hst hb
  go_wp2_with fail
  refine (HK.out.selfr _ A8 c8' A1 c1' HR8.out HR1.out).mono ?_
  rintro e w9 ⟨rfl, hb⟩
  (have hst : Below w8.heap.size w8 w9 := bCall (by repeat (first | (with_reducible exact Below.refl _ _) | (with_reducible apply bAl) | (with_reducible apply bDr) | (with_reducible apply bDrN) | ((with_reducible refine bSt ?_ ?_ _); (first | (with_reducible assumption) | omega | (simp <;> omega))))) hb); (replace HB : Hid (Below w.heap.size w w9) := bCall HB.out hst); (have := HB.out.size)
  (replace B0 : Hid (Blk w9 _ _ _) := Blk.below B0.out hst); (replace c0 := (B0.out).cell); (replace f0 := (B0.out).froz); (replace l0 := (B0.out).lt); (replace B1 : Hid (Blk w9 _ _ _) := Blk.below B1.out hst); (replace c1 := (B1.out).cell); (replace f1 := (B1.out).froz); (replace l1 := (B1.out).lt); (replace B2 : Hid (Blk w9 _ _ _) := Blk.below B2.out hst); (replace c2 := (B2.out).cell); (replace f2 := (B2.out).froz); (replace l2 := (B2.out).lt)
  (replace HA : Hid (Rd w9 _ _) := Rd.below HA.out hst)
  (replace HR1 : Hid (Rd w9 _ _) := Rd.below HR1.out hst)
  (replace HR5 : Hid (Rd w9 _ _) := Rd.below HR5.out hst)
  clear hst hb
  go_wp2_with fail
  refine (HK.out.take_ _ A c ?_ HL.out).mono ?_
  · exact Rd.below HA.out (by repeat (first | (with_reducible exact Below.refl _ _) | (with_reducible apply bAl) | (with_reducible apply bDr) | (with_reducible apply bDrN) | ((with_reducible refine bSt ?_ ?_ _); (first | (with_reducible assumption) | omega | (simp <;> omega)))))
  rintro e w10 ⟨A10, c10', rfl, hc', hR', hb⟩
  dsimp only [ringVal, entVal]
  (have hst : Below w9.heap.size w9 w10 := bCall (by repeat (first | (with_reducible exact Below.refl _ _) | (with_reducible apply bAl) | (with_reducible apply bDr) | (with_reducible apply bDrN) | ((with_reducible refine bSt ?_ ?_ _); (first | (with_reducible assumption) | omega | (simp <;> omega))))) hb); (replace HB : Hid (Below w.heap.size w w10) := bCall HB.out hst); (have := HB.out.size)
  have HR10 : Hid (Rd w10 A10 (entCells s.L)) := hR'.rd
  have HL10 : Hid (s.L.length ≤ c10') := hc'
  clear hc' hR' hst hb
  go_wp2_with fail
  refine (HK.out.alls _ A10 c10' ?_ HL10.out).mono ?_
  · exact Rd.below HR10.out (by repeat (first | (with_reducible exact Below.refl _ _) | (with_reducible apply bAl) | (with_reducible apply bDr) | (with_reducible apply bDrN) | ((with_reducible refine bSt ?_ ?_ _); (first | (with_reducible assumption) | omega | (simp <;> omega)))))
  rintro e w11 ⟨A11, c11', rfl, hc', hR', hb⟩
  (have hst : Below w10.heap.size w10 w11 := bCall (by repeat (first | (with_reducible exact Below.refl _ _) | (with_reducible apply bAl) | (with_reducible apply bDr) | (with_reducible apply bDrN) | ((with_reducible refine bSt ?_ ?_ _); (first | (with_reducible assumption) | omega | (simp <;> omega))))) hb); (replace HB : Hid (Below w.heap.size w w11) := bCall HB.out hst); (have := HB.out.size)
  clear hc' hR' hst hb
  go_wp2_with fail
  refine (ringed19 _).mono ?_
  rintro e w12 ⟨rfl, hb⟩
  (have hst : Below w11.heap.size w11 w12 := bCall (by repeat (first | (with_reducible exact Below.refl _ _) | (with_reducible apply bAl) | (with_reducible apply bDr) | (with_reducible apply bDrN) | ((with_reducible refine bSt ?_ ?_ _); (first | (with_reducible assumption) | omega | (simp <;> omega))))) hb); (replace HB : Hid (Below w.heap.size w w12) := bCall HB.out hst); (have := HB.out.size)
  clear hst hb
  go_wp2
  go_ret
  refine ⟨rfl, ?_⟩
  repeat (first | (with_reducible exact HB.out) | (with_reducible apply bAl) | (with_reducible apply bDr) | (with_reducible apply bDrN) | ((with_reducible refine bSt ?_ ?_ _); (first | (with_reducible assumption) | omega | (simp <;> omega))))
set_option maxRecDepth 100000 in set_option maxHeartbeats 4000000 in
theorem keepsYes1 (r : RingS) (A : Option Addr) (c : Nat) (x y : Ent) (w : World) (hA : Rd w A (entCells r.L)) (hl : r.L.length ≤ c) (hs : r.L.length ≤ 200) (xs ys rest : List Ent) (qx qy s : RingS) (ey : Int) (first : Ent)
    (hK : KeepsIn r x y (first :: rest) xs ys rest qx qy s 1 ey first true) :
    Calls Try.prog 5 #[.agg #[.int .i64 r.room, .slice A r.L.length c, .int .u64 r.gap.st, .int .u64 r.gap.e.sq, .int .i64 r.gap.e.tk, .int .i64 r.gap.e.pt, .int .i64 r.gap.e.kd, .int .i64 r.gap.e.a, .int .i64 r.gap.e.b], .agg #[.int .u64 x.st, .int .u64 x.e.sq, .int .i64 x.e.tk, .int .i64 x.e.pt, .int .i64 x.e.kd, .int .i64 x.e.a, .int .i64 x.e.b], .agg #[.int .u64 y.st, .int .u64 y.e.sq, .int .i64 y.e.tk, .int .i64 y.e.pt, .int .i64 y.e.kd, .int .i64 y.e.a, .int .i64 y.e.b]] w fun e w' => e = .returned (.bool true) ∧ Below w.heap.size w w' := by
  have hu29 := Try.underlying29; have hu27 := Try.underlying27; have hu25 := Try.underlying25
  have HA : Hid (Rd w A (entCells r.L)) := hA
  have HL : Hid (r.L.length ≤ c) := hl
  have HK := Lib.hid hK
  have HB : Hid (Below w.heap.size w w) := Below.refl _ _
  clear hA hl hK
  have hl1 : ¬ (200 : Int) < (r.L.length : Int) := by omega
  go_enter Try.func5, Try.ntmps5
  go_wp2_with fail
  refine (HK.out.all_ _ A c ?_ HL.out).mono ?_
  · exact Rd.below HA.out (by repeat (first | (with_reducible exact Below.refl _ _) | (with_reducible apply bAl) | (with_reducible apply bDr) | (with_reducible apply bDrN) | ((with_reducible refine bSt ?_ ?_ _); (first | (with_reducible assumption) | omega | (simp <;> omega)))))
  rintro e w1 ⟨A1, c1', rfl, hc', hR', hb⟩
  (have hst : Below w.heap.size w w1 := bCall (by repeat (first | (with_reducible exact Below.refl _ _) | (with_reducible apply bAl) | (with_reducible apply bDr) | (with_reducible apply bDrN) | ((with_reducible refine bSt ?_ ?_ _); (first | (with_reducible assumption) | omega | (simp <;> omega))))) hb); (replace HB : Hid (Below w.heap.size w w1) := bCall HB.out hst); (have := HB.out.size)
  (replace B0 : Hid (Blk w1 (w.heap.size) _ _) := Blk.below (by repeat (first | (with_reducible exact B0.out) | ((with_reducible apply Blk.newAt); (first | (with_reducible rfl) | (simp <;> omega))) | (with_reducible apply Blk.alloc) | (with_reducible apply Blk.drew) | (with_reducible apply Blk.drewN) | (with_reducible apply Blk.set) | ((with_reducible apply Blk.setO); (first | (with_reducible assumption) | omega | (simp <;> omega))))) hb); (replace c0 := (B0.out).cell); (replace f0 := (B0.out).froz); (replace l0 := (B0.out).lt)
  (replace B1 : Hid (Blk w1 (w.heap.size + 1) _ _) := Blk.below (by repeat (first | (with_reducible exact B1.out) | ((with_reducible apply Blk.newAt); (first | (with_reducible rfl) | (simp <;> omega))) | (with_reducible apply Blk.alloc) | (with_reducible apply Blk.drew) | (with_reducible apply Blk.drewN) | (with_reducible apply Blk.set) | ((with_reducible apply Blk.setO); (first | (with_reducible assumption) | omega | (simp <;> omega))))) hb); (replace c1 := (B1.out).cell); (replace f1 := (B1.out).froz); (replace l1 := (B1.out).lt)
  (replace B2 : Hid (Blk w1 (w.heap.size + 1 + 1) _ _) := Blk.below (by repeat (first | (with_reducible exact B2.out) | ((with_reducible apply Blk.newAt); (first | (with_reducible rfl) | (simp <;> omega))) | (with_reducible apply Blk.alloc) | (with_reducible apply Blk.drew) | (with_reducible apply Blk.drewN) | (with_reducible apply Blk.set) | ((with_reducible apply Blk.setO); (first | (with_reducible assumption) | omega | (simp <;> omega))))) hb); (replace c2 := (B2.out).cell); (replace f2 := (B2.out).froz); (replace l2 := (B2.out).lt)
  (replace HA : Hid (Rd w1 _ _) := Rd.below HA.out hst)
  have HR1 : Hid (Rd w1 A1 (entCells (first :: rest))) := hR'.rd
  have HC1 : Hid (rest.length + 1 ≤ c1') := hc'
  clear hc' hR' hst hb
  go_wp2_with fail
  refine (HK.out.putx _ A c ?_).mono ?_
  · exact Rd.below HA.out (by repeat (first | (with_reducible exact Below.refl _ _) | (with_reducible apply bAl) | (with_reducible apply bDr) | (with_reducible apply bDrN) | ((with_reducible refine bSt ?_ ?_ _); (first | (with_reducible assumption) | omega | (simp <;> omega)))))
  rintro e w2 ⟨A2, c2', rfl, hc', hR', hb⟩
  dsimp only [ringVal]
  (have hst : Below w1.heap.size w1 w2 := bCall (by repeat (first | (with_reducible exact Below.refl _ _) | (with_reducible apply bAl) | (with_reducible apply bDr) | (with_reducible apply bDrN) | ((with_reducible refine bSt ?_ ?_ _); (first | (with_reducible assumption) | omega | (simp <;> omega))))) hb); (replace HB : Hid (Below w.heap.size w w2) := bCall HB.out hst); (have := HB.out.size)
  (replace B0 : Hid (Blk w2 _ _ _) := Blk.below B0.out hst); (replace c0 := (B0.out).cell); (replace f0 := (B0.out).froz); (replace l0 := (B0.out).lt); (replace B1 : Hid (Blk w2 _ _ _) := Blk.below B1.out hst); (replace c1 := (B1.out).cell); (replace f1 := (B1.out).froz); (replace l1 := (B1.out).lt); (replace B2 : Hid (Blk w2 _ _ _) := Blk.below B2.out hst); (replace c2 := (B2.out).cell); (replace f2 := (B2.out).froz); (replace l2 := (B2.out).lt)
  (replace HA : Hid (Rd w2 _ _) := Rd.below HA.out hst)
  (replace HR1 : Hid (Rd w2 _ _) := Rd.below HR1.out hst)
  have HR2 : Hid (Rd w2 A2 (entCells qx.L)) := hR'.rd
  have HL2 : Hid (qx.L.length ≤ c2') := hc'
  clear hc' hR' hst hb
  go_wp2_with fail
  refine (HK.out.allx _ A2 c2' ?_ HL2.out).mono ?_
  · exact Rd.below HR2.out (by repeat (first | (with_reducible exact Below.refl _ _) | (with_reducible apply bAl) | (with_reducible apply bDr) | (with_reducible apply bDrN) | ((with_reducible refine bSt ?_ ?_ _); (first | (with_reducible assumption) | omega | (simp <;> omega)))))
  rintro e w3 ⟨A3, c3', rfl, hc', hR', hb⟩
  (have hst : Below w2.heap.size w2 w3 := bCall (by repeat (first | (with_reducible exact Below.refl _ _) | (with_reducible apply bAl) | (with_reducible apply bDr) | (with_reducible apply bDrN) | ((with_reducible refine bSt ?_ ?_ _); (first | (with_reducible assumption) | omega | (simp <;> omega))))) hb); (replace HB : Hid (Below w.heap.size w w3) := bCall HB.out hst); (have := HB.out.size)
  (replace B0 : Hid (Blk w3 _ _ _) := Blk.below B0.out hst); (replace c0 := (B0.out).cell); (replace f0 := (B0.out).froz); (replace l0 := (B0.out).lt); (replace B1 : Hid (Blk w3 _ _ _) := Blk.below B1.out hst); (replace c1 := (B1.out).cell); (replace f1 := (B1.out).froz); (replace l1 := (B1.out).lt); (replace B2 : Hid (Blk w3 _ _ _) := Blk.below B2.out hst); (replace c2 := (B2.out).cell); (replace f2 := (B2.out).froz); (replace l2 := (B2.out).lt)
  (replace B3 : Hid (Blk w3 (w2.heap.size) _ _) := Blk.below (by repeat (first | (with_reducible exact B3.out) | ((with_reducible apply Blk.newAt); (first | (with_reducible rfl) | (simp <;> omega))) | (with_reducible apply Blk.alloc) | (with_reducible apply Blk.drew) | (with_reducible apply Blk.drewN) | (with_reducible apply Blk.set) | ((with_reducible apply Blk.setO); (first | (with_reducible assumption) | omega | (simp <;> omega))))) hb); (replace c3 := (B3.out).cell); (replace f3 := (B3.out).froz); (replace l3 := (B3.out).lt)
  (replace HA : Hid (Rd w3 _ _) := Rd.below HA.out hst)
  (replace HR1 : Hid (Rd w3 _ _) := Rd.below HR1.out hst)
  (replace HR2 : Hid (Rd w3 _ _) := Rd.below HR2.out hst)
  have HR3 : Hid (Rd w3 A3 (entCells xs)) := hR'.rd
  clear hc' hR' hst hb
  go_wp2_with fail
  refine (HK.out.puty _ A c ?_).mono ?_
  · exact Rd.below HA.out (by repeat (first | (with_reducible exact Below.refl _ _) | (with_reducible apply bAl) | (with_reducible apply bDr) | (with_reducible apply bDrN) | ((with_reducible refine bSt ?_ ?_ _); (first | (with_reducible assumption) | omega | (simp <;> omega)))))
  rintro e w4 ⟨A4, c4', rfl, hc', hR', hb⟩
  dsimp only [ringVal]
  (have hst : Below w3.heap.size w3 w4 := bCall (by repeat (first | (with_reducible exact Below.refl _ _) | (with_reducible apply bAl) | (with_reducible apply bDr) | (with_reducible apply bDrN) | ((with_reducible refine bSt ?_ ?_ _); (first | (with_reducible assumption) | omega | (simp <;> omega))))) hb); (replace HB : Hid (Below w.heap.size w w4) := bCall HB.out hst); (have := HB.out.size)
  (replace B0 : Hid (Blk w4 _ _ _) := Blk.below B0.out hst); (replace c0 := (B0.out).cell); (replace f0 := (B0.out).froz); (replace l0 := (B0.out).lt); (replace B1 : Hid (Blk w4 _ _ _) := Blk.below B1.out hst); (replace c1 := (B1.out).cell); (replace f1 := (B1.out).froz); (replace l1 := (B1.out).lt); (replace B2 : Hid (Blk w4 _ _ _) := Blk.below B2.out hst); (replace c2 := (B2.out).cell); (replace f2 := (B2.out).froz); (replace l2 := (B2.out).lt)
  (replace B3 : Hid (Blk w4 _ _ _) := Blk.below B3.out hst); (replace c3 := (B3.out).cell); (replace f3 := (B3.out).froz); (replace l3 := (B3.out).lt)
  (replace HA : Hid (Rd w4 _ _) := Rd.below HA.out hst)
  (replace HR1 : Hid (Rd w4 _ _) := Rd.below HR1.out hst)
  (replace HR2 : Hid (Rd w4 _ _) := Rd.below HR2.out hst)
  (replace HR3 : Hid (Rd w4 _ _) := Rd.below HR3.out hst)
  have HR4 : Hid (Rd w4 A4 (entCells qy.L)) := hR'.rd
  have HL4 : Hid (qy.L.length ≤ c4') := hc'
  clear hc' hR' hst hb
  go_wp2_with fail
  refine (HK.out.ally _ A4 c4' ?_ HL4.out).mono ?_
  · exact Rd.below HR4.out (by repeat (first | (with_reducible exact Below.refl _ _) | (with_reducible apply bAl) | (with_reducible apply bDr) | (with_reducible apply bDrN) | ((with_reducible refine bSt ?_ ?_ _); (first | (with_reducible assumption) | omega | (simp <;> omega)))))
  rintro e w5 ⟨A5, c5', rfl, hc', hR', hb⟩
  (have hst : Below w4.heap.size w4 w5 := bCall (by repeat (first | (with_reducible exact Below.refl _ _) | (with_reducible apply bAl) | (with_reducible apply bDr) | (with_reducible apply bDrN) | ((with_reducible refine bSt ?_ ?_ _); (first | (with_reducible assumption) | omega | (simp <;> omega))))) hb); (replace HB : Hid (Below w.heap.size w w5) := bCall HB.out hst); (have := HB.out.size)
  (replace B0 : Hid (Blk w5 _ _ _) := Blk.below B0.out hst); (replace c0 := (B0.out).cell); (replace f0 := (B0.out).froz); (replace l0 := (B0.out).lt); (replace B1 : Hid (Blk w5 _ _ _) := Blk.below B1.out hst); (replace c1 := (B1.out).cell); (replace f1 := (B1.out).froz); (replace l1 := (B1.out).lt); (replace B2 : Hid (Blk w5 _ _ _) := Blk.below B2.out hst); (replace c2 := (B2.out).cell); (replace f2 := (B2.out).froz); (replace l2 := (B2.out).lt)
  (replace B3 : Hid (Blk w5 _ _ _) := Blk.below B3.out hst); (replace c3 := (B3.out).cell); (replace f3 := (B3.out).froz); (replace l3 := (B3.out).lt)
  (replace HA : Hid (Rd w5 _ _) := Rd.below HA.out hst)
  (replace HR1 : Hid (Rd w5 _ _) := Rd.below HR1.out hst)
  (replace HR2 : Hid (Rd w5 _ _) := Rd.below HR2.out hst)
  (replace HR3 : Hid (Rd w5 _ _) := Rd.below HR3.out hst)
  have HR5 : Hid (Rd w5 A5 (entCells ys)) := hR'.rd
  clear hc' hR' hst hb
  go_wp2_with fail
  refine (HK.out.allx _ A2 c2' ?_ HL2.out).mono ?_
  · exact Rd.below HR2.out (by repeat (first | (with_reducible exact Below.refl _ _) | (with_reducible apply bAl) | (with_reducible apply bDr) | (with_reducible apply bDrN) | ((with_reducible refine bSt ?_ ?_ _); (first | (with_reducible assumption) | omega | (simp <;> omega)))))
  rintro e w6 ⟨A6, c6', rfl, hc', hR', hb⟩
  (have hst : Below w5.heap.size w5 w6 := bCall (by repeat (first | (with_reducible exact Below.refl _ _) | (with_reducible apply bAl) | (with_reducible apply bDr) | (with_reducible apply bDrN) | ((with_reducible refine bSt ?_ ?_ _); (first | (with_reducible assumption) | omega | (simp <;> omega))))) hb); (replace HB : Hid (Below w.heap.size w w6) := bCall HB.out hst); (have := HB.out.size)
  (replace B0 : Hid (Blk w6 _ _ _) := Blk.below B0.out hst); (replace c0 := (B0.out).cell); (replace f0 := (B0.out).froz); (replace l0 := (B0.out).lt); (replace B1 : Hid (Blk w6 _ _ _) := Blk.below B1.out hst); (replace c1 := (B1.out).cell); (replace f1 := (B1.out).froz); (replace l1 := (B1.out).lt); (replace B2 : Hid (Blk w6 _ _ _) := Blk.below B2.out hst); (replace c2 := (B2.out).cell); (replace f2 := (B2.out).froz); (replace l2 := (B2.out).lt)
  (replace HA : Hid (Rd w6 _ _) := Rd.below HA.out hst)
  (replace HR1 : Hid (Rd w6 _ _) := Rd.below HR1.out hst)
  (replace HR3 : Hid (Rd w6 _ _) := Rd.below HR3.out hst)
  (replace HR5 : Hid (Rd w6 _ _) := Rd.below HR5.out hst)
  have HR6 : Hid (Rd w6 A6 (entCells xs)) := hR'.rd
  clear hc' hR' hst hb
  go_wp2_with fail
  refine (HK.out.selfx _ A6 c6' A3 c3' HR6.out HR3.out).mono ?_
  rintro e w7 ⟨rfl, hb⟩
  (have hst : Below w6.heap.size w6 w7 := bCall (by repeat (first | (with_reducible exact Below.refl _ _) | (with_reducible apply bAl) | (with_reducible apply bDr) | (with_reducible apply bDrN) | ((with_reducible refine bSt ?_ ?_ _); (first | (with_reducible assumption) | omega | (simp <;> omega))))) hb); (replace HB : Hid (Below w.heap.size w w7) := bCall HB.out hst); (have := HB.out.size)
  (replace B0 : Hid (Blk w7 _ _ _) := Blk.below B0.out hst); (replace c0 := (B0.out).cell); (replace f0 := (B0.out).froz); (replace l0 := (B0.out).lt); (replace B1 : Hid (Blk w7 _ _ _) := Blk.below B1.out hst); (replace c1 := (B1.out).cell); (replace f1 := (B1.out).froz); (replace l1 := (B1.out).lt); (replace B2 : Hid (Blk w7 _ _ _) := Blk.below B2.out hst); (replace c2 := (B2.out).cell); (replace f2 := (B2.out).froz); (replace l2 := (B2.out).lt)
  (replace HA : Hid (Rd w7 _ _) := Rd.below HA.out hst)
  (replace HR1 : Hid (Rd w7 _ _) := Rd.below HR1.out hst)
  (replace HR5 : Hid (Rd w7 _ _) := Rd.below HR5.out hst)
  clear hst hb
  go_wp2_with fail
  refine (HK.out.all_ _ A c ?_ HL.out).mono ?_
  · exact Rd.below HA.out (by repeat (first | (with_reducible exact Below.refl _ _) | (with_reducible apply bAl) | (with_reducible apply bDr) | (with_reducible apply bDrN) | ((with_reducible refine bSt ?_ ?_ _); (first | (with_reducible assumption) | omega | (simp <;> omega)))))
  rintro e w8 ⟨A8, c8', rfl, hc', hR', hb⟩
  (have hst : Below w7.heap.size w7 w8 := bCall (by repeat (first | (with_reducible exact Below.refl _ _) | (with_reducible apply bAl) | (with_reducible apply bDr) | (with_reducible apply bDrN) | ((with_reducible refine bSt ?_ ?_ _); (first | (with_reducible assumption) | omega | (simp <;> omega))))) hb); (replace HB : Hid (Below w.heap.size w w8) := bCall HB.out hst); (have := HB.out.size)
  (replace B0 : Hid (Blk w8 _ _ _) := Blk.below B0.out hst); (replace c0 := (B0.out).cell); (replace f0 := (B0.out).froz); (replace l0 := (B0.out).lt); (replace B1 : Hid (Blk w8 _ _ _) := Blk.below B1.out hst); (replace c1 := (B1.out).cell); (replace f1 := (B1.out).froz); (replace l1 := (B1.out).lt); (replace B2 : Hid (Blk w8 _ _ _) := Blk.below B2.out hst); (replace c2 := (B2.out).cell); (replace f2 := (B2.out).froz); (replace l2 := (B2.out).lt)
  (replace HA : Hid (Rd w8 _ _) := Rd.below HA.out hst)
  (replace HR1 : Hid (Rd w8 _ _) := Rd.below HR1.out hst)
  (replace HR5 : Hid (Rd w8 _ _) := Rd.below HR5.out hst)
  have HR8 : Hid (Rd w8 A8 (entCells (first :: rest))) := hR'.rd
  clear hc' hR' hst hb
  go_wp2_with fail
  refine (HK.out.selfr _ A8 c8' A1 c1' HR8.out HR1.out).mono ?_
  rintro e w9 ⟨rfl, hb⟩
  (have hst : Below w8.heap.size w8 w9 := bCall (by repeat (first | (with_reducible exact Below.refl _ _) | (with_reducible apply bAl) | (with_reducible apply bDr) | (with_reducible apply bDrN) | ((with_reducible refine bSt ?_ ?_ _); (first | (with_reducible assumption) | omega | (simp <;> omega))))) hb); (replace HB : Hid (Below w.heap.size w w9) := bCall HB.out hst); (have := HB.out.size)
  (replace B0 : Hid (Blk w9 _ _ _) := Blk.below B0.out hst); (replace c0 := (B0.out).cell); (replace f0 := (B0.out).froz); (replace l0 := (B0.out).lt); (replace B1 : Hid (Blk w9 _ _ _) := Blk.below B1.out hst); (replace c1 := (B1.out).cell); (replace f1 := (B1.out).froz); (replace l1 := (B1.out).lt); (replace B2 : Hid (Blk w9 _ _ _) := Blk.below B2.out hst); (replace c2 := (B2.out).cell); (replace f2 := (B2.out).froz); (replace l2 := (B2.out).lt)
  (replace HA : Hid (Rd w9 _ _) := Rd.below HA.out hst)
  (replace HR1 : Hid (Rd w9 _ _) := Rd.below HR1.out hst)
  (replace HR5 : Hid (Rd w9 _ _) := Rd.below HR5.out hst)
  clear hst hb
  go_wp2_with fail
  refine (HK.out.take_ _ A c ?_ HL.out).mono ?_
  · exact Rd.below HA.out (by repeat (first | (with_reducible exact Below.refl _ _) | (with_reducible apply bAl) | (with_reducible apply bDr) | (with_reducible apply bDrN) | ((with_reducible refine bSt ?_ ?_ _); (first | (with_reducible assumption) | omega | (simp <;> omega)))))
  rintro e w10 ⟨A10, c10', rfl, hc', hR', hb⟩
  dsimp only [ringVal, entVal]
  (have hst : Below w9.heap.size w9 w10 := bCall (by repeat (first | (with_reducible exact Below.refl _ _) | (with_reducible apply bAl) | (with_reducible apply bDr) | (with_reducible apply bDrN) | ((with_reducible refine bSt ?_ ?_ _); (first | (with_reducible assumption) | omega | (simp <;> omega))))) hb); (replace HB : Hid (Below w.heap.size w w10) := bCall HB.out hst); (have := HB.out.size)
  (replace HR1 : Hid (Rd w10 _ _) := Rd.below HR1.out hst)
  have HR10 : Hid (Rd w10 A10 (entCells s.L)) := hR'.rd
  have HL10 : Hid (s.L.length ≤ c10') := hc'
  clear hc' hR' hst hb
  go_wp2_with fail
  refine (HK.out.alls _ A10 c10' ?_ HL10.out).mono ?_
  · exact Rd.below HR10.out (by repeat (first | (with_reducible exact Below.refl _ _) | (with_reducible apply bAl) | (with_reducible apply bDr) | (with_reducible apply bDrN) | ((with_reducible refine bSt ?_ ?_ _); (first | (with_reducible assumption) | omega | (simp <;> omega)))))
  rintro e w11 ⟨A11, c11', rfl, hc', hR', hb⟩
  (have hst : Below w10.heap.size w10 w11 := bCall (by repeat (first | (with_reducible exact Below.refl _ _) | (with_reducible apply bAl) | (with_reducible apply bDr) | (with_reducible apply bDrN) | ((with_reducible refine bSt ?_ ?_ _); (first | (with_reducible assumption) | omega | (simp <;> omega))))) hb); (replace HB : Hid (Below w.heap.size w w11) := bCall HB.out hst); (have := HB.out.size)
  (replace B4 : Hid (Blk w11 (w10.heap.size) _ _) := Blk.below (by repeat (first | (with_reducible exact B4.out) | ((with_reducible apply Blk.newAt); (first | (with_reducible rfl) | (simp <;> omega))) | (with_reducible apply Blk.alloc) | (with_reducible apply Blk.drew) | (with_reducible apply Blk.drewN) | (with_reducible apply Blk.set) | ((with_reducible apply Blk.setO); (first | (with_reducible assumption) | omega | (simp <;> omega))))) hb); (replace c4 := (B4.out).cell); (replace f4 := (B4.out).froz); (replace l4 := (B4.out).lt)
  (replace HR1 : Hid (Rd w11 _ _) := Rd.below HR1.out hst)
  have HR11 : Hid (Rd w11 A11 (entCells rest)) := hR'.rd
  clear hc' hR' hst hb c0 c1 c2 f0 f1 f2 B0 B1 B2
  have B4' : Hid (Blk w11 w10.heap.size #[.int .u64 first.st, .int .u64 first.e.sq, .int .i64 first.e.tk, .int .i64 first.e.pt, .int .i64 first.e.kd, .int .i64 first.e.a, .int .i64 first.e.b] 27) := B4.out
  clear B4 c4
  have B4 := B4'
  have c4 := B4.out.cell
  clear B4'
  obtain ⟨b, o, rfl, a0, a1, a2, a3, a4, a5, a6⟩ := HR1.out.ent 0 (by simp)
  simp only [Nat.zero_mul, Nat.add_zero, List.getElem_cons_zero] at a0 a1 a2 a3 a4 a5 a6
  obtain ⟨A13, hcut, hA13⟩ := cut1 b o rest.length c1' HC1.out
  have HT : Hid (Rd w11 A13 (entCells rest)) := by
    rcases hA13 with rfl | h0
    · have h := (HR1.out.drop (1 * 7))
      rw [entCells_drop] at h
      exact h
    · obtain rfl := List.eq_nil_of_length_eq_zero h0
      exact Rd.nil _ _
  clear hA13
  have HX : Hid (w11.cell? ⟨b, o, none⟩ = some (.int .u64 first.st) ∧ w11.cell? ⟨b, o + 1, none⟩ = some (.int .u64 first.e.sq) ∧ w11.cell? ⟨b, o + 2, none⟩ = some (.int .i64 first.e.tk) ∧ w11.cell? ⟨b, o + 3, none⟩ = some (.int .i64 first.e.pt) ∧ w11.cell? ⟨b, o + 4, none⟩ = some (.int .i64 first.e.kd) ∧ w11.cell? ⟨b, o + 5, none⟩ = some (.int .i64 first.e.a) ∧ w11.cell? ⟨b, o + 6, none⟩ = some (.int .i64 first.e.b)) := ⟨a0, a1, a2, a3, a4, a5, a6⟩
  have hbl : b < w11.heap.size := World.block_lt_of_cell? w11 _ a0
  have Hw : Hid (Below w11.heap.size w11 w11) := Below.refl _ _
  have hee := entEq_self first
  have hone : (1 : Int) ≤ ((rest.length : Int) + 1) := by omega
  have hpos : (0 : Int) < ((rest.length : Int) + 1) := by omega
  go_wp2_with fail
  go_region_held3 (fun w' => (∀ j, w'.cell? ⟨w10.heap.size, j, none⟩ = (#[.int .u64 first.st, .int .u64 first.e.sq, .int .i64 first.e.tk, .int .i64 first.e.pt, .int .i64 first.e.kd, .int .i64 first.e.a, .int .i64 first.e.b] : Array Value)[j]?) ∧ w'.cell? ⟨b, o, none⟩ = some (.int .u64 first.st) ∧ w'.cell? ⟨b, o + 1, none⟩ = some (.int .u64 first.e.sq) ∧ w'.cell? ⟨b, o + 2, none⟩ = some (.int .i64 first.e.tk) ∧ w'.cell? ⟨b, o + 3, none⟩ = some (.int .i64 first.e.pt) ∧ w'.cell? ⟨b, o + 4, none⟩ = some (.int .i64 first.e.kd) ∧ w'.cell? ⟨b, o + 5, none⟩ = some (.int .i64 first.e.a) ∧ w'.cell? ⟨b, o + 6, none⟩ = some (.int .i64 first.e.b))
    (exact ⟨Blk.cell (by repeat (first | (with_reducible exact B4.out) | ((with_reducible apply Blk.newAt); (first | (with_reducible rfl) | (simp <;> omega))) | (with_reducible apply Blk.alloc) | (with_reducible apply Blk.drew) | (with_reducible apply Blk.drewN) | (with_reducible apply Blk.set) | ((with_reducible apply Blk.setO); (first | (with_reducible assumption) | omega | (simp <;> omega))))), Rd7.at_ HX.out (by repeat (first | (with_reducible exact Hw.out) | (with_reducible apply bAl) | (with_reducible apply bDr) | (with_reducible apply bDrN) | ((with_reducible refine bSt ?_ ?_ _); (first | (with_reducible assumption) | omega | (simp <;> omega)))))⟩)
    (first
      | (go_at_call 19; refine (ringed19 _).mono ?_; rintro e w12 ⟨rfl, hb⟩; (replace B4 : Hid (Blk w12 (w10.heap.size) _ _) := Blk.below (by repeat (first | (with_reducible exact B4.out) | ((with_reducible apply Blk.newAt); (first | (with_reducible rfl) | (simp <;> omega))) | (with_reducible apply Blk.alloc) | (with_reducible apply Blk.drew) | (with_reducible apply Blk.drewN) | (with_reducible apply Blk.set) | ((with_reducible apply Blk.setO); (first | (with_reducible assumption) | omega | (simp <;> omega))))) hb); (replace c4 := (B4.out).cell); (replace f4 := (B4.out).froz); (replace l4 := (B4.out).lt); (replace Hw : Hid (Below w11.heap.size w11 w12) := bCall (by repeat (first | (with_reducible exact Hw.out) | (with_reducible apply bAl) | (with_reducible apply bDr) | (with_reducible apply bDrN) | ((with_reducible refine bSt ?_ ?_ _); (first | (with_reducible assumption) | omega | (simp <;> omega))))) hb); (replace HB : Hid (Below w.heap.size w w12) := bCall (by repeat (first | (with_reducible exact HB.out) | (with_reducible apply bAl) | (with_reducible apply bDr) | (with_reducible apply bDrN) | ((with_reducible refine bSt ?_ ?_ _); (first | (with_reducible assumption) | omega | (simp <;> omega))))) hb); clear hb; (have := HB.out.size))
      | (go_at_call 26; refine (HK.out.selft _ A11 c11' A13 _ ?_ ?_).mono ?_; (exact Rd.below HR11.out (by repeat (first | (with_reducible exact Hw.out) | (with_reducible apply bAl) | (with_reducible apply bDr) | (with_reducible apply bDrN) | ((with_reducible refine bSt ?_ ?_ _); (first | (with_reducible assumption) | omega | (simp <;> omega)))))); (exact Rd.below HT.out (by repeat (first | (with_reducible exact Hw.out) | (with_reducible apply bAl) | (with_reducible apply bDr) | (with_reducible apply bDrN) | ((with_reducible refine bSt ?_ ?_ _); (first | (with_reducible assumption) | omega | (simp <;> omega)))))); rintro e w12 ⟨rfl, hb⟩; (replace B4 : Hid (Blk w12 (w10.heap.size) _ _) := Blk.below (by repeat (first | (with_reducible exact B4.out) | ((with_reducible apply Blk.newAt); (first | (with_reducible rfl) | (simp <;> omega))) | (with_reducible apply Blk.alloc) | (with_reducible apply Blk.drew) | (with_reducible apply Blk.drewN) | (with_reducible apply Blk.set) | ((with_reducible apply Blk.setO); (first | (with_reducible assumption) | omega | (simp <;> omega))))) hb); (replace c4 := (B4.out).cell); (replace f4 := (B4.out).froz); (replace l4 := (B4.out).lt); (replace Hw : Hid (Below w11.heap.size w11 w12) := bCall (by repeat (first | (with_reducible exact Hw.out) | (with_reducible apply bAl) | (with_reducible apply bDr) | (with_reducible apply bDrN) | ((with_reducible refine bSt ?_ ?_ _); (first | (with_reducible assumption) | omega | (simp <;> omega))))) hb); (replace HB : Hid (Below w.heap.size w w12) := bCall (by repeat (first | (with_reducible exact HB.out) | (with_reducible apply bAl) | (with_reducible apply bDr) | (with_reducible apply bDrN) | ((with_reducible refine bSt ?_ ?_ _); (first | (with_reducible assumption) | omega | (simp <;> omega))))) hb); clear hb; (have := HB.out.size)))
  all_goals go_wp2
  all_goals go_ret
  all_goals refine ⟨rfl, ?_⟩
  all_goals repeat (first | (with_reducible exact HB.out) | (with_reducible apply bAl) | (with_reducible apply bDr) | (with_reducible apply bDrN) | ((with_reducible refine bSt ?_ ?_ _); (first | (with_reducible assumption) | omega | (simp <;> omega))))
set_option maxRecDepth 100000 in set_option maxHeartbeats 4000000 in
theorem keepsYes01 (r : RingS) (A : Option Addr) (c : Nat) (x y : Ent) (w : World) (hA : Rd w A (entCells r.L)) (hl : r.L.length ≤ c) (hs : r.L.length ≤ 200) (xs ys rest : List Ent) (qx qy s : RingS) (first : Ent)
    (hK : KeepsIn r x y (first :: rest) xs ys rest qx qy s 0 1 first true) :
    Calls Try.prog 5 #[.agg #[.int .i64 r.room, .slice A r.L.length c, .int .u64 r.gap.st, .int .u64 r.gap.e.sq, .int .i64 r.gap.e.tk, .int .i64 r.gap.e.pt, .int .i64 r.gap.e.kd, .int .i64 r.gap.e.a, .int .i64 r.gap.e.b], .agg #[.int .u64 x.st, .int .u64 x.e.sq, .int .i64 x.e.tk, .int .i64 x.e.pt, .int .i64 x.e.kd, .int .i64 x.e.a, .int .i64 x.e.b], .agg #[.int .u64 y.st, .int .u64 y.e.sq, .int .i64 y.e.tk, .int .i64 y.e.pt, .int .i64 y.e.kd, .int .i64 y.e.a, .int .i64 y.e.b]] w fun e w' => e = .returned (.bool true) ∧ Below w.heap.size w w' := by
  have hu29 := Try.underlying29; have hu27 := Try.underlying27; have hu25 := Try.underlying25
  have HA : Hid (Rd w A (entCells r.L)) := hA
  have HL : Hid (r.L.length ≤ c) := hl
  have HK := Lib.hid hK
  have HB : Hid (Below w.heap.size w w) := Below.refl _ _
  clear hA hl hK
  have hl1 : ¬ (200 : Int) < (r.L.length : Int) := by omega
  go_enter Try.func5, Try.ntmps5
  go_wp2_with fail
  refine (HK.out.all_ _ A c ?_ HL.out).mono ?_
  · exact Rd.below HA.out (by repeat (first | (with_reducible exact Below.refl _ _) | (with_reducible apply bAl) | (with_reducible apply bDr) | (with_reducible apply bDrN) | ((with_reducible refine bSt ?_ ?_ _); (first | (with_reducible assumption) | omega | (simp <;> omega)))))
  rintro e w1 ⟨A1, c1', rfl, hc', hR', hb⟩
  (have hst : Below w.heap.size w w1 := bCall (by repeat (first | (with_reducible exact Below.refl _ _) | (with_reducible apply bAl) | (with_reducible apply bDr) | (with_reducible apply bDrN) | ((with_reducible refine bSt ?_ ?_ _); (first | (with_reducible assumption) | omega | (simp <;> omega))))) hb); (replace HB : Hid (Below w.heap.size w w1) := bCall HB.out hst); (have := HB.out.size)
  (replace B0 : Hid (Blk w1 (w.heap.size) _ _) := Blk.below (by repeat (first | (with_reducible exact B0.out) | ((with_reducible apply Blk.newAt); (first | (with_reducible rfl) | (simp <;> omega))) | (with_reducible apply Blk.alloc) | (with_reducible apply Blk.drew) | (with_reducible apply Blk.drewN) | (with_reducible apply Blk.set) | ((with_reducible apply Blk.setO); (first | (with_reducible assumption) | omega | (simp <;> omega))))) hb); (replace c0 := (B0.out).cell); (replace f0 := (B0.out).froz); (replace l0 := (B0.out).lt)
  (replace B1 : Hid (Blk w1 (w.heap.size + 1) _ _) := Blk.below (by repeat (first | (with_reducible exact B1.out) | ((with_reducible apply Blk.newAt); (first | (with_reducible rfl) | (simp <;> omega))) | (with_reducible apply Blk.alloc) | (with_reducible apply Blk.drew) | (with_reducible apply Blk.drewN) | (with_reducible apply Blk.set) | ((with_reducible apply Blk.setO); (first | (with_reducible assumption) | omega | (simp <;> omega))))) hb); (replace c1 := (B1.out).cell); (replace f1 := (B1.out).froz); (replace l1 := (B1.out).lt)
  (replace B2 : Hid (Blk w1 (w.heap.size + 1 + 1) _ _) := Blk.below (by repeat (first | (with_reducible exact B2.out) | ((with_reducible apply Blk.newAt); (first | (with_reducible rfl) | (simp <;> omega))) | (with_reducible apply Blk.alloc) | (with_reducible apply Blk.drew) | (with_reducible apply Blk.drewN) | (with_reducible apply Blk.set) | ((with_reducible apply Blk.setO); (first | (with_reducible assumption) | omega | (simp <;> omega))))) hb); (replace c2 := (B2.out).cell); (replace f2 := (B2.out).froz); (replace l2 := (B2.out).lt)
  (replace HA : Hid (Rd w1 _ _) := Rd.below HA.out hst)
  have HR1 : Hid (Rd w1 A1 (entCells (first :: rest))) := hR'.rd
  have HC1 : Hid (rest.length + 1 ≤ c1') := hc'
  clear hc' hR' hst hb
  go_wp2_with fail
  refine (HK.out.putx _ A c ?_).mono ?_
  · exact Rd.below HA.out (by repeat (first | (with_reducible exact Below.refl _ _) | (with_reducible apply bAl) | (with_reducible apply bDr) | (with_reducible apply bDrN) | ((with_reducible refine bSt ?_ ?_ _); (first | (with_reducible assumption) | omega | (simp <;> omega)))))
  rintro e w2 ⟨A2, c2', rfl, hc', hR', hb⟩
  dsimp only [ringVal]
  (have hst : Below w1.heap.size w1 w2 := bCall (by repeat (first | (with_reducible exact Below.refl _ _) | (with_reducible apply bAl) | (with_reducible apply bDr) | (with_reducible apply bDrN) | ((with_reducible refine bSt ?_ ?_ _); (first | (with_reducible assumption) | omega | (simp <;> omega))))) hb); (replace HB : Hid (Below w.heap.size w w2) := bCall HB.out hst); (have := HB.out.size)
  (replace B0 : Hid (Blk w2 _ _ _) := Blk.below B0.out hst); (replace c0 := (B0.out).cell); (replace f0 := (B0.out).froz); (replace l0 := (B0.out).lt); (replace B1 : Hid (Blk w2 _ _ _) := Blk.below B1.out hst); (replace c1 := (B1.out).cell); (replace f1 := (B1.out).froz); (replace l1 := (B1.out).lt); (replace B2 : Hid (Blk w2 _ _ _) := Blk.below B2.out hst); (replace c2 := (B2.out).cell); (replace f2 := (B2.out).froz); (replace l2 := (B2.out).lt)
  (replace HA : Hid (Rd w2 _ _) := Rd.below HA.out hst)
  (replace HR1 : Hid (Rd w2 _ _) := Rd.below HR1.out hst)
  have HR2 : Hid (Rd w2 A2 (entCells qx.L)) := hR'.rd
  have HL2 : Hid (qx.L.length ≤ c2') := hc'
  clear hc' hR' hst hb
  go_wp2_with fail
  refine (HK.out.allx _ A2 c2' ?_ HL2.out).mono ?_
  · exact Rd.below HR2.out (by repeat (first | (with_reducible exact Below.refl _ _) | (with_reducible apply bAl) | (with_reducible apply bDr) | (with_reducible apply bDrN) | ((with_reducible refine bSt ?_ ?_ _); (first | (with_reducible assumption) | omega | (simp <;> omega)))))
  rintro e w3 ⟨A3, c3', rfl, hc', hR', hb⟩
  (have hst : Below w2.heap.size w2 w3 := bCall (by repeat (first | (with_reducible exact Below.refl _ _) | (with_reducible apply bAl) | (with_reducible apply bDr) | (with_reducible apply bDrN) | ((with_reducible refine bSt ?_ ?_ _); (first | (with_reducible assumption) | omega | (simp <;> omega))))) hb); (replace HB : Hid (Below w.heap.size w w3) := bCall HB.out hst); (have := HB.out.size)
  (replace B0 : Hid (Blk w3 _ _ _) := Blk.below B0.out hst); (replace c0 := (B0.out).cell); (replace f0 := (B0.out).froz); (replace l0 := (B0.out).lt); (replace B1 : Hid (Blk w3 _ _ _) := Blk.below B1.out hst); (replace c1 := (B1.out).cell); (replace f1 := (B1.out).froz); (replace l1 := (B1.out).lt); (replace B2 : Hid (Blk w3 _ _ _) := Blk.below B2.out hst); (replace c2 := (B2.out).cell); (replace f2 := (B2.out).froz); (replace l2 := (B2.out).lt)
  (replace B3 : Hid (Blk w3 (w2.heap.size) _ _) := Blk.below (by repeat (first | (with_reducible exact B3.out) | ((with_reducible apply Blk.newAt); (first | (with_reducible rfl) | (simp <;> omega))) | (with_reducible apply Blk.alloc) | (with_reducible apply Blk.drew) | (with_reducible apply Blk.drewN) | (with_reducible apply Blk.set) | ((with_reducible apply Blk.setO); (first | (with_reducible assumption) | omega | (simp <;> omega))))) hb); (replace c3 := (B3.out).cell); (replace f3 := (B3.out).froz); (replace l3 := (B3.out).lt)
  (replace HA : Hid (Rd w3 _ _) := Rd.below HA.out hst)
  (replace HR1 : Hid (Rd w3 _ _) := Rd.below HR1.out hst)
  (replace HR2 : Hid (Rd w3 _ _) := Rd.below HR2.out hst)
  have HR3 : Hid (Rd w3 A3 (entCells xs)) := hR'.rd
  clear hc' hR' hst hb
  go_wp2_with fail
  refine (HK.out.puty _ A c ?_).mono ?_
  · exact Rd.below HA.out (by repeat (first | (with_reducible exact Below.refl _ _) | (with_reducible apply bAl) | (with_reducible apply bDr) | (with_reducible apply bDrN) | ((with_reducible refine bSt ?_ ?_ _); (first | (with_reducible assumption) | omega | (simp <;> omega)))))
  rintro e w4 ⟨A4, c4', rfl, hc', hR', hb⟩
  dsimp only [ringVal]
  (have hst : Below w3.heap.size w3 w4 := bCall (by repeat (first | (with_reducible exact Below.refl _ _) | (with_reducible apply bAl) | (with_reducible apply bDr) | (with_reducible apply bDrN) | ((with_reducible refine bSt ?_ ?_ _); (first | (with_reducible assumption) | omega | (simp <;> omega))))) hb); (replace HB : Hid (Below w.heap.size w w4) := bCall HB.out hst); (have := HB.out.size)
  (replace B0 : Hid (Blk w4 _ _ _) := Blk.below B0.out hst); (replace c0 := (B0.out).cell); (replace f0 := (B0.out).froz); (replace l0 := (B0.out).lt); (replace B1 : Hid (Blk w4 _ _ _) := Blk.below B1.out hst); (replace c1 := (B1.out).cell); (replace f1 := (B1.out).froz); (replace l1 := (B1.out).lt); (replace B2 : Hid (Blk w4 _ _ _) := Blk.below B2.out hst); (replace c2 := (B2.out).cell); (replace f2 := (B2.out).froz); (replace l2 := (B2.out).lt)
  (replace B3 : Hid (Blk w4 _ _ _) := Blk.below B3.out hst); (replace c3 := (B3.out).cell); (replace f3 := (B3.out).froz); (replace l3 := (B3.out).lt)
  (replace HA : Hid (Rd w4 _ _) := Rd.below HA.out hst)
  (replace HR1 : Hid (Rd w4 _ _) := Rd.below HR1.out hst)
  (replace HR2 : Hid (Rd w4 _ _) := Rd.below HR2.out hst)
  (replace HR3 : Hid (Rd w4 _ _) := Rd.below HR3.out hst)
  have HR4 : Hid (Rd w4 A4 (entCells qy.L)) := hR'.rd
  have HL4 : Hid (qy.L.length ≤ c4') := hc'
  clear hc' hR' hst hb
  go_wp2_with fail
  refine (HK.out.ally _ A4 c4' ?_ HL4.out).mono ?_
  · exact Rd.below HR4.out (by repeat (first | (with_reducible exact Below.refl _ _) | (with_reducible apply bAl) | (with_reducible apply bDr) | (with_reducible apply bDrN) | ((with_reducible refine bSt ?_ ?_ _); (first | (with_reducible assumption) | omega | (simp <;> omega)))))
  rintro e w5 ⟨A5, c5', rfl, hc', hR', hb⟩
  (have hst : Below w4.heap.size w4 w5 := bCall (by repeat (first | (with_reducible exact Below.refl _ _) | (with_reducible apply bAl) | (with_reducible apply bDr) | (with_reducible apply bDrN) | ((with_reducible refine bSt ?_ ?_ _); (first | (with_reducible assumption) | omega | (simp <;> omega))))) hb); (replace HB : Hid (Below w.heap.size w w5) := bCall HB.out hst); (have := HB.out.size)
  (replace B0 : Hid (Blk w5 _ _ _) := Blk.below B0.out hst); (replace c0 := (B0.out).cell); (replace f0 := (B0.out).froz); (replace l0 := (B0.out).lt); (replace B1 : Hid (Blk w5 _ _ _) := Blk.below B1.out hst); (replace c1 := (B1.out).cell); (replace f1 := (B1.out).froz); (replace l1 := (B1.out).lt); (replace B2 : Hid (Blk w5 _ _ _) := Blk.below B2.out hst); (replace c2 := (B2.out).cell); (replace f2 := (B2.out).froz); (replace l2 := (B2.out).lt)
  (replace B3 : Hid (Blk w5 _ _ _) := Blk.below B3.out hst); (replace c3 := (B3.out).cell); (replace f3 := (B3.out).froz); (replace l3 := (B3.out).lt)
  (replace HA : Hid (Rd w5 _ _) := Rd.below HA.out hst)
  (replace HR1 : Hid (Rd w5 _ _) := Rd.below HR1.out hst)
  (replace HR2 : Hid (Rd w5 _ _) := Rd.below HR2.out hst)
  (replace HR3 : Hid (Rd w5 _ _) := Rd.below HR3.out hst)
  have HR5 : Hid (Rd w5 A5 (entCells ys)) := hR'.rd
  clear hc' hR' hst hb
  go_wp2_with fail
  refine (HK.out.allx _ A2 c2' ?_ HL2.out).mono ?_
  · exact Rd.below HR2.out (by repeat (first | (with_reducible exact Below.refl _ _) | (with_reducible apply bAl) | (with_reducible apply bDr) | (with_reducible apply bDrN) | ((with_reducible refine bSt ?_ ?_ _); (first | (with_reducible assumption) | omega | (simp <;> omega)))))
  rintro e w6 ⟨A6, c6', rfl, hc', hR', hb⟩
  (have hst : Below w5.heap.size w5 w6 := bCall (by repeat (first | (with_reducible exact Below.refl _ _) | (with_reducible apply bAl) | (with_reducible apply bDr) | (with_reducible apply bDrN) | ((with_reducible refine bSt ?_ ?_ _); (first | (with_reducible assumption) | omega | (simp <;> omega))))) hb); (replace HB : Hid (Below w.heap.size w w6) := bCall HB.out hst); (have := HB.out.size)
  (replace B0 : Hid (Blk w6 _ _ _) := Blk.below B0.out hst); (replace c0 := (B0.out).cell); (replace f0 := (B0.out).froz); (replace l0 := (B0.out).lt); (replace B1 : Hid (Blk w6 _ _ _) := Blk.below B1.out hst); (replace c1 := (B1.out).cell); (replace f1 := (B1.out).froz); (replace l1 := (B1.out).lt); (replace B2 : Hid (Blk w6 _ _ _) := Blk.below B2.out hst); (replace c2 := (B2.out).cell); (replace f2 := (B2.out).froz); (replace l2 := (B2.out).lt)
  (replace HA : Hid (Rd w6 _ _) := Rd.below HA.out hst)
  (replace HR1 : Hid (Rd w6 _ _) := Rd.below HR1.out hst)
  (replace HR3 : Hid (Rd w6 _ _) := Rd.below HR3.out hst)
  (replace HR5 : Hid (Rd w6 _ _) := Rd.below HR5.out hst)
  have HR6 : Hid (Rd w6 A6 (entCells xs)) := hR'.rd
  clear hc' hR' hst hb
  go_wp2_with fail
  refine (HK.out.selfx _ A6 c6' A3 c3' HR6.out HR3.out).mono ?_
  rintro e w7 ⟨rfl, hb⟩
  (have hst : Below w6.heap.size w6 w7 := bCall (by repeat (first | (with_reducible exact Below.refl _ _) | (with_reducible apply bAl) | (with_reducible apply bDr) | (with_reducible apply bDrN) | ((with_reducible refine bSt ?_ ?_ _); (first | (with_reducible assumption) | omega | (simp <;> omega))))) hb); (replace HB : Hid (Below w.heap.size w w7) := bCall HB.out hst); (have := HB.out.size)
  (replace B0 : Hid (Blk w7 _ _ _) := Blk.below B0.out hst); (replace c0 := (B0.out).cell); (replace f0 := (B0.out).froz); (replace l0 := (B0.out).lt); (replace B1 : Hid (Blk w7 _ _ _) := Blk.below B1.out hst); (replace c1 := (B1.out).cell); (replace f1 := (B1.out).froz); (replace l1 := (B1.out).lt); (replace B2 : Hid (Blk w7 _ _ _) := Blk.below B2.out hst); (replace c2 := (B2.out).cell); (replace f2 := (B2.out).froz); (replace l2 := (B2.out).lt)
  (replace HA : Hid (Rd w7 _ _) := Rd.below HA.out hst)
  (replace HR1 : Hid (Rd w7 _ _) := Rd.below HR1.out hst)
  (replace HR5 : Hid (Rd w7 _ _) := Rd.below HR5.out hst)
  clear hst hb
  go_wp2_with fail
  refine (HK.out.all_ _ A c ?_ HL.out).mono ?_
  · exact Rd.below HA.out (by repeat (first | (with_reducible exact Below.refl _ _) | (with_reducible apply bAl) | (with_reducible apply bDr) | (with_reducible apply bDrN) | ((with_reducible refine bSt ?_ ?_ _); (first | (with_reducible assumption) | omega | (simp <;> omega)))))
  rintro e w8 ⟨A8, c8', rfl, hc', hR', hb⟩
  (have hst : Below w7.heap.size w7 w8 := bCall (by repeat (first | (with_reducible exact Below.refl _ _) | (with_reducible apply bAl) | (with_reducible apply bDr) | (with_reducible apply bDrN) | ((with_reducible refine bSt ?_ ?_ _); (first | (with_reducible assumption) | omega | (simp <;> omega))))) hb); (replace HB : Hid (Below w.heap.size w w8) := bCall HB.out hst); (have := HB.out.size)
  (replace B0 : Hid (Blk w8 _ _ _) := Blk.below B0.out hst); (replace c0 := (B0.out).cell); (replace f0 := (B0.out).froz); (replace l0 := (B0.out).lt); (replace B1 : Hid (Blk w8 _ _ _) := Blk.below B1.out hst); (replace c1 := (B1.out).cell); (replace f1 := (B1.out).froz); (replace l1 := (B1.out).lt); (replace B2 : Hid (Blk w8 _ _ _) := Blk.below B2.out hst); (replace c2 := (B2.out).cell); (replace f2 := (B2.out).froz); (replace l2 := (B2.out).lt)
  (replace HA : Hid (Rd w8 _ _) := Rd.below HA.out hst)
  (replace HR1 : Hid (Rd w8 _ _) := Rd.below HR1.out hst)
  (replace HR5 : Hid (Rd w8 _ _) := Rd.below HR5.out hst)
  have HR8 : Hid (Rd w8 A8 (entCells (first :: rest))) := hR'.rd
  clear hc' hR' hst hb
  go_wp2_with fail
  refine (HK.out.selfr _ A8 c8' A1 c1' HR8.out HR1.out).mono ?_
  rintro e w9 ⟨rfl, hb⟩
  (have hst : Below w8.heap.size w8 w9 := bCall (by repeat (first | (with_reducible exact Below.refl _ _) | (with_reducible apply bAl) | (with_reducible apply bDr) | (with_reducible apply bDrN) | ((with_reducible refine bSt ?_ ?_ _); (first | (with_reducible assumption) | omega | (simp <;> omega))))) hb); (replace HB : Hid (Below w.heap.size w w9) := bCall HB.out hst); (have := HB.out.size)
  (replace B0 : Hid (Blk w9 _ _ _) := Blk.below B0.out hst); (replace c0 := (B0.out).cell); (replace f0 := (B0.out).froz); (replace l0 := (B0.out).lt); (replace B1 : Hid (Blk w9 _ _ _) := Blk.below B1.out hst); (replace c1 := (B1.out).cell); (replace f1 := (B1.out).froz); (replace l1 := (B1.out).lt); (replace B2 : Hid (Blk w9 _ _ _) := Blk.below B2.out hst); (replace c2 := (B2.out).cell); (replace f2 := (B2.out).froz); (replace l2 := (B2.out).lt)
  (replace HA : Hid (Rd w9 _ _) := Rd.below HA.out hst)
  (replace HR1 : Hid (Rd w9 _ _) := Rd.below HR1.out hst)
  (replace HR5 : Hid (Rd w9 _ _) := Rd.below HR5.out hst)
  clear hst hb
  go_wp2_with fail
  refine (HK.out.take_ _ A c ?_ HL.out).mono ?_
  · exact Rd.below HA.out (by repeat (first | (with_reducible exact Below.refl _ _) | (with_reducible apply bAl) | (with_reducible apply bDr) | (with_reducible apply bDrN) | ((with_reducible refine bSt ?_ ?_ _); (first | (with_reducible assumption) | omega | (simp <;> omega)))))
  rintro e w10 ⟨A10, c10', rfl, hc', hR', hb⟩
  dsimp only [ringVal, entVal]
  (have hst : Below w9.heap.size w9 w10 := bCall (by repeat (first | (with_reducible exact Below.refl _ _) | (with_reducible apply bAl) | (with_reducible apply bDr) | (with_reducible apply bDrN) | ((with_reducible refine bSt ?_ ?_ _); (first | (with_reducible assumption) | omega | (simp <;> omega))))) hb); (replace HB : Hid (Below w.heap.size w w10) := bCall HB.out hst); (have := HB.out.size)
  (replace HR1 : Hid (Rd w10 _ _) := Rd.below HR1.out hst)
  have HR10 : Hid (Rd w10 A10 (entCells s.L)) := hR'.rd
  have HL10 : Hid (s.L.length ≤ c10') := hc'
  clear hc' hR' hst hb
  go_wp2_with fail
  refine (HK.out.alls _ A10 c10' ?_ HL10.out).mono ?_
  · exact Rd.below HR10.out (by repeat (first | (with_reducible exact Below.refl _ _) | (with_reducible apply bAl) | (with_reducible apply bDr) | (with_reducible apply bDrN) | ((with_reducible refine bSt ?_ ?_ _); (first | (with_reducible assumption) | omega | (simp <;> omega)))))
  rintro e w11 ⟨A11, c11', rfl, hc', hR', hb⟩
  (have hst : Below w10.heap.size w10 w11 := bCall (by repeat (first | (with_reducible exact Below.refl _ _) | (with_reducible apply bAl) | (with_reducible apply bDr) | (with_reducible apply bDrN) | ((with_reducible refine bSt ?_ ?_ _); (first | (with_reducible assumption) | omega | (simp <;> omega))))) hb); (replace HB : Hid (Below w.heap.size w w11) := bCall HB.out hst); (have := HB.out.size)
  (replace B4 : Hid (Blk w11 (w10.heap.size) _ _) := Blk.below (by repeat (first | (with_reducible exact B4.out) | ((with_reducible apply Blk.newAt); (first | (with_reducible rfl) | (simp <;> omega))) | (with_reducible apply Blk.alloc) | (with_reducible apply Blk.drew) | (with_reducible apply Blk.drewN) | (with_reducible apply Blk.set) | ((with_reducible apply Blk.setO); (first | (with_reducible assumption) | omega | (simp <;> omega))))) hb); (replace c4 := (B4.out).cell); (replace f4 := (B4.out).froz); (replace l4 := (B4.out).lt)
  (replace HR1 : Hid (Rd w11 _ _) := Rd.below HR1.out hst)
  have HR11 : Hid (Rd w11 A11 (entCells rest)) := hR'.rd
  clear hc' hR' hst hb c0 c1 c2 f0 f1 f2 B0 B1 B2
  have B4' : Hid (Blk w11 w10.heap.size #[.int .u64 first.st, .int .u64 first.e.sq, .int .i64 first.e.tk, .int .i64 first.e.pt, .int .i64 first.e.kd, .int .i64 first.e.a, .int .i64 first.e.b] 27) := B4.out
  clear B4 c4
  have B4 := B4'
  have c4 := B4.out.cell
  clear B4'
  obtain ⟨b, o, rfl, a0, a1, a2, a3, a4, a5, a6⟩ := HR1.out.ent 0 (by simp)
  simp only [Nat.zero_mul, Nat.add_zero, List.getElem_cons_zero] at a0 a1 a2 a3 a4 a5 a6
  obtain ⟨A13, hcut, hA13⟩ := cut1 b o rest.length c1' HC1.out
  have HT : Hid (Rd w11 A13 (entCells rest)) := by
    rcases hA13 with rfl | h0
    · have h := (HR1.out.drop (1 * 7))
      rw [entCells_drop] at h
      exact h
    · obtain rfl := List.eq_nil_of_length_eq_zero h0
      exact Rd.nil _ _
  clear hA13
  have HX : Hid (w11.cell? ⟨b, o, none⟩ = some (.int .u64 first.st) ∧ w11.cell? ⟨b, o + 1, none⟩ = some (.int .u64 first.e.sq) ∧ w11.cell? ⟨b, o + 2, none⟩ = some (.int .i64 first.e.tk) ∧ w11.cell? ⟨b, o + 3, none⟩ = some (.int .i64 first.e.pt) ∧ w11.cell? ⟨b, o + 4, none⟩ = some (.int .i64 first.e.kd) ∧ w11.cell? ⟨b, o + 5, none⟩ = some (.int .i64 first.e.a) ∧ w11.cell? ⟨b, o + 6, none⟩ = some (.int .i64 first.e.b)) := ⟨a0, a1, a2, a3, a4, a5, a6⟩
  have hbl : b < w11.heap.size := World.block_lt_of_cell? w11 _ a0
  have Hw : Hid (Below w11.heap.size w11 w11) := Below.refl _ _
  have hee := entEq_self first
  have hone : (1 : Int) ≤ ((rest.length : Int) + 1) := by omega
  have hpos : (0 : Int) < ((rest.length : Int) + 1) := by omega
  go_wp2_with fail
  go_region_held3 (fun w' => (∀ j, w'.cell? ⟨w10.heap.size, j, none⟩ = (#[.int .u64 first.st, .int .u64 first.e.sq, .int .i64 first.e.tk, .int .i64 first.e.pt, .int .i64 first.e.kd, .int .i64 first.e.a, .int .i64 first.e.b] : Array Value)[j]?) ∧ w'.cell? ⟨b, o, none⟩ = some (.int .u64 first.st) ∧ w'.cell? ⟨b, o + 1, none⟩ = some (.int .u64 first.e.sq) ∧ w'.cell? ⟨b, o + 2, none⟩ = some (.int .i64 first.e.tk) ∧ w'.cell? ⟨b, o + 3, none⟩ = some (.int .i64 first.e.pt) ∧ w'.cell? ⟨b, o + 4, none⟩ = some (.int .i64 first.e.kd) ∧ w'.cell? ⟨b, o + 5, none⟩ = some (.int .i64 first.e.a) ∧ w'.cell? ⟨b, o + 6, none⟩ = some (.int .i64 first.e.b))
    (exact ⟨Blk.cell (by repeat (first | (with_reducible exact B4.out) | ((with_reducible apply Blk.newAt); (first | (with_reducible rfl) | (simp <;> omega))) | (with_reducible apply Blk.alloc) | (with_reducible apply Blk.drew) | (with_reducible apply Blk.drewN) | (with_reducible apply Blk.set) | ((with_reducible apply Blk.setO); (first | (with_reducible assumption) | omega | (simp <;> omega))))), Rd7.at_ HX.out (by repeat (first | (with_reducible exact Hw.out) | (with_reducible apply bAl) | (with_reducible apply bDr) | (with_reducible apply bDrN) | ((with_reducible refine bSt ?_ ?_ _); (first | (with_reducible assumption) | omega | (simp <;> omega)))))⟩)
    (first
      | (go_at_call 19; refine (ringed19 _).mono ?_; rintro e w12 ⟨rfl, hb⟩; (replace B4 : Hid (Blk w12 (w10.heap.size) _ _) := Blk.below (by repeat (first | (with_reducible exact B4.out) | ((with_reducible apply Blk.newAt); (first | (with_reducible rfl) | (simp <;> omega))) | (with_reducible apply Blk.alloc) | (with_reducible apply Blk.drew) | (with_reducible apply Blk.drewN) | (with_reducible apply Blk.set) | ((with_reducible apply Blk.setO); (first | (with_reducible assumption) | omega | (simp <;> omega))))) hb); (replace c4 := (B4.out).cell); (replace f4 := (B4.out).froz); (replace l4 := (B4.out).lt); (replace Hw : Hid (Below w11.heap.size w11 w12) := bCall (by repeat (first | (with_reducible exact Hw.out) | (with_reducible apply bAl) | (with_reducible apply bDr) | (with_reducible apply bDrN) | ((with_reducible refine bSt ?_ ?_ _); (first | (with_reducible assumption) | omega | (simp <;> omega))))) hb); (replace HB : Hid (Below w.heap.size w w12) := bCall (by repeat (first | (with_reducible exact HB.out) | (with_reducible apply bAl) | (with_reducible apply bDr) | (with_reducible apply bDrN) | ((with_reducible refine bSt ?_ ?_ _); (first | (with_reducible assumption) | omega | (simp <;> omega))))) hb); clear hb; (have := HB.out.size))
      | (go_at_call 26; refine (HK.out.selft _ A11 c11' A13 _ ?_ ?_).mono ?_; (exact Rd.below HR11.out (by repeat (first | (with_reducible exact Hw.out) | (with_reducible apply bAl) | (with_reducible apply bDr) | (with_reducible apply bDrN) | ((with_reducible refine bSt ?_ ?_ _); (first | (with_reducible assumption) | omega | (simp <;> omega)))))); (exact Rd.below HT.out (by repeat (first | (with_reducible exact Hw.out) | (with_reducible apply bAl) | (with_reducible apply bDr) | (with_reducible apply bDrN) | ((with_reducible refine bSt ?_ ?_ _); (first | (with_reducible assumption) | omega | (simp <;> omega)))))); rintro e w12 ⟨rfl, hb⟩; (replace B4 : Hid (Blk w12 (w10.heap.size) _ _) := Blk.below (by repeat (first | (with_reducible exact B4.out) | ((with_reducible apply Blk.newAt); (first | (with_reducible rfl) | (simp <;> omega))) | (with_reducible apply Blk.alloc) | (with_reducible apply Blk.drew) | (with_reducible apply Blk.drewN) | (with_reducible apply Blk.set) | ((with_reducible apply Blk.setO); (first | (with_reducible assumption) | omega | (simp <;> omega))))) hb); (replace c4 := (B4.out).cell); (replace f4 := (B4.out).froz); (replace l4 := (B4.out).lt); (replace Hw : Hid (Below w11.heap.size w11 w12) := bCall (by repeat (first | (with_reducible exact Hw.out) | (with_reducible apply bAl) | (with_reducible apply bDr) | (with_reducible apply bDrN) | ((with_reducible refine bSt ?_ ?_ _); (first | (with_reducible assumption) | omega | (simp <;> omega))))) hb); (replace HB : Hid (Below w.heap.size w w12) := bCall (by repeat (first | (with_reducible exact HB.out) | (with_reducible apply bAl) | (with_reducible apply bDr) | (with_reducible apply bDrN) | ((with_reducible refine bSt ?_ ?_ _); (first | (with_reducible assumption) | omega | (simp <;> omega))))) hb); clear hb; (have := HB.out.size)))
  all_goals go_wp2
  all_goals go_ret
  all_goals refine ⟨rfl, ?_⟩
  all_goals repeat (first | (with_reducible exact HB.out) | (with_reducible apply bAl) | (with_reducible apply bDr) | (with_reducible apply bDrN) | ((with_reducible refine bSt ?_ ?_ _); (first | (with_reducible assumption) | omega | (simp <;> omega))))
set_option maxRecDepth 100000 in set_option maxHeartbeats 4000000 in
theorem keepsYes00 (r : RingS) (A : Option Addr) (c : Nat) (x y : Ent) (w : World) (hA : Rd w A (entCells r.L)) (hl : r.L.length ≤ c) (hs : r.L.length ≤ 200) (xs ys rest : List Ent) (qx qy s : RingS) (first : Ent)
    (hK : KeepsIn r x y (first :: rest) xs ys rest qx qy s 0 0 first true) (hxy : ((xs.length : Int) != (ys.length : Int)) = false) (hwx : ¬ (xs.length : Int) < (rest.length : Int) + 1) :
    Calls Try.prog 5 #[.agg #[.int .i64 r.room, .slice A r.L.length c, .int .u64 r.gap.st, .int .u64 r.gap.e.sq, .int .i64 r.gap.e.tk, .int .i64 r.gap.e.pt, .int .i64 r.gap.e.kd, .int .i64 r.gap.e.a, .int .i64 r.gap.e.b], .agg #[.int .u64 x.st, .int .u64 x.e.sq, .int .i64 x.e.tk, .int .i64 x.e.pt, .int .i64 x.e.kd, .int .i64 x.e.a, .int .i64 x.e.b], .agg #[.int .u64 y.st, .int .u64 y.e.sq, .int .i64 y.e.tk, .int .i64 y.e.pt, .int .i64 y.e.kd, .int .i64 y.e.a, .int .i64 y.e.b]] w fun e w' => e = .returned (.bool true) ∧ Below w.heap.size w w' := by
  have hu29 := Try.underlying29; have hu27 := Try.underlying27; have hu25 := Try.underlying25
  have HA : Hid (Rd w A (entCells r.L)) := hA
  have HL : Hid (r.L.length ≤ c) := hl
  have HK := Lib.hid hK
  have HB : Hid (Below w.heap.size w w) := Below.refl _ _
  clear hA hl hK
  have hl1 : ¬ (200 : Int) < (r.L.length : Int) := by omega
  go_enter Try.func5, Try.ntmps5
  go_wp2_with fail
  refine (HK.out.all_ _ A c ?_ HL.out).mono ?_
  · exact Rd.below HA.out (by repeat (first | (with_reducible exact Below.refl _ _) | (with_reducible apply bAl) | (with_reducible apply bDr) | (with_reducible apply bDrN) | ((with_reducible refine bSt ?_ ?_ _); (first | (with_reducible assumption) | omega | (simp <;> omega)))))
  rintro e w1 ⟨A1, c1', rfl, hc', hR', hb⟩
  (have hst : Below w.heap.size w w1 := bCall (by repeat (first | (with_reducible exact Below.refl _ _) | (with_reducible apply bAl) | (with_reducible apply bDr) | (with_reducible apply bDrN) | ((with_reducible refine bSt ?_ ?_ _); (first | (with_reducible assumption) | omega | (simp <;> omega))))) hb); (replace HB : Hid (Below w.heap.size w w1) := bCall HB.out hst); (have := HB.out.size)
  (replace B0 : Hid (Blk w1 (w.heap.size) _ _) := Blk.below (by repeat (first | (with_reducible exact B0.out) | ((with_reducible apply Blk.newAt); (first | (with_reducible rfl) | (simp <;> omega))) | (with_reducible apply Blk.alloc) | (with_reducible apply Blk.drew) | (with_reducible apply Blk.drewN) | (with_reducible apply Blk.set) | ((with_reducible apply Blk.setO); (first | (with_reducible assumption) | omega | (simp <;> omega))))) hb); (replace c0 := (B0.out).cell); (replace f0 := (B0.out).froz); (replace l0 := (B0.out).lt)
  (replace B1 : Hid (Blk w1 (w.heap.size + 1) _ _) := Blk.below (by repeat (first | (with_reducible exact B1.out) | ((with_reducible apply Blk.newAt); (first | (with_reducible rfl) | (simp <;> omega))) | (with_reducible apply Blk.alloc) | (with_reducible apply Blk.drew) | (with_reducible apply Blk.drewN) | (with_reducible apply Blk.set) | ((with_reducible apply Blk.setO); (first | (with_reducible assumption) | omega | (simp <;> omega))))) hb); (replace c1 := (B1.out).cell); (replace f1 := (B1.out).froz); (replace l1 := (B1.out).lt)
  (replace B2 : Hid (Blk w1 (w.heap.size + 1 + 1) _ _) := Blk.below (by repeat (first | (with_reducible exact B2.out) | ((with_reducible apply Blk.newAt); (first | (with_reducible rfl) | (simp <;> omega))) | (with_reducible apply Blk.alloc) | (with_reducible apply Blk.drew) | (with_reducible apply Blk.drewN) | (with_reducible apply Blk.set) | ((with_reducible apply Blk.setO); (first | (with_reducible assumption) | omega | (simp <;> omega))))) hb); (replace c2 := (B2.out).cell); (replace f2 := (B2.out).froz); (replace l2 := (B2.out).lt)
  (replace HA : Hid (Rd w1 _ _) := Rd.below HA.out hst)
  have HR1 : Hid (Rd w1 A1 (entCells (first :: rest))) := hR'.rd
  have HC1 : Hid (rest.length + 1 ≤ c1') := hc'
  clear hc' hR' hst hb
  go_wp2_with fail
  refine (HK.out.putx _ A c ?_).mono ?_
  · exact Rd.below HA.out (by repeat (first | (with_reducible exact Below.refl _ _) | (with_reducible apply bAl) | (with_reducible apply bDr) | (with_reducible apply bDrN) | ((with_reducible refine bSt ?_ ?_ _); (first | (with_reducible assumption) | omega | (simp <;> omega)))))
  rintro e w2 ⟨A2, c2', rfl, hc', hR', hb⟩
  dsimp only [ringVal]
  (have hst : Below w1.heap.size w1 w2 := bCall (by repeat (first | (with_reducible exact Below.refl _ _) | (with_reducible apply bAl) | (with_reducible apply bDr) | (with_reducible apply bDrN) | ((with_reducible refine bSt ?_ ?_ _); (first | (with_reducible assumption) | omega | (simp <;> omega))))) hb); (replace HB : Hid (Below w.heap.size w w2) := bCall HB.out hst); (have := HB.out.size)
  (replace B0 : Hid (Blk w2 _ _ _) := Blk.below B0.out hst); (replace c0 := (B0.out).cell); (replace f0 := (B0.out).froz); (replace l0 := (B0.out).lt); (replace B1 : Hid (Blk w2 _ _ _) := Blk.below B1.out hst); (replace c1 := (B1.out).cell); (replace f1 := (B1.out).froz); (replace l1 := (B1.out).lt); (replace B2 : Hid (Blk w2 _ _ _) := Blk.below B2.out hst); (replace c2 := (B2.out).cell); (replace f2 := (B2.out).froz); (replace l2 := (B2.out).lt)
  (replace HA : Hid (Rd w2 _ _) := Rd.below HA.out hst)
  (replace HR1 : Hid (Rd w2 _ _) := Rd.below HR1.out hst)
  have HR2 : Hid (Rd w2 A2 (entCells qx.L)) := hR'.rd
  have HL2 : Hid (qx.L.length ≤ c2') := hc'
  clear hc' hR' hst hb
  go_wp2_with fail
  refine (HK.out.allx _ A2 c2' ?_ HL2.out).mono ?_
  · exact Rd.below HR2.out (by repeat (first | (with_reducible exact Below.refl _ _) | (with_reducible apply bAl) | (with_reducible apply bDr) | (with_reducible apply bDrN) | ((with_reducible refine bSt ?_ ?_ _); (first | (with_reducible assumption) | omega | (simp <;> omega)))))
  rintro e w3 ⟨A3, c3', rfl, hc', hR', hb⟩
  (have hst : Below w2.heap.size w2 w3 := bCall (by repeat (first | (with_reducible exact Below.refl _ _) | (with_reducible apply bAl) | (with_reducible apply bDr) | (with_reducible apply bDrN) | ((with_reducible refine bSt ?_ ?_ _); (first | (with_reducible assumption) | omega | (simp <;> omega))))) hb); (replace HB : Hid (Below w.heap.size w w3) := bCall HB.out hst); (have := HB.out.size)
  (replace B0 : Hid (Blk w3 _ _ _) := Blk.below B0.out hst); (replace c0 := (B0.out).cell); (replace f0 := (B0.out).froz); (replace l0 := (B0.out).lt); (replace B1 : Hid (Blk w3 _ _ _) := Blk.below B1.out hst); (replace c1 := (B1.out).cell); (replace f1 := (B1.out).froz); (replace l1 := (B1.out).lt); (replace B2 : Hid (Blk w3 _ _ _) := Blk.below B2.out hst); (replace c2 := (B2.out).cell); (replace f2 := (B2.out).froz); (replace l2 := (B2.out).lt)
  (replace B3 : Hid (Blk w3 (w2.heap.size) _ _) := Blk.below (by repeat (first | (with_reducible exact B3.out) | ((with_reducible apply Blk.newAt); (first | (with_reducible rfl) | (simp <;> omega))) | (with_reducible apply Blk.alloc) | (with_reducible apply Blk.drew) | (with_reducible apply Blk.drewN) | (with_reducible apply Blk.set) | ((with_reducible apply Blk.setO); (first | (with_reducible assumption) | omega | (simp <;> omega))))) hb); (replace c3 := (B3.out).cell); (replace f3 := (B3.out).froz); (replace l3 := (B3.out).lt)
  (replace HA : Hid (Rd w3 _ _) := Rd.below HA.out hst)
  (replace HR1 : Hid (Rd w3 _ _) := Rd.below HR1.out hst)
  (replace HR2 : Hid (Rd w3 _ _) := Rd.below HR2.out hst)
  have HR3 : Hid (Rd w3 A3 (entCells xs)) := hR'.rd
  clear hc' hR' hst hb
  go_wp2_with fail
  refine (HK.out.puty _ A c ?_).mono ?_
  · exact Rd.below HA.out (by repeat (first | (with_reducible exact Below.refl _ _) | (with_reducible apply bAl) | (with_reducible apply bDr) | (with_reducible apply bDrN) | ((with_reducible refine bSt ?_ ?_ _); (first | (with_reducible assumption) | omega | (simp <;> omega)))))
  rintro e w4 ⟨A4, c4', rfl, hc', hR', hb⟩
  dsimp only [ringVal]
  (have hst : Below w3.heap.size w3 w4 := bCall (by repeat (first | (with_reducible exact Below.refl _ _) | (with_reducible apply bAl) | (with_reducible apply bDr) | (with_reducible apply bDrN) | ((with_reducible refine bSt ?_ ?_ _); (first | (with_reducible assumption) | omega | (simp <;> omega))))) hb); (replace HB : Hid (Below w.heap.size w w4) := bCall HB.out hst); (have := HB.out.size)
  (replace B0 : Hid (Blk w4 _ _ _) := Blk.below B0.out hst); (replace c0 := (B0.out).cell); (replace f0 := (B0.out).froz); (replace l0 := (B0.out).lt); (replace B1 : Hid (Blk w4 _ _ _) := Blk.below B1.out hst); (replace c1 := (B1.out).cell); (replace f1 := (B1.out).froz); (replace l1 := (B1.out).lt); (replace B2 : Hid (Blk w4 _ _ _) := Blk.below B2.out hst); (replace c2 := (B2.out).cell); (replace f2 := (B2.out).froz); (replace l2 := (B2.out).lt)
  (replace B3 : Hid (Blk w4 _ _ _) := Blk.below B3.out hst); (replace c3 := (B3.out).cell); (replace f3 := (B3.out).froz); (replace l3 := (B3.out).lt)
  (replace HA : Hid (Rd w4 _ _) := Rd.below HA.out hst)
  (replace HR1 : Hid (Rd w4 _ _) := Rd.below HR1.out hst)
  (replace HR2 : Hid (Rd w4 _ _) := Rd.below HR2.out hst)
  (replace HR3 : Hid (Rd w4 _ _) := Rd.below HR3.out hst)
  have HR4 : Hid (Rd w4 A4 (entCells qy.L)) := hR'.rd
  have HL4 : Hid (qy.L.length ≤ c4') := hc'
  clear hc' hR' hst hb
  go_wp2_with fail
  refine (HK.out.ally _ A4 c4' ?_ HL4.out).mono ?_
  · exact Rd.below HR4.out (by repeat (first | (with_reducible exact Below.refl _ _) | (with_reducible apply bAl) | (with_reducible apply bDr) | (with_reducible apply bDrN) | ((with_reducible refine bSt ?_ ?_ _); (first | (with_reducible assumption) | omega | (simp <;> omega)))))
  rintro e w5 ⟨A5, c5', rfl, hc', hR', hb⟩
  (have hst : Below w4.heap.size w4 w5 := bCall (by repeat (first | (with_reducible exact Below.refl _ _) | (with_reducible apply bAl) | (with_reducible apply bDr) | (with_reducible apply bDrN) | ((with_reducible refine bSt ?_ ?_ _); (first | (with_reducible assumption) | omega | (simp <;> omega))))) hb); (replace HB : Hid (Below w.heap.size w w5) := bCall HB.out hst); (have := HB.out.size)
  (replace B0 : Hid (Blk w5 _ _ _) := Blk.below B0.out hst); (replace c0 := (B0.out).cell); (replace f0 := (B0.out).froz); (replace l0 := (B0.out).lt); (replace B1 : Hid (Blk w5 _ _ _) := Blk.below B1.out hst); (replace c1 := (B1.out).cell); (replace f1 := (B1.out).froz); (replace l1 := (B1.out).lt); (replace B2 : Hid (Blk w5 _ _ _) := Blk.below B2.out hst); (replace c2 := (B2.out).cell); (replace f2 := (B2.out).froz); (replace l2 := (B2.out).lt)
  (replace B3 : Hid (Blk w5 _ _ _) := Blk.below B3.out hst); (replace c3 := (B3.out).cell); (replace f3 := (B3.out).froz); (replace l3 := (B3.out).lt)
  (replace HA : Hid (Rd w5 _ _) := Rd.below HA.out hst)
  (replace HR1 : Hid (Rd w5 _ _) := Rd.below HR1.out hst)
  (replace HR2 : Hid (Rd w5 _ _) := Rd.below HR2.out hst)
  (replace HR3 : Hid (Rd w5 _ _) := Rd.below HR3.out hst)
  have HR5 : Hid (Rd w5 A5 (entCells ys)) := hR'.rd
  clear hc' hR' hst hb
  go_wp2_with fail
  refine (HK.out.allx _ A2 c2' ?_ HL2.out).mono ?_
  · exact Rd.below HR2.out (by repeat (first | (with_reducible exact Below.refl _ _) | (with_reducible apply bAl) | (with_reducible apply bDr) | (with_reducible apply bDrN) | ((with_reducible refine bSt ?_ ?_ _); (first | (with_reducible assumption) | omega | (simp <;> omega)))))
  rintro e w6 ⟨A6, c6', rfl, hc', hR', hb⟩
  (have hst : Below w5.heap.size w5 w6 := bCall (by repeat (first | (with_reducible exact Below.refl _ _) | (with_reducible apply bAl) | (with_reducible apply bDr) | (with_reducible apply bDrN) | ((with_reducible refine bSt ?_ ?_ _); (first | (with_reducible assumption) | omega | (simp <;> omega))))) hb); (replace HB : Hid (Below w.heap.size w w6) := bCall HB.out hst); (have := HB.out.size)
  (replace B0 : Hid (Blk w6 _ _ _) := Blk.below B0.out hst); (replace c0 := (B0.out).cell); (replace f0 := (B0.out).froz); (replace l0 := (B0.out).lt); (replace B1 : Hid (Blk w6 _ _ _) := Blk.below B1.out hst); (replace c1 := (B1.out).cell); (replace f1 := (B1.out).froz); (replace l1 := (B1.out).lt); (replace B2 : Hid (Blk w6 _ _ _) := Blk.below B2.out hst); (replace c2 := (B2.out).cell); (replace f2 := (B2.out).froz); (replace l2 := (B2.out).lt)
  (replace HA : Hid (Rd w6 _ _) := Rd.below HA.out hst)
  (replace HR1 : Hid (Rd w6 _ _) := Rd.below HR1.out hst)
  (replace HR3 : Hid (Rd w6 _ _) := Rd.below HR3.out hst)
  (replace HR5 : Hid (Rd w6 _ _) := Rd.below HR5.out hst)
  have HR6 : Hid (Rd w6 A6 (entCells xs)) := hR'.rd
  clear hc' hR' hst hb
  go_wp2_with fail
  refine (HK.out.selfx _ A6 c6' A3 c3' HR6.out HR3.out).mono ?_
  rintro e w7 ⟨rfl, hb⟩
  (have hst : Below w6.heap.size w6 w7 := bCall (by repeat (first | (with_reducible exact Below.refl _ _) | (with_reducible apply bAl) | (with_reducible apply bDr) | (with_reducible apply bDrN) | ((with_reducible refine bSt ?_ ?_ _); (first | (with_reducible assumption) | omega | (simp <;> omega))))) hb); (replace HB : Hid (Below w.heap.size w w7) := bCall HB.out hst); (have := HB.out.size)
  (replace B0 : Hid (Blk w7 _ _ _) := Blk.below B0.out hst); (replace c0 := (B0.out).cell); (replace f0 := (B0.out).froz); (replace l0 := (B0.out).lt); (replace B1 : Hid (Blk w7 _ _ _) := Blk.below B1.out hst); (replace c1 := (B1.out).cell); (replace f1 := (B1.out).froz); (replace l1 := (B1.out).lt); (replace B2 : Hid (Blk w7 _ _ _) := Blk.below B2.out hst); (replace c2 := (B2.out).cell); (replace f2 := (B2.out).froz); (replace l2 := (B2.out).lt)
  (replace HA : Hid (Rd w7 _ _) := Rd.below HA.out hst)
  (replace HR1 : Hid (Rd w7 _ _) := Rd.below HR1.out hst)
  (replace HR5 : Hid (Rd w7 _ _) := Rd.below HR5.out hst)
  clear hst hb
  go_wp2_with fail
  refine (HK.out.all_ _ A c ?_ HL.out).mono ?_
  · exact Rd.below HA.out (by repeat (first | (with_reducible exact Below.refl _ _) | (with_reducible apply bAl) | (with_reducible apply bDr) | (with_reducible apply bDrN) | ((with_reducible refine bSt ?_ ?_ _); (first | (with_reducible assumption) | omega | (simp <;> omega)))))
  rintro e w8 ⟨A8, c8', rfl, hc', hR', hb⟩
  (have hst : Below w7.heap.size w7 w8 := bCall (by repeat (first | (with_reducible exact Below.refl _ _) | (with_reducible apply bAl) | (with_reducible apply bDr) | (with_reducible apply bDrN) | ((with_reducible refine bSt ?_ ?_ _); (first | (with_reducible assumption) | omega | (simp <;> omega))))) hb); (replace HB : Hid (Below w.heap.size w w8) := bCall HB.out hst); (have := HB.out.size)
  (replace B0 : Hid (Blk w8 _ _ _) := Blk.below B0.out hst); (replace c0 := (B0.out).cell); (replace f0 := (B0.out).froz); (replace l0 := (B0.out).lt); (replace B1 : Hid (Blk w8 _ _ _) := Blk.below B1.out hst); (replace c1 := (B1.out).cell); (replace f1 := (B1.out).froz); (replace l1 := (B1.out).lt); (replace B2 : Hid (Blk w8 _ _ _) := Blk.below B2.out hst); (replace c2 := (B2.out).cell); (replace f2 := (B2.out).froz); (replace l2 := (B2.out).lt)
  (replace HA : Hid (Rd w8 _ _) := Rd.below HA.out hst)
  (replace HR1 : Hid (Rd w8 _ _) := Rd.below HR1.out hst)
  (replace HR5 : Hid (Rd w8 _ _) := Rd.below HR5.out hst)
  have HR8 : Hid (Rd w8 A8 (entCells (first :: rest))) := hR'.rd
  clear hc' hR' hst hb
  go_wp2_with fail
  refine (HK.out.selfr _ A8 c8' A1 c1' HR8.out HR1.out).mono ?_
  rintro e w9 ⟨rfl, hb⟩
  (have hst : Below w8.heap.size w8 w9 := bCall (by repeat (first | (with_reducible exact Below.refl _ _) | (with_reducible apply bAl) | (with_reducible apply bDr) | (with_reducible apply bDrN) | ((with_reducible refine bSt ?_ ?_ _); (first | (with_reducible assumption) | omega | (simp <;> omega))))) hb); (replace HB : Hid (Below w.heap.size w w9) := bCall HB.out hst); (have := HB.out.size)
  (replace B0 : Hid (Blk w9 _ _ _) := Blk.below B0.out hst); (replace c0 := (B0.out).cell); (replace f0 := (B0.out).froz); (replace l0 := (B0.out).lt); (replace B1 : Hid (Blk w9 _ _ _) := Blk.below B1.out hst); (replace c1 := (B1.out).cell); (replace f1 := (B1.out).froz); (replace l1 := (B1.out).lt); (replace B2 : Hid (Blk w9 _ _ _) := Blk.below B2.out hst); (replace c2 := (B2.out).cell); (replace f2 := (B2.out).froz); (replace l2 := (B2.out).lt)
  (replace HA : Hid (Rd w9 _ _) := Rd.below HA.out hst)
  (replace HR1 : Hid (Rd w9 _ _) := Rd.below HR1.out hst)
  (replace HR5 : Hid (Rd w9 _ _) := Rd.below HR5.out hst)
  clear hst hb
  go_wp2_with fail
  refine (HK.out.take_ _ A c ?_ HL.out).mono ?_
  · exact Rd.below HA.out (by repeat (first | (with_reducible exact Below.refl _ _) | (with_reducible apply bAl) | (with_reducible apply bDr) | (with_reducible apply bDrN) | ((with_reducible refine bSt ?_ ?_ _); (first | (with_reducible assumption) | omega | (simp <;> omega)))))
  rintro e w10 ⟨A10, c10', rfl, hc', hR', hb⟩
  dsimp only [ringVal, entVal]
  (have hst : Below w9.heap.size w9 w10 := bCall (by repeat (first | (with_reducible exact Below.refl _ _) | (with_reducible apply bAl) | (with_reducible apply bDr) | (with_reducible apply bDrN) | ((with_reducible refine bSt ?_ ?_ _); (first | (with_reducible assumption) | omega | (simp <;> omega))))) hb); (replace HB : Hid (Below w.heap.size w w10) := bCall HB.out hst); (have := HB.out.size)
  (replace HR1 : Hid (Rd w10 _ _) := Rd.below HR1.out hst)
  have HR10 : Hid (Rd w10 A10 (entCells s.L)) := hR'.rd
  have HL10 : Hid (s.L.length ≤ c10') := hc'
  clear hc' hR' hst hb
  go_wp2_with fail
  refine (HK.out.alls _ A10 c10' ?_ HL10.out).mono ?_
  · exact Rd.below HR10.out (by repeat (first | (with_reducible exact Below.refl _ _) | (with_reducible apply bAl) | (with_reducible apply bDr) | (with_reducible apply bDrN) | ((with_reducible refine bSt ?_ ?_ _); (first | (with_reducible assumption) | omega | (simp <;> omega)))))
  rintro e w11 ⟨A11, c11', rfl, hc', hR', hb⟩
  (have hst : Below w10.heap.size w10 w11 := bCall (by repeat (first | (with_reducible exact Below.refl _ _) | (with_reducible apply bAl) | (with_reducible apply bDr) | (with_reducible apply bDrN) | ((with_reducible refine bSt ?_ ?_ _); (first | (with_reducible assumption) | omega | (simp <;> omega))))) hb); (replace HB : Hid (Below w.heap.size w w11) := bCall HB.out hst); (have := HB.out.size)
  (replace B4 : Hid (Blk w11 (w10.heap.size) _ _) := Blk.below (by repeat (first | (with_reducible exact B4.out) | ((with_reducible apply Blk.newAt); (first | (with_reducible rfl) | (simp <;> omega))) | (with_reducible apply Blk.alloc) | (with_reducible apply Blk.drew) | (with_reducible apply Blk.drewN) | (with_reducible apply Blk.set) | ((with_reducible apply Blk.setO); (first | (with_reducible assumption) | omega | (simp <;> omega))))) hb); (replace c4 := (B4.out).cell); (replace f4 := (B4.out).froz); (replace l4 := (B4.out).lt)
  (replace HR1 : Hid (Rd w11 _ _) := Rd.below HR1.out hst)
  have HR11 : Hid (Rd w11 A11 (entCells rest)) := hR'.rd
  clear hc' hR' hst hb c0 c1 c2 f0 f1 f2 B0 B1 B2
  have B4' : Hid (Blk w11 w10.heap.size #[.int .u64 first.st, .int .u64 first.e.sq, .int .i64 first.e.tk, .int .i64 first.e.pt, .int .i64 first.e.kd, .int .i64 first.e.a, .int .i64 first.e.b] 27) := B4.out
  clear B4 c4
  have B4 := B4'
  have c4 := B4.out.cell
  clear B4'
  obtain ⟨b, o, rfl, a0, a1, a2, a3, a4, a5, a6⟩ := HR1.out.ent 0 (by simp)
  simp only [Nat.zero_mul, Nat.add_zero, List.getElem_cons_zero] at a0 a1 a2 a3 a4 a5 a6
  obtain ⟨A13, hcut, hA13⟩ := cut1 b o rest.length c1' HC1.out
  have HT : Hid (Rd w11 A13 (entCells rest)) := by
    rcases hA13 with rfl | h0
    · have h := (HR1.out.drop (1 * 7))
      rw [entCells_drop] at h
      exact h
    · obtain rfl := List.eq_nil_of_length_eq_zero h0
      exact Rd.nil _ _
  clear hA13
  have HX : Hid (w11.cell? ⟨b, o, none⟩ = some (.int .u64 first.st) ∧ w11.cell? ⟨b, o + 1, none⟩ = some (.int .u64 first.e.sq) ∧ w11.cell? ⟨b, o + 2, none⟩ = some (.int .i64 first.e.tk) ∧ w11.cell? ⟨b, o + 3, none⟩ = some (.int .i64 first.e.pt) ∧ w11.cell? ⟨b, o + 4, none⟩ = some (.int .i64 first.e.kd) ∧ w11.cell? ⟨b, o + 5, none⟩ = some (.int .i64 first.e.a) ∧ w11.cell? ⟨b, o + 6, none⟩ = some (.int .i64 first.e.b)) := ⟨a0, a1, a2, a3, a4, a5, a6⟩
  have hbl : b < w11.heap.size := World.block_lt_of_cell? w11 _ a0
  have Hw : Hid (Below w11.heap.size w11 w11) := Below.refl _ _
  have hee := entEq_self first
  have hone : (1 : Int) ≤ ((rest.length : Int) + 1) := by omega
  have hpos : (0 : Int) < ((rest.length : Int) + 1) := by omega
  go_wp2_with fail
  go_region_held3 (fun w' => (∀ j, w'.cell? ⟨w10.heap.size, j, none⟩ = (#[.int .u64 first.st, .int .u64 first.e.sq, .int .i64 first.e.tk, .int .i64 first.e.pt, .int .i64 first.e.kd, .int .i64 first.e.a, .int .i64 first.e.b] : Array Value)[j]?) ∧ w'.cell? ⟨b, o, none⟩ = some (.int .u64 first.st) ∧ w'.cell? ⟨b, o + 1, none⟩ = some (.int .u64 first.e.sq) ∧ w'.cell? ⟨b, o + 2, none⟩ = some (.int .i64 first.e.tk) ∧ w'.cell? ⟨b, o + 3, none⟩ = some (.int .i64 first.e.pt) ∧ w'.cell? ⟨b, o + 4, none⟩ = some (.int .i64 first.e.kd) ∧ w'.cell? ⟨b, o + 5, none⟩ = some (.int .i64 first.e.a) ∧ w'.cell? ⟨b, o + 6, none⟩ = some (.int .i64 first.e.b))
    (exact ⟨Blk.cell (by repeat (first | (with_reducible exact B4.out) | ((with_reducible apply Blk.newAt); (first | (with_reducible rfl) | (simp <;> omega))) | (with_reducible apply Blk.alloc) | (with_reducible apply Blk.drew) | (with_reducible apply Blk.drewN) | (with_reducible apply Blk.set) | ((with_reducible apply Blk.setO); (first | (with_reducible assumption) | omega | (simp <;> omega))))), Rd7.at_ HX.out (by repeat (first | (with_reducible exact Hw.out) | (with_reducible apply bAl) | (with_reducible apply bDr) | (with_reducible apply bDrN) | ((with_reducible refine bSt ?_ ?_ _); (first | (with_reducible assumption) | omega | (simp <;> omega)))))⟩)
    (first
      | (go_at_call 19; refine (ringed19 _).mono ?_; rintro e w12 ⟨rfl, hb⟩; (replace B4 : Hid (Blk w12 (w10.heap.size) _ _) := Blk.below (by repeat (first | (with_reducible exact B4.out) | ((with_reducible apply Blk.newAt); (first | (with_reducible rfl) | (simp <;> omega))) | (with_reducible apply Blk.alloc) | (with_reducible apply Blk.drew) | (with_reducible apply Blk.drewN) | (with_reducible apply Blk.set) | ((with_reducible apply Blk.setO); (first | (with_reducible assumption) | omega | (simp <;> omega))))) hb); (replace c4 := (B4.out).cell); (replace f4 := (B4.out).froz); (replace l4 := (B4.out).lt); (replace Hw : Hid (Below w11.heap.size w11 w12) := bCall (by repeat (first | (with_reducible exact Hw.out) | (with_reducible apply bAl) | (with_reducible apply bDr) | (with_reducible apply bDrN) | ((with_reducible refine bSt ?_ ?_ _); (first | (with_reducible assumption) | omega | (simp <;> omega))))) hb); (replace HB : Hid (Below w.heap.size w w12) := bCall (by repeat (first | (with_reducible exact HB.out) | (with_reducible apply bAl) | (with_reducible apply bDr) | (with_reducible apply bDrN) | ((with_reducible refine bSt ?_ ?_ _); (first | (with_reducible assumption) | omega | (simp <;> omega))))) hb); clear hb; (have := HB.out.size))
      | (go_at_call 26; refine (HK.out.selft _ A11 c11' A13 _ ?_ ?_).mono ?_; (exact Rd.below HR11.out (by repeat (first | (with_reducible exact Hw.out) | (with_reducible apply bAl) | (with_reducible apply bDr) | (with_reducible apply bDrN) | ((with_reducible refine bSt ?_ ?_ _); (first | (with_reducible assumption) | omega | (simp <;> omega)))))); (exact Rd.below HT.out (by repeat (first | (with_reducible exact Hw.out) | (with_reducible apply bAl) | (with_reducible apply bDr) | (with_reducible apply bDrN) | ((with_reducible refine bSt ?_ ?_ _); (first | (with_reducible assumption) | omega | (simp <;> omega)))))); rintro e w12 ⟨rfl, hb⟩; (replace B4 : Hid (Blk w12 (w10.heap.size) _ _) := Blk.below (by repeat (first | (with_reducible exact B4.out) | ((with_reducible apply Blk.newAt); (first | (with_reducible rfl) | (simp <;> omega))) | (with_reducible apply Blk.alloc) | (with_reducible apply Blk.drew) | (with_reducible apply Blk.drewN) | (with_reducible apply Blk.set) | ((with_reducible apply Blk.setO); (first | (with_reducible assumption) | omega | (simp <;> omega))))) hb); (replace c4 := (B4.out).cell); (replace f4 := (B4.out).froz); (replace l4 := (B4.out).lt); (replace Hw : Hid (Below w11.heap.size w11 w12) := bCall (by repeat (first | (with_reducible exact Hw.out) | (with_reducible apply bAl) | (with_reducible apply bDr) | (with_reducible apply bDrN) | ((with_reducible refine bSt ?_ ?_ _); (first | (with_reducible assumption) | omega | (simp <;> omega))))) hb); (replace HB : Hid (Below w.heap.size w w12) := bCall (by repeat (first | (with_reducible exact HB.out) | (with_reducible apply bAl) | (with_reducible apply bDr) | (with_reducible apply bDrN) | ((with_reducible refine bSt ?_ ?_ _); (first | (with_reducible assumption) | omega | (simp <;> omega))))) hb); clear hb; (have := HB.out.size)))
  all_goals go_wp2
  all_goals go_ret
  all_goals refine ⟨rfl, ?_⟩
  all_goals repeat (first | (with_reducible exact HB.out) | (with_reducible apply bAl) | (with_reducible apply bDr) | (with_reducible apply bDrN) | ((with_reducible refine bSt ?_ ?_ _); (first | (with_reducible assumption) | omega | (simp <;> omega))))
end Go.Proofs.Ytlegpbookbghbaa
