/- Disks: Flush: the walk; the disk lies in blocks of its own. -/
import Derived.Test.YtlegpbookbghbaaG5
import Derived.Deep.RegionHeld3
set_option linter.unusedVariables false
set_option linter.unusedSimpArgs false
namespace Go.Proofs.Ytlegpbookbghbaa
open Go.RowKit

theorem Blk.tne {w : World} {g k : Nat} {cur cs : Array Value} {e t : TypeId} (h : Blk w g cur e) (h2 : Blk w k cs t) (hne : e ≠ t) : g ≠ k := by
  rintro rfl
  unfold Blk at h h2
  rw [h] at h2
  simp only [Option.some.injEq, Obj.cells.injEq] at h2
  exact hne h2.2.1
theorem ownsType {w : World} {base : Nat} {e : TypeId} {size n : Nat} {v : Value} {xs : List Value} (h : w.ownsRow base e size v n xs) : ∀ g, v.ownBlock = some g → ∃ cur, Blk w g cur e := by
  intro g hg
  rcases h.2 with ⟨rfl, _⟩ | ⟨g', cap, cur, rfl, _, hh, _⟩
  · cases hg
  · simp only [Value.ownBlock, Option.some.injEq] at hg
    subst hg
    exact ⟨cur, hh⟩
theorem ownsCell {w : World} {base : Nat} {e : TypeId} {n c : Nat} {A : Option Addr} {xs : List Value} (h : w.ownsRow base e 1 (.slice A n c) n xs) {j : Nat} {u : Value} (hu : xs[j]? = some u) : ∃ g, A = some ⟨g, 0, none⟩ ∧ w.cell? ⟨g, j, none⟩ = some u := by
  have hj : j < xs.length := (List.getElem?_eq_some_iff.1 hu).1
  have hj2 : j < n * 1 := by have := h.1; omega
  obtain ⟨g, hA, _, hc⟩ := ownsCells h (by omega)
  exact ⟨g, hA, by have := hc j u hu; rwa [Nat.zero_add] at this⟩
theorem ownsCell' {w : World} {base g : Nat} {e : TypeId} {n c : Nat} {xs : List Value} (h : w.ownsRow base e 1 (.slice (some ⟨g, 0, none⟩) n c) n xs) {j : Nat} {u : Value} (hu : xs[j]? = some u) : w.cell? ⟨g, j, none⟩ = some u := by
  obtain ⟨g', hA, hc⟩ := ownsCell h hu
  simp only [Option.some.injEq, Addr.mk.injEq, and_true] at hA
  rw [hA]
  exact hc
theorem DiskB.drew {w : World} {lo hi kd kl km : Nat} {pA wA : Option Addr} {pc wc : Nat} {ks : List Nat} {D : DiskS} (h : DiskB w lo hi kd kl km pA wA pc wc ks D) : DiskB w.drew lo hi kd kl km pA wA pc wc ks D := h.below (belowDrew w)
theorem DiskB.setLast {w : World} {lo hi kd kl km : Nat} {pA wA : Option Addr} {pc wc : Nat} {ks : List Nat} {D : DiskS} {w1 : World} {L : List UInt8} (h : DiskB w lo hi kd kl km pA wA pc wc ks D) (hB : Blk w1 kl (bcells L).toArray 5) (ho : Only (fun k => k = kl) w w1) : DiskB w1 lo hi kd kl km pA wA pc wc ks ({ D with last := L } : DiskS) where
  blk := ho.blk h.blk (h.blk.tne h.last (by decide))
  last := hB
  map := mapOnly h.map ho (Ne.symm (mapBlk_ne h.last h.map))
  pend := ownsOnly h.pend ho fun g hg => by obtain ⟨cur, hc⟩ := ownsType h.pend g hg; exact hc.tne h.last (by decide)
  plt := h.plt
  wher := ownsOnly h.wher ho fun g hg => by obtain ⟨cur, hc⟩ := ownsType h.wher g hg; exact hc.tne h.last (by decide)
  wlt := h.wlt
  kslen := h.kslen
  strs := fun i h1 h2 => ⟨(h.strs i h1 h2).1, (h.strs i h1 h2).2.1, ho.blk (h.strs i h1 h2).2.2 ((h.strs i h1 h2).2.2.tne h.last (by decide))⟩
  bd := h.bd
theorem DiskB.setHead {w : World} {lo hi kd kl km : Nat} {pA wA : Option Addr} {pc wc : Nat} {ks : List Nat} {D : DiskS} {w1 : World} {D' : DiskS} (h : DiskB w lo hi kd kl km pA wA pc wc ks D) (hB : Blk w1 kd #[.int .i64 D'.many, .int .i64 D'.size, .slice (some ⟨kl, 0, none⟩) (D'.many * D'.size) (D'.many * D'.size), .slice pA D'.pend.length pc, .slice wA D'.pend.length wc, .map (some km), .bool D'.down, .bool D'.breaks, .int .i64 D'.left] 113) (ho : Only (fun k => k = kd) w w1) (hl : D'.last = D.last) (hp : D'.pend = D.pend) : DiskB w1 lo hi kd kl km pA wA pc wc ks D' := by
  have hlen : D'.pend.length = D.pend.length := by rw [hp]
  exact {
    blk := hB
    last := by rw [hl]; exact ho.blk h.last (h.last.tne h.blk (by decide))
    map := by rw [hp]; exact mapOnly h.map ho (Ne.symm (mapBlk_ne h.blk h.map))
    pend := by rw [hlen]; exact ownsOnly h.pend ho fun g hg => by obtain ⟨cur, hc⟩ := ownsType h.pend g hg; exact hc.tne h.blk (by decide)
    plt := by rw [hlen]; exact h.plt
    wher := by rw [hp]; exact ownsOnly h.wher ho fun g hg => by obtain ⟨cur, hc⟩ := ownsType h.wher g hg; exact hc.tne h.blk (by decide)
    wlt := by rw [hlen]; exact h.wlt
    kslen := by rw [hlen]; exact h.kslen
    strs := by rw [hp]; exact fun i h1 h2 => ⟨(h.strs i h1 h2).1, (h.strs i h1 h2).2.1, ho.blk (h.strs i h1 h2).2.2 ((h.strs i h1 h2).2.2.tne h.blk (by decide))⟩
    bd := h.bd }
theorem DiskB.settled {w : World} {lo hi kd kl km : Nat} {pA wA : Option Addr} {pc wc : Nat} {ks : List Nat} {D : DiskS} {w1 : World} (h : DiskB w lo hi kd kl km pA wA pc wc ks D) (hB : Blk w1 kd #[.int .i64 ({ D with pend := [] } : DiskS).many, .int .i64 ({ D with pend := [] } : DiskS).size, .slice (some ⟨kl, 0, none⟩) (({ D with pend := [] } : DiskS).many * ({ D with pend := [] } : DiskS).size) (({ D with pend := [] } : DiskS).many * ({ D with pend := [] } : DiskS).size), .slice none ({ D with pend := [] } : DiskS).pend.length 0, .slice none ({ D with pend := [] } : DiskS).pend.length 0, .map (some km), .bool ({ D with pend := [] } : DiskS).down, .bool ({ D with pend := [] } : DiskS).breaks, .int .i64 ({ D with pend := [] } : DiskS).left] 113) (hM : MapAt w1 km 0 (.map [])) (ho : Only (fun k => k = kd ∨ k = km) w w1) : DiskB w1 lo hi kd kl km none none 0 0 [] ({ D with pend := [] } : DiskS) where
  blk := hB
  last := ho.blk h.last fun hh => hh.elim (h.last.tne h.blk (by decide)) (mapBlk_ne h.last h.map)
  map := hM
  pend := World.ownsRow_nil _ _ _ _
  plt := fun g hg => by cases hg
  wher := World.ownsRow_nil _ _ _ _
  wlt := fun g hg => by cases hg
  kslen := rfl
  strs := fun i h1 _ => absurd h1 (Nat.not_lt_zero _)
  bd := h.bd
theorem DiskB.cells {w : World} {lo hi kd kl km : Nat} {pA wA : Option Addr} {pc wc : Nat} {ks : List Nat} {D : DiskS} {L : List UInt8} (h : DiskB w lo hi kd kl km pA wA pc wc ks ({ D with last := L } : DiskS)) (hd : D.down = false) : ∀ j, w.cell? ⟨kd, j, none⟩ = (#[.int .i64 D.many, .int .i64 D.size, .slice (some ⟨kl, 0, none⟩) (D.many * D.size) (D.many * D.size), .slice pA D.pend.length pc, .slice wA D.pend.length wc, .map (some km), .bool false, .bool D.breaks, .int .i64 D.left] : Array Value)[j]? := by
  have hb := h.blk.cell
  simp only [hd] at hb
  exact hb
theorem countS_last (D : DiskS) : (countS D).last = D.last := by unfold countS; split <;> (try split) <;> rfl
theorem countS_pend (D : DiskS) : (countS D).pend = D.pend := by unfold countS; split <;> (try split) <;> rfl
def applied (D : DiskS) (k : Nat) : List UInt8 := (D.pend.take k).foldl (fun l p => putB l (p.1 * D.size) p.2) D.last
def flushS (D : DiskS) : DiskS := countS { D with last := applied D D.pend.length, pend := [] }
theorem applied_step {D : DiskS} {k : Nat} (hk : k < D.pend.length) : applied D (k + 1) = putB (applied D k) (D.pend[k].1 * D.size) D.pend[k].2 := by
  unfold applied
  rw [List.take_succ_eq_append_getElem hk, List.foldl_append]
  rfl
theorem place_le {D : DiskS} (h : DOk D) {p : Nat × List UInt8} (hp : p ∈ D.pend) : p.1 * D.size + D.size ≤ D.many * D.size := by
  have h1 := (h.pend p hp).1
  have h2 : (p.1 + 1) * D.size ≤ D.many * D.size := Nat.mul_le_mul_right _ h1
  rwa [Nat.add_mul, Nat.one_mul] at h2
theorem applied_len {D : DiskS} (h : DOk D) (k : Nat) : (applied D k).length = D.many * D.size := by
  induction k with
  | zero => simp [applied, h.last]
  | succ k ih =>
    by_cases hk : k < D.pend.length
    · rw [applied_step hk, putB_len, ih]
      have := place_le h (List.getElem_mem hk)
      rw [ih, (h.pend _ (List.getElem_mem hk)).2]
      exact this
    · rw [← ih]
      unfold applied
      rw [List.take_of_length_le (by omega), List.take_of_length_le (by omega)]
set_option maxRecDepth 100000 in set_option maxHeartbeats 2000000 in
theorem flushDown44 (lo hi kd : Nat) (D : DiskS) (w : World) (hD : DiskAt w lo hi kd D) (hd : D.down = true) :
    Calls Try.prog 44 #[.pointer (some ⟨kd, 0, none⟩)] w fun e w' => e = .returned (.int .i64 9) ∧ w' = w := by
  have hu113 := Try.underlying113
  obtain ⟨kl, km, pA, wA, pc, wc, ks, hD⟩ := hD
  have c0 := hD.blk.cell
  rw [hd] at c0
  clear hD
  go_enter Try.func44, Try.ntmps44
  go_wp2
  go_ret
  exact ⟨rfl, rfl⟩
set_option maxRecDepth 100000 in set_option maxHeartbeats 2000000 in
theorem flushNil44 (w : World) :
    Calls Try.prog 44 #[.pointer none] w fun e w' => e = .returned (.int .i64 5) ∧ w' = w := by
  go_enter Try.func44, Try.ntmps44
  go_wp2
  go_ret
  exact ⟨rfl, rfl⟩
set_option maxRecDepth 100000 in set_option maxHeartbeats 2000000 in
theorem flush44 (lo hi kd : Nat) (D : DiskS) (w : World) (hD : DiskAt w lo hi kd D) (hok : DOk D) (hd : D.down = false) :
    Calls Try.prog 44 #[.pointer (some ⟨kd, 0, none⟩)] w fun e w' => e = .returned (.int .i64 0) ∧ DiskAt w' lo hi kd (flushS D) ∧ Only (In lo hi) w w' := by
  have hu113 := Try.underlying113
  obtain ⟨kl, km, pA, wA, pc, wc, ks, hD⟩ := hD
  have HD := Lib.hid hD
  have OK := Lib.hid hok
  have c0 := hD.blk.cell
  rw [hd] at c0
  have hfew := hok.few
  clear hD hok
  go_enter Try.func44, Try.ntmps44
  go_wp2_with fail
  go_loopw [16] (fun i wr => ∃ k : Nat, k ≤ D.pend.length ∧ i = .int .i64 k ∧ DiskB wr lo hi kd kl km pA wA pc wc ks ({ D with last := applied D k } : DiskS) ∧ Only (In lo hi) w wr) (fun i _ => D.pend.length - (intOf i).toNat)
  case atStart => exact ⟨0, by omega, rfl, HD.out, Only.refl _ _⟩
  case round =>
    obtain ⟨k, hk, rfl, hDr, hor⟩ := hrel
    clear HD c0
    have HD := Lib.hid hDr
    have HO := Lib.hid hor
    have c0 := hDr.blk.cell
    rw [hd] at c0
    clear hor
    by_cases hlt : k < D.pend.length
    · have hlt' : (k : Int) < (D.pend.length : Int) := by omega
      have hks : k < ks.length := by rw [hDr.kslen]; exact hlt
      obtain ⟨g, rfl, cf⟩ := ownsCell hDr.pend (j := k) (u := funOf ks[k]) (by simp [hks])
      obtain ⟨gw, rfl, cw⟩ := ownsCell hDr.wher (j := k) (u := .int .i64 (D.pend[k].1 : Int)) (by simp [hlt])
      have hp := OK.out.pend D.pend[k] (List.getElem_mem _)
      have hm := OK.out.many
      have hs := OK.out.size
      have hpl := place_le OK.out (List.getElem_mem hlt)
      have hstr := (hDr.strs k hks hlt).2.2
      have hbd := hDr.bd
      have hll := applied_len OK.out k
      have hst1 := applied_step hlt
      dsimp only at hstr
      generalize hxx : D.pend[k] = x at *
      generalize hkk : ks[k] = kk at *
      obtain ⟨at_, b⟩ := x
      dsimp only at hp hpl hstr cw hst1
      have HX := Lib.hid hxx
      have BL : Hid (Blk wr kl (bcells (applied D k)).toArray 5) := hDr.last
      have BS := Lib.hid hstr
      have HS1 := Lib.hid hst1
      have hbs : D.size ≤ b.length := by omega
      have hatm : at_ < D.many := hp.1
      have HBL := Lib.hid hp.2
      have hNm : D.many * D.size ≤ 4096 * 1024 := Nat.mul_le_mul hm.2 hs.2
      have HW : Hid (wr.ownsRow lo 3 1 (.slice (some ⟨gw, 0, none⟩) D.pend.length wc) D.pend.length (D.pend.map fun p => .int .i64 (p.1 : Int))) := hDr.wher
      unfold funOf at cf
      clear hDr hstr hxx hkk hp hst1
      go_wp2_with fail
      go_region_held3 (fun w' => (∀ j, w'.cell? ⟨kd, j, none⟩ = (#[.int .i64 D.many, .int .i64 D.size, .slice (some ⟨kl, 0, none⟩) (D.many * D.size) (D.many * D.size), .slice (some ⟨g, 0, none⟩) D.pend.length pc, .slice (some ⟨gw, 0, none⟩) D.pend.length wc, .map (some km), .bool false, .bool D.breaks, .int .i64 D.left] : Array Value)[j]?) ∧ w'.cell? ⟨gw, k, none⟩ = some (.int .i64 at_))
        (first | exact ⟨DiskB.cells (L := applied D k) (by repeat (first | (with_reducible exact HD.out) | (with_reducible apply DiskB.drew))) hd, ownsCell' (DiskB.wher (D := ({ D with last := applied D k } : DiskS)) (by repeat (first | (with_reducible exact HD.out) | (with_reducible apply DiskB.drew)))) (by simp [hlt, HX.out])⟩ | exact ⟨DiskB.cells (L := putB (applied D k) (at_ * D.size) (b.take D.size)) (by repeat (first | (with_reducible exact HD.out) | (with_reducible apply DiskB.drew))) hd, ownsCell' (DiskB.wher (D := ({ D with last := putB (applied D k) (at_ * D.size) (b.take D.size) } : DiskS)) (by repeat (first | (with_reducible exact HD.out) | (with_reducible apply DiskB.drew)))) (by simp [hlt, HX.out])⟩)
        (first
          | (go_at_call 75; refine (sector75 ({ D with last := applied D k } : DiskS) kd kl km (some ⟨g, 0, none⟩) (some ⟨gw, 0, none⟩) pc wc at_ _ (DiskB.blk (by repeat (first | (with_reducible exact HD.out) | (with_reducible apply DiskB.drew)))).cell hatm hm.2 hs.2 (by dsimp only; omega)).mono ?_; rintro e v1 ⟨rfl, hb⟩; (have hst : Below wr.heap.size wr v1 := bCall (by repeat (first | (with_reducible exact Below.refl _ _) | (with_reducible apply bAl) | (with_reducible apply bDr) | (with_reducible apply bDrN))) hb); (replace HD := Lib.hid (HD.out.below hst)); (replace BL : Hid (Blk v1 _ _ _) := Blk.below BL.out hst); (replace BS : Hid (Blk v1 _ _ _) := Blk.below BS.out hst); (replace HO := Lib.hid (HO.out.trans (Only.ofBelow hst))); (clear hb hst))
          | (go_at_call 79; refine (doIt79 (applied D k) b kl (at_ * D.size) D.size (D.many * D.size - at_ * D.size) kk D.size _ (by repeat (first | (with_reducible exact BS.out) | ((with_reducible apply Blk.newAt); (first | (with_reducible rfl) | (simp <;> omega))) | (with_reducible apply Blk.alloc) | (with_reducible apply Blk.drew) | (with_reducible apply Blk.drewN) | (with_reducible apply Blk.set) | ((with_reducible apply Blk.setO); (first | (with_reducible assumption) | omega | (simp <;> omega))))) (by repeat (first | (with_reducible exact BL.out) | ((with_reducible apply Blk.newAt); (first | (with_reducible rfl) | (simp <;> omega))) | (with_reducible apply Blk.alloc) | (with_reducible apply Blk.drew) | (with_reducible apply Blk.drewN) | (with_reducible apply Blk.set) | ((with_reducible apply Blk.setO); (first | (with_reducible assumption) | omega | (simp <;> omega))))) (Nat.le_refl _) (by omega) (by rw [hll]; exact hpl) hbs (by rw [hll]; omega)).mono ?_; rintro e v2 ⟨⟨v, rfl⟩, hB, ho⟩; (replace HD : Hid (DiskB v2 lo hi kd kl km (some ⟨g, 0, none⟩) (some ⟨gw, 0, none⟩) pc wc ks ({ D with last := putB (applied D k) (at_ * D.size) (b.take D.size) } : DiskS)) := DiskB.setLast (D := ({ D with last := applied D k } : DiskS)) (by repeat (first | (with_reducible exact HD.out) | (with_reducible apply DiskB.drew))) hB ho); (replace HO := Lib.hid (HO.out.trans (Only.trans (Only.ofBelow (by repeat (first | (with_reducible exact Below.refl _ _) | (with_reducible apply bAl) | (with_reducible apply bDr) | (with_reducible apply bDrN)))) (ho.mono fun q _ hq => by rw [hq]; exact ⟨hbd.2.2.1, hbd.2.2.2.1⟩)))); (clear hB ho)))
      go_wp2
      refine ⟨⟨k + 1, by omega, by go_num, ?_, HO.out⟩, by simp [intOf]; omega⟩
      have hh := HD.out
      rw [List.take_of_length_le (Nat.le_of_eq HBL.out)] at hh
      rw [HS1.out]
      exact hh
    · have hkk : k = D.pend.length := by omega
      subst hkk
      clear hDr
      go_wp2_with fail
      refine (settle76 ({ D with last := applied D D.pend.length } : DiskS) kd kl km pA wA pc wc D.pend.length (mapS D.pend) _ HD.out.blk HD.out.map).mono ?_
      rintro e w1 ⟨⟨v, rfl⟩, hB, hM, ho⟩
      have hbd := HD.out.bd
      replace HO := Lib.hid (HO.out.trans (ho.mono fun q _ hq => by rcases hq with rfl | rfl; exact ⟨hbd.1, hbd.2.1⟩; exact ⟨hbd.2.2.2.2.1, hbd.2.2.2.2.2⟩))
      have HD1 := Lib.hid (HD.out.settled hB hM ho)
      clear hB hM ho HD c0
      go_wp2_with fail
      refine (count78 ({ D with last := applied D D.pend.length, pend := [] } : DiskS) kd kl km none none 0 0 _ HD1.out.blk OK.out.left).mono ?_
      rintro e w2 ⟨⟨v, rfl⟩, hB, ho⟩
      replace HO := Lib.hid (HO.out.trans (ho.mono fun q _ hq => by rw [hq]; exact ⟨hbd.1, hbd.2.1⟩))
      have HD2 := Lib.hid (HD1.out.setHead hB ho (countS_last _) (countS_pend _))
      clear hB ho HD1
      go_wp2
      go_ret
      exact ⟨rfl, ⟨_, _, _, _, _, _, _, HD2.out⟩, HO.out⟩
end Go.Proofs.Ytlegpbookbghbaa
