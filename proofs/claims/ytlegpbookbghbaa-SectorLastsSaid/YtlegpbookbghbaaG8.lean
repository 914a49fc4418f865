/- Disks: Crash: the walk; the disk lies in blocks of its own. -/
import Derived.Test.YtlegpbookbghbaaG7
import Derived.Deep.CutRange
set_option linter.unusedVariables false
set_option linter.unusedSimpArgs false
namespace Go.Proofs.Ytlegpbookbghbaa
open Go.RowKit

/-- The last one that is true, before place n; -1: none is. -/
def finalAt (K : List Bool) : Nat → Int
  | 0 => -1
  | n + 1 => if K[n]? = some true then (n : Int) else finalAt K n
def finalS (K : List Bool) : Int := finalAt K K.length
def mostS (size : Nat) (F torn : Int) (i : Nat) : Nat := if (i : Int) = F ∧ 0 ≤ torn ∧ torn < size then torn.toNat else size
def crashed (D : DiskS) (K : List Bool) (torn : Int) : Nat → List UInt8
  | 0 => D.last
  | k + 1 => if K[k]? = some true then putB (crashed D K torn k) ((D.pend.getD k (0, [])).1 * D.size) ((D.pend.getD k (0, [])).2.take (mostS D.size (finalS K) torn k)) else crashed D K torn k
def keptS (D : DiskS) (keep : List Bool) : List Bool := keep.take D.pend.length
def crashS (D : DiskS) (keep : List Bool) (torn : Int) : DiskS :=
  { D with last := crashed D (keptS D keep) torn (keptS D keep).length, pend := [], down := false, breaks := false, left := 0 }
theorem only3 (w : World) (kd : Nat) (u1 u2 u3 : Value) : Only (fun k => k = kd) w (((w.setCell ⟨kd, 6, none⟩ u1).setCell ⟨kd, 7, none⟩ u2).setCell ⟨kd, 8, none⟩ u3) := Only.set (S := fun k => k = kd) (p := ⟨kd, 8, none⟩) (.inl rfl) (Only.set (S := fun k => k = kd) (p := ⟨kd, 7, none⟩) (.inl rfl) (Only.set (S := fun k => k = kd) (p := ⟨kd, 6, none⟩) (.inl rfl) (Only.refl _ _) _) _) _
theorem mostS_le (size : Nat) (F torn : Int) (i : Nat) : mostS size F torn i ≤ size := by
  unfold mostS
  split <;> omega
theorem crashed_len {D : DiskS} (h : DOk D) (K : List Bool) (torn : Int) (k : Nat) (hk : k ≤ D.pend.length) : (crashed D K torn k).length = D.many * D.size := by
  induction k with
  | zero => exact h.last
  | succ k ih =>
    have ih := ih (by omega)
    unfold crashed
    split
    · have hlt : k < D.pend.length := by omega
      have hg : D.pend.getD k (0, []) = D.pend[k] := by simp [List.getD, hlt]
      rw [hg, putB_len, ih]
      rw [ih, List.length_take, (h.pend _ (List.getElem_mem hlt)).2]
      have := place_le h (List.getElem_mem hlt)
      have := mostS_le D.size (finalS K) torn k
      omega
    · exact ih
set_option maxRecDepth 100000 in set_option maxHeartbeats 4000000 in
theorem crash40 (lo hi kd : Nat) (D : DiskS) (keep : List Bool) (kA : Option Addr) (kc : Nat) (torn : Int) (w : World) (hD : DiskAt w lo hi kd D) (hok : DOk D)
    (hK : ∀ w', Only (In lo hi) w w' → Rd w' kA (keep.map Value.bool)) (hkc : keep.length ≤ kc) (hkl : kc ≤ maxLen) :
    Calls Try.prog 40 #[.pointer (some ⟨kd, 0, none⟩), .slice kA keep.length kc, .int .i64 torn] w fun e w' => e = .returned (.int .i64 0) ∧ DiskAt w' lo hi kd (crashS D keep torn) ∧ Only (In lo hi) w w' := by
  have hu113 := Try.underlying113
  obtain ⟨kl, km, pA, wA, pc, wc, ks, hD⟩ := hD
  have HD := Lib.hid hD
  have OK := Lib.hid hok
  have B0 : Hid (Blk w kd _ 113) := hD.blk
  have c0 := (B0.out).cell; have f0 := (B0.out).froz; have l0 := (B0.out).lt
  have HK := Lib.hid hK
  have hfew := hok.few
  have hmx : kc ≤ 9223372036854775807 := hkl
  clear hD hok hK hkl
  have hKl : (keptS D keep).length = min D.pend.length keep.length := by simp [keptS]
  unfold crashS
  have HKP : Hid (∀ j (h : j < (keptS D keep).length), keep[j]? = some (keptS D keep)[j]) := fun j h => by
    simp only [keptS, List.length_take] at h
    simp only [keptS, List.getElem_take]
    exact List.getElem?_eq_getElem (by omega)
  generalize keptS D keep = K at *
  have hmin : min (keep.length : Int) (D.pend.length : Int) = (K.length : Int) := by omega
  have hkk1 : K.length ≤ keep.length := by omega
  have hkp1 : K.length ≤ D.pend.length := by omega
  clear hKl
  go_enter Try.func40, Try.ntmps40
  go_wp2_with fail
  clear hmin
  go_loopw [8] (fun f wr => wr = w ∧ ((f = .int .i64 (-1) ∧ finalS K = -1) ∨ ∃ j : Nat, j < K.length ∧ f = .int .i64 j ∧ finalS K = finalAt K (j + 1))) (fun f _ => (intOf f + 1).toNat)
  case atStart =>
    refine ⟨rfl, ?_⟩
    by_cases h0 : K.length = 0
    · left
      have hK0 : K = [] := List.eq_nil_of_length_eq_zero h0
      subst hK0
      exact ⟨by simp, rfl⟩
    · right
      refine ⟨K.length - 1, by omega, by congr 1; omega, ?_⟩
      unfold finalS
      congr 1
      omega
  case round =>
    obtain ⟨rfl, hf⟩ := hrel
    rcases hf with ⟨rfl, hF⟩ | ⟨j, hj, rfl, hF⟩
    · have HF := Lib.hid hF
      clear hF
      go_wp2_with fail
      obtain ⟨wo, rfl⟩ : ∃ wo, wo = wr := ⟨_, rfl⟩
      go_loopw [40] (fun i wr => ∃ k : Nat, k ≤ K.length ∧ i = .int .i64 k ∧ DiskB wr lo hi kd kl km pA wA pc wc ks ({ D with last := crashed D K torn k } : DiskS) ∧ Only (In lo hi) wo wr) (fun i _ => K.length - (intOf i).toNat)
      case atStart => exact ⟨0, by omega, rfl, HD.out, Only.refl _ _⟩
      case round =>
        obtain ⟨k, hk, rfl, hDr, hor⟩ := hrel
        clear HD B0 c0 f0 l0
        have HD := Lib.hid hDr
        have HO := Lib.hid hor
        have B0 : Hid (Blk wr kd #[.int .i64 D.many, .int .i64 D.size, .slice (some ⟨kl, 0, none⟩) (D.many * D.size) (D.many * D.size), .slice pA D.pend.length pc, .slice wA D.pend.length wc, .map (some km), .bool D.down, .bool D.breaks, .int .i64 D.left] 113) := hDr.blk
        have c0 := (B0.out).cell; have f0 := (B0.out).froz; have l0 := (B0.out).lt
        by_cases hlt : k < K.length
        · have hlt' : (k : Int) < (K.length : Int) := by omega
          obtain ⟨b2, o2, e2, hcell2⟩ := Rd.at_ (HK.out wr HO.out) (j := k) (u := .bool K[k]) (by rw [List.getElem?_map, HKP.out k hlt]; rfl)
          have ck : wr.cell? ⟨b2, o2 + k, none⟩ = some (.bool K[k]) := hcell2 k _ (by rw [List.getElem?_map, HKP.out k hlt]; rfl)
          cases e2
          clear hcell2 hor
          cases hkk : K[k]
          · rw [hkk] at ck
            have hq : ¬ K[k]? = some true := by rw [List.getElem?_eq_getElem hlt, hkk]; simp
            have hcr : crashed D K torn (k + 1) = crashed D K torn k := if_neg hq
            have HCR := Lib.hid hcr
            clear hq hcr hkk hDr
            go_wp2
            exact ⟨⟨k + 1, by omega, by go_num, by rw [HCR.out]; exact HD.out, HO.out⟩, by simp [intOf]; omega⟩
          · rw [hkk] at ck
            have hq : K[k]? = some true := by rw [List.getElem?_eq_getElem hlt, hkk]
            have hlp : k < D.pend.length := by omega
            have hlp' : (k : Int) < (D.pend.length : Int) := by omega
            have hcr : crashed D K torn (k + 1) = putB (crashed D K torn k) ((D.pend.getD k (0, [])).1 * D.size) ((D.pend.getD k (0, [])).2.take (mostS D.size (finalS K) torn k)) := if_pos hq
            have hgd : D.pend.getD k (0, []) = D.pend[k] := by simp [List.getD, hlp]
            rw [hgd, HF.out] at hcr
            clear hgd hq hkk
            have hks : k < ks.length := by rw [hDr.kslen]; exact hlp
            obtain ⟨g, rfl, cf⟩ := ownsCell hDr.pend (j := k) (u := funOf ks[k]) (by simp [hks])
            obtain ⟨gw, rfl, cw⟩ := ownsCell hDr.wher (j := k) (u := .int .i64 (D.pend[k].1 : Int)) (by simp [hlp])
            have hp := OK.out.pend D.pend[k] (List.getElem_mem _)
            have hm := OK.out.many
            have hs := OK.out.size
            have hpl := place_le OK.out (List.getElem_mem hlp)
            have hstr := (hDr.strs k hks hlp).2.2
            have hbd := hDr.bd
            have hll := crashed_len OK.out K torn k (by omega)
            have hkf : (ks.map funOf)[k]? = some (funOf ks[k]) := by simp [hks]
            dsimp only at hstr
            generalize hxx : D.pend[k] = x at *
            generalize hkx : ks[k] = kk at *
            obtain ⟨at_, b⟩ := x
            dsimp only at hp hpl hstr cw hcr
            have HX := Lib.hid hxx
            have HKK := Lib.hid hkf
            have BL : Hid (Blk wr kl (bcells (crashed D K torn k)).toArray 5) := hDr.last
            have BS := Lib.hid hstr
            have HCR := Lib.hid hcr
            have hatm : at_ < D.many := hp.1
            have hbl : b.length = D.size := hp.2
            have hNm : D.many * D.size ≤ 4096 * 1024 := Nat.mul_le_mul hm.2 hs.2
            unfold funOf at cf
            clear hDr hstr hxx hkx hp hcr hkf
            by_cases t1 : (k : Int) = (-1)
            · exfalso; omega
            · have t1b : ((k : Int) == (-1)) = false := by simp only [beq_eq_false_iff_ne]; exact t1
              have hmo : mostS D.size ((-1)) torn k = D.size := if_neg (by omega)
              rw [hmo] at HCR
              clear hmo t1
              go_wp2_with fail; go_region_held3 (fun w' => (∀ j, w'.cell? ⟨kd, j, none⟩ = (#[.int .i64 D.many, .int .i64 D.size, .slice (some ⟨kl, 0, none⟩) (D.many * D.size) (D.many * D.size), .slice (some ⟨g, 0, none⟩) D.pend.length pc, .slice (some ⟨gw, 0, none⟩) D.pend.length wc, .map (some km), .bool D.down, .bool D.breaks, .int .i64 D.left] : Array Value)[j]?) ∧ w'.cell? ⟨g, k, none⟩ = some (.func (.func 79) #[] #[.pointer (some ⟨kk, 0, none⟩)]) ∧ w'.cell? ⟨gw, k, none⟩ = some (.int .i64 at_)) (first | exact ⟨(DiskB.blk (D := ({ D with last := (crashed D K torn k) } : DiskS)) (by repeat (first | (with_reducible exact HD.out) | (with_reducible apply DiskB.drew)))).cell, ownsCell' (DiskB.pend (D := ({ D with last := (crashed D K torn k) } : DiskS)) (by repeat (first | (with_reducible exact HD.out) | (with_reducible apply DiskB.drew)))) HKK.out, ownsCell' (DiskB.wher (D := ({ D with last := (crashed D K torn k) } : DiskS)) (by repeat (first | (with_reducible exact HD.out) | (with_reducible apply DiskB.drew)))) (by simp [hlp, HX.out])⟩ | exact ⟨(DiskB.blk (D := ({ D with last := putB (crashed D K torn k) (at_ * D.size) (b.take (D.size)) } : DiskS)) (by repeat (first | (with_reducible exact HD.out) | (with_reducible apply DiskB.drew)))).cell, ownsCell' (DiskB.pend (D := ({ D with last := putB (crashed D K torn k) (at_ * D.size) (b.take (D.size)) } : DiskS)) (by repeat (first | (with_reducible exact HD.out) | (with_reducible apply DiskB.drew)))) HKK.out, ownsCell' (DiskB.wher (D := ({ D with last := putB (crashed D K torn k) (at_ * D.size) (b.take (D.size)) } : DiskS)) (by repeat (first | (with_reducible exact HD.out) | (with_reducible apply DiskB.drew)))) (by simp [hlp, HX.out])⟩) (first | (go_at_call 75; refine (sector75 ({ D with last := (crashed D K torn k) } : DiskS) kd kl km (some ⟨g, 0, none⟩) (some ⟨gw, 0, none⟩) pc wc at_ _ (DiskB.blk (by repeat (first | (with_reducible exact HD.out) | (with_reducible apply DiskB.drew)))).cell hatm hm.2 hs.2 (by dsimp only; omega)).mono ?_; rintro e v1 ⟨rfl, hb⟩; (have hst : Below wr.heap.size wr v1 := bCall (by repeat (first | (with_reducible exact Below.refl _ _) | (with_reducible apply bAl) | (with_reducible apply bDr) | (with_reducible apply bDrN))) hb); (replace HD := Lib.hid (HD.out.below hst)); (replace BL : Hid (Blk v1 _ _ _) := Blk.below BL.out hst); (replace BS : Hid (Blk v1 _ _ _) := Blk.below BS.out hst); (replace HO := Lib.hid (HO.out.trans (Only.ofBelow hst))); (clear hb hst)) | (go_at_call 79; refine (doIt79 (crashed D K torn k) b kl (at_ * D.size) D.size (D.many * D.size - at_ * D.size) kk (D.size) _ (by repeat (first | (with_reducible exact BS.out) | ((with_reducible apply Blk.newAt); (first | (with_reducible rfl) | (simp <;> omega))) | (with_reducible apply Blk.alloc) | (with_reducible apply Blk.drew) | (with_reducible apply Blk.drewN) | (with_reducible apply Blk.set) | ((with_reducible apply Blk.setO); (first | (with_reducible assumption) | omega | (simp <;> omega))))) (by repeat (first | (with_reducible exact BL.out) | ((with_reducible apply Blk.newAt); (first | (with_reducible rfl) | (simp <;> omega))) | (with_reducible apply Blk.alloc) | (with_reducible apply Blk.drew) | (with_reducible apply Blk.drewN) | (with_reducible apply Blk.set) | ((with_reducible apply Blk.setO); (first | (with_reducible assumption) | omega | (simp <;> omega))))) (by omega) (by omega) (by rw [hll]; exact hpl) (by omega) (by rw [hll]; omega)).mono ?_; rintro e v2 ⟨⟨v, rfl⟩, hB, ho⟩; (replace HD : Hid (DiskB v2 lo hi kd kl km (some ⟨g, 0, none⟩) (some ⟨gw, 0, none⟩) pc wc ks ({ D with last := putB (crashed D K torn k) (at_ * D.size) (b.take (D.size)) } : DiskS)) := DiskB.setLast (D := ({ D with last := (crashed D K torn k) } : DiskS)) (by repeat (first | (with_reducible exact HD.out) | (with_reducible apply DiskB.drew))) hB ho); (replace HO := Lib.hid (HO.out.trans (Only.trans (Only.ofBelow (by repeat (first | (with_reducible exact Below.refl _ _) | (with_reducible apply bAl) | (with_reducible apply bDr) | (with_reducible apply bDrN)))) (ho.mono fun q _ hq => by rw [hq]; exact ⟨hbd.2.2.1, hbd.2.2.2.1⟩)))); (clear hB ho))); go_wp2; refine ⟨⟨k + 1, by omega, by go_num, ?_, HO.out⟩, by simp [intOf]; omega⟩
              rw [HCR.out]
              exact HD.out
        · have hkk : k = K.length := by omega
          subst hkk
          clear hDr hor
          go_wp2_with fail
          refine (settle76 ({ D with last := crashed D K torn K.length } : DiskS) kd kl km pA wA pc wc D.pend.length (mapS D.pend) _ HD.out.blk HD.out.map).mono ?_
          rintro e w1 ⟨⟨v, rfl⟩, hB, hM, ho⟩
          have hbd := HD.out.bd
          replace HO := Lib.hid (HO.out.trans (ho.mono fun q _ hq => by rcases hq with rfl | rfl; exact ⟨hbd.1, hbd.2.1⟩; exact ⟨hbd.2.2.2.2.1, hbd.2.2.2.2.2⟩))
          have HD1 := Lib.hid (HD.out.settled hB hM ho)
          clear hM ho HD B0 c0 f0 l0
          have B0 := Lib.hid hB
          have c0 := (B0.out).cell; have f0 := (B0.out).froz; have l0 := (B0.out).lt
          clear hB
          go_wp2_with fail
          have hin : In lo hi kd := ⟨hbd.1, hbd.2.1⟩
          refine bodyPost_ret (v := .int .i64 0) (by simp [results, Try.results40, go_sem]) rfl ?_
          have ho2 := only3 w1 kd (.bool false) (.bool false) (.int .i64 0)
          have HDN := Lib.hid (DiskB.setHead (D := ({ D with last := crashed D K torn K.length, pend := [] } : DiskS)) HD1.out (Blk.cast (by repeat (first | (with_reducible exact B0.out) | ((with_reducible apply Blk.newAt); (first | (with_reducible rfl) | (simp <;> omega))) | (with_reducible apply Blk.alloc) | (with_reducible apply Blk.drew) | (with_reducible apply Blk.drewN) | (with_reducible apply Blk.set) | ((with_reducible apply Blk.setO); (first | (with_reducible assumption) | omega | (simp <;> omega))))) (by simp)) ho2 rfl rfl : DiskB _ lo hi kd kl km none none 0 0 [] ({ D with last := crashed D K torn K.length, pend := [], down := false, breaks := false, left := 0 } : DiskS))
          exact ⟨rfl, ⟨_, _, _, _, _, _, _, HDN.out⟩, HO.out.trans (ho2.mono fun q _ hq => by rw [hq]; exact hin)⟩
    · obtain ⟨bb, oo, rfl, hcell⟩ := Rd.at_ (HK.out wr (Only.refl _ _)) (j := j) (u := .bool K[j]) (by rw [List.getElem?_map, HKP.out j hj]; rfl)
      have cj : wr.cell? ⟨bb, oo + j, none⟩ = some (.bool K[j]) := hcell j _ (by rw [List.getElem?_map, HKP.out j hj]; rfl)
      have hj' : (j : Int) < (K.length : Int) := by omega
      clear hcell
      cases hkj : K[j]
      · rw [hkj] at cj
        have hq : ¬ K[j]? = some true := by rw [List.getElem?_eq_getElem hj, hkj]; simp
        have HF : Hid (finalS K = finalAt K j) := hF.trans (if_neg hq)
        clear hF hq hkj
        go_wp2
        cases j with
        | zero => exact ⟨⟨trivial, .inl ⟨rfl, HF.out⟩⟩, by simp [intOf]⟩
        | succ i => exact ⟨⟨trivial, .inr ⟨i, by omega, by congr 1; simp, HF.out⟩⟩, by simp [intOf]; omega⟩
      · rw [hkj] at cj
        have hq : K[j]? = some true := by rw [List.getElem?_eq_getElem hj, hkj]
        have HF : Hid (finalS K = (j : Int)) := hF.trans (if_pos hq)
        clear hF hq hkj
        go_wp2_with fail
        obtain ⟨wo, rfl⟩ : ∃ wo, wo = wr := ⟨_, rfl⟩
        go_loopw [40] (fun i wr => ∃ k : Nat, k ≤ K.length ∧ i = .int .i64 k ∧ DiskB wr lo hi kd kl km pA wA pc wc ks ({ D with last := crashed D K torn k } : DiskS) ∧ Only (In lo hi) wo wr) (fun i _ => K.length - (intOf i).toNat)
        case atStart => exact ⟨0, by omega, rfl, HD.out, Only.refl _ _⟩
        case round =>
          obtain ⟨k, hk, rfl, hDr, hor⟩ := hrel
          clear HD B0 c0 f0 l0
          have HD := Lib.hid hDr
          have HO := Lib.hid hor
          have B0 : Hid (Blk wr kd #[.int .i64 D.many, .int .i64 D.size, .slice (some ⟨kl, 0, none⟩) (D.many * D.size) (D.many * D.size), .slice pA D.pend.length pc, .slice wA D.pend.length wc, .map (some km), .bool D.down, .bool D.breaks, .int .i64 D.left] 113) := hDr.blk
          have c0 := (B0.out).cell; have f0 := (B0.out).froz; have l0 := (B0.out).lt
          by_cases hlt : k < K.length
          · have hlt' : (k : Int) < (K.length : Int) := by omega
            obtain ⟨b2, o2, e2, hcell2⟩ := Rd.at_ (HK.out wr HO.out) (j := k) (u := .bool K[k]) (by rw [List.getElem?_map, HKP.out k hlt]; rfl)
            have ck : wr.cell? ⟨b2, o2 + k, none⟩ = some (.bool K[k]) := hcell2 k _ (by rw [List.getElem?_map, HKP.out k hlt]; rfl)
            cases e2
            clear hcell2 hor
            cases hkk : K[k]
            · rw [hkk] at ck
              have hq : ¬ K[k]? = some true := by rw [List.getElem?_eq_getElem hlt, hkk]; simp
              have hcr : crashed D K torn (k + 1) = crashed D K torn k := if_neg hq
              have HCR := Lib.hid hcr
              clear hq hcr hkk hDr
              go_wp2
              exact ⟨⟨k + 1, by omega, by go_num, by rw [HCR.out]; exact HD.out, HO.out⟩, by simp [intOf]; omega⟩
            · rw [hkk] at ck
              have hq : K[k]? = some true := by rw [List.getElem?_eq_getElem hlt, hkk]
              have hlp : k < D.pend.length := by omega
              have hlp' : (k : Int) < (D.pend.length : Int) := by omega
              have hcr : crashed D K torn (k + 1) = putB (crashed D K torn k) ((D.pend.getD k (0, [])).1 * D.size) ((D.pend.getD k (0, [])).2.take (mostS D.size (finalS K) torn k)) := if_pos hq
              have hgd : D.pend.getD k (0, []) = D.pend[k] := by simp [List.getD, hlp]
              rw [hgd, HF.out] at hcr
              clear hgd hq hkk
              have hks : k < ks.length := by rw [hDr.kslen]; exact hlp
              obtain ⟨g, rfl, cf⟩ := ownsCell hDr.pend (j := k) (u := funOf ks[k]) (by simp [hks])
              obtain ⟨gw, rfl, cw⟩ := ownsCell hDr.wher (j := k) (u := .int .i64 (D.pend[k].1 : Int)) (by simp [hlp])
              have hp := OK.out.pend D.pend[k] (List.getElem_mem _)
              have hm := OK.out.many
              have hs := OK.out.size
              have hpl := place_le OK.out (List.getElem_mem hlp)
              have hstr := (hDr.strs k hks hlp).2.2
              have hbd := hDr.bd
              have hll := crashed_len OK.out K torn k (by omega)
              have hkf : (ks.map funOf)[k]? = some (funOf ks[k]) := by simp [hks]
              dsimp only at hstr
              generalize hxx : D.pend[k] = x at *
              generalize hkx : ks[k] = kk at *
              obtain ⟨at_, b⟩ := x
              dsimp only at hp hpl hstr cw hcr
              have HX := Lib.hid hxx
              have HKK := Lib.hid hkf
              have BL : Hid (Blk wr kl (bcells (crashed D K torn k)).toArray 5) := hDr.last
              have BS := Lib.hid hstr
              have HCR := Lib.hid hcr
              have hatm : at_ < D.many := hp.1
              have hbl : b.length = D.size := hp.2
              have hNm : D.many * D.size ≤ 4096 * 1024 := Nat.mul_le_mul hm.2 hs.2
              unfold funOf at cf
              clear hDr hstr hxx hkx hp hcr hkf
              by_cases t1 : (k : Int) = (j : Int)
              · have t1b : ((k : Int) == (j : Int)) = true := by simp only [beq_iff_eq]; exact t1
                by_cases t2 : torn < 0
                · have hmo : mostS D.size ((j : Int)) torn k = D.size := if_neg (by omega)
                  rw [hmo] at HCR
                  clear hmo t1
                  go_wp2_with fail; go_region_held3 (fun w' => (∀ j, w'.cell? ⟨kd, j, none⟩ = (#[.int .i64 D.many, .int .i64 D.size, .slice (some ⟨kl, 0, none⟩) (D.many * D.size) (D.many * D.size), .slice (some ⟨g, 0, none⟩) D.pend.length pc, .slice (some ⟨gw, 0, none⟩) D.pend.length wc, .map (some km), .bool D.down, .bool D.breaks, .int .i64 D.left] : Array Value)[j]?) ∧ w'.cell? ⟨g, k, none⟩ = some (.func (.func 79) #[] #[.pointer (some ⟨kk, 0, none⟩)]) ∧ w'.cell? ⟨gw, k, none⟩ = some (.int .i64 at_)) (first | exact ⟨(DiskB.blk (D := ({ D with last := (crashed D K torn k) } : DiskS)) (by repeat (first | (with_reducible exact HD.out) | (with_reducible apply DiskB.drew)))).cell, ownsCell' (DiskB.pend (D := ({ D with last := (crashed D K torn k) } : DiskS)) (by repeat (first | (with_reducible exact HD.out) | (with_reducible apply DiskB.drew)))) HKK.out, ownsCell' (DiskB.wher (D := ({ D with last := (crashed D K torn k) } : DiskS)) (by repeat (first | (with_reducible exact HD.out) | (with_reducible apply DiskB.drew)))) (by simp [hlp, HX.out])⟩ | exact ⟨(DiskB.blk (D := ({ D with last := putB (crashed D K torn k) (at_ * D.size) (b.take (D.size)) } : DiskS)) (by repeat (first | (with_reducible exact HD.out) | (with_reducible apply DiskB.drew)))).cell, ownsCell' (DiskB.pend (D := ({ D with last := putB (crashed D K torn k) (at_ * D.size) (b.take (D.size)) } : DiskS)) (by repeat (first | (with_reducible exact HD.out) | (with_reducible apply DiskB.drew)))) HKK.out, ownsCell' (DiskB.wher (D := ({ D with last := putB (crashed D K torn k) (at_ * D.size) (b.take (D.size)) } : DiskS)) (by repeat (first | (with_reducible exact HD.out) | (with_reducible apply DiskB.drew)))) (by simp [hlp, HX.out])⟩) (first | (go_at_call 75; refine (sector75 ({ D with last := (crashed D K torn k) } : DiskS) kd kl km (some ⟨g, 0, none⟩) (some ⟨gw, 0, none⟩) pc wc at_ _ (DiskB.blk (by repeat (first | (with_reducible exact HD.out) | (with_reducible apply DiskB.drew)))).cell hatm hm.2 hs.2 (by dsimp only; omega)).mono ?_; rintro e v1 ⟨rfl, hb⟩; (have hst : Below wr.heap.size wr v1 := bCall (by repeat (first | (with_reducible exact Below.refl _ _) | (with_reducible apply bAl) | (with_reducible apply bDr) | (with_reducible apply bDrN))) hb); (replace HD := Lib.hid (HD.out.below hst)); (replace BL : Hid (Blk v1 _ _ _) := Blk.below BL.out hst); (replace BS : Hid (Blk v1 _ _ _) := Blk.below BS.out hst); (replace HO := Lib.hid (HO.out.trans (Only.ofBelow hst))); (clear hb hst)) | (go_at_call 79; refine (doIt79 (crashed D K torn k) b kl (at_ * D.size) D.size (D.many * D.size - at_ * D.size) kk (D.size) _ (by repeat (first | (with_reducible exact BS.out) | ((with_reducible apply Blk.newAt); (first | (with_reducible rfl) | (simp <;> omega))) | (with_reducible apply Blk.alloc) | (with_reducible apply Blk.drew) | (with_reducible apply Blk.drewN) | (with_reducible apply Blk.set) | ((with_reducible apply Blk.setO); (first | (with_reducible assumption) | omega | (simp <;> omega))))) (by repeat (first | (with_reducible exact BL.out) | ((with_reducible apply Blk.newAt); (first | (with_reducible rfl) | (simp <;> omega))) | (with_reducible apply Blk.alloc) | (with_reducible apply Blk.drew) | (with_reducible apply Blk.drewN) | (with_reducible apply Blk.set) | ((with_reducible apply Blk.setO); (first | (with_reducible assumption) | omega | (simp <;> omega))))) (by omega) (by omega) (by rw [hll]; exact hpl) (by omega) (by rw [hll]; omega)).mono ?_; rintro e v2 ⟨⟨v, rfl⟩, hB, ho⟩; (replace HD : Hid (DiskB v2 lo hi kd kl km (some ⟨g, 0, none⟩) (some ⟨gw, 0, none⟩) pc wc ks ({ D with last := putB (crashed D K torn k) (at_ * D.size) (b.take (D.size)) } : DiskS)) := DiskB.setLast (D := ({ D with last := (crashed D K torn k) } : DiskS)) (by repeat (first | (with_reducible exact HD.out) | (with_reducible apply DiskB.drew))) hB ho); (replace HO := Lib.hid (HO.out.trans (Only.trans (Only.ofBelow (by repeat (first | (with_reducible exact Below.refl _ _) | (with_reducible apply bAl) | (with_reducible apply bDr) | (with_reducible apply bDrN)))) (ho.mono fun q _ hq => by rw [hq]; exact ⟨hbd.2.2.1, hbd.2.2.2.1⟩)))); (clear hB ho))); go_wp2; refine ⟨⟨k + 1, by omega, by go_num, ?_, HO.out⟩, by simp [intOf]; omega⟩
                  rw [HCR.out]
                  exact HD.out
                · by_cases t3 : torn < (D.size : Int)
                  · have hmo : mostS D.size ((j : Int)) torn k = torn.toNat := if_pos (by omega)
                    rw [hmo] at HCR
                    clear hmo t1
                    have hto : torn = ((torn.toNat : Nat) : Int) := by omega
                    have htl : torn.toNat < D.size := by omega
                    obtain ⟨tt, htt⟩ : ∃ tt, tt = torn.toNat := ⟨_, rfl⟩
                    rw [← htt] at hto htl HCR
                    clear htt
                    subst hto
                    have t4 : ((tt : Nat) : Int) < (D.size : Int) := by omega
                    go_wp2_with fail; go_region_held3 (fun w' => (∀ j, w'.cell? ⟨kd, j, none⟩ = (#[.int .i64 D.many, .int .i64 D.size, .slice (some ⟨kl, 0, none⟩) (D.many * D.size) (D.many * D.size), .slice (some ⟨g, 0, none⟩) D.pend.length pc, .slice (some ⟨gw, 0, none⟩) D.pend.length wc, .map (some km), .bool D.down, .bool D.breaks, .int .i64 D.left] : Array Value)[j]?) ∧ w'.cell? ⟨g, k, none⟩ = some (.func (.func 79) #[] #[.pointer (some ⟨kk, 0, none⟩)]) ∧ w'.cell? ⟨gw, k, none⟩ = some (.int .i64 at_)) (first | exact ⟨(DiskB.blk (D := ({ D with last := (crashed D K (tt : Int) k) } : DiskS)) (by repeat (first | (with_reducible exact HD.out) | (with_reducible apply DiskB.drew)))).cell, ownsCell' (DiskB.pend (D := ({ D with last := (crashed D K (tt : Int) k) } : DiskS)) (by repeat (first | (with_reducible exact HD.out) | (with_reducible apply DiskB.drew)))) HKK.out, ownsCell' (DiskB.wher (D := ({ D with last := (crashed D K (tt : Int) k) } : DiskS)) (by repeat (first | (with_reducible exact HD.out) | (with_reducible apply DiskB.drew)))) (by simp [hlp, HX.out])⟩ | exact ⟨(DiskB.blk (D := ({ D with last := putB (crashed D K (tt : Int) k) (at_ * D.size) (b.take (tt)) } : DiskS)) (by repeat (first | (with_reducible exact HD.out) | (with_reducible apply DiskB.drew)))).cell, ownsCell' (DiskB.pend (D := ({ D with last := putB (crashed D K (tt : Int) k) (at_ * D.size) (b.take (tt)) } : DiskS)) (by repeat (first | (with_reducible exact HD.out) | (with_reducible apply DiskB.drew)))) HKK.out, ownsCell' (DiskB.wher (D := ({ D with last := putB (crashed D K (tt : Int) k) (at_ * D.size) (b.take (tt)) } : DiskS)) (by repeat (first | (with_reducible exact HD.out) | (with_reducible apply DiskB.drew)))) (by simp [hlp, HX.out])⟩) (first | (go_at_call 75; refine (sector75 ({ D with last := (crashed D K (tt : Int) k) } : DiskS) kd kl km (some ⟨g, 0, none⟩) (some ⟨gw, 0, none⟩) pc wc at_ _ (DiskB.blk (by repeat (first | (with_reducible exact HD.out) | (with_reducible apply DiskB.drew)))).cell hatm hm.2 hs.2 (by dsimp only; omega)).mono ?_; rintro e v1 ⟨rfl, hb⟩; (have hst : Below wr.heap.size wr v1 := bCall (by repeat (first | (with_reducible exact Below.refl _ _) | (with_reducible apply bAl) | (with_reducible apply bDr) | (with_reducible apply bDrN))) hb); (replace HD := Lib.hid (HD.out.below hst)); (replace BL : Hid (Blk v1 _ _ _) := Blk.below BL.out hst); (replace BS : Hid (Blk v1 _ _ _) := Blk.below BS.out hst); (replace HO := Lib.hid (HO.out.trans (Only.ofBelow hst))); (clear hb hst)) | (go_at_call 79; refine (doIt79 (crashed D K (tt : Int) k) b kl (at_ * D.size) D.size (D.many * D.size - at_ * D.size) kk (tt) _ (by repeat (first | (with_reducible exact BS.out) | ((with_reducible apply Blk.newAt); (first | (with_reducible rfl) | (simp <;> omega))) | (with_reducible apply Blk.alloc) | (with_reducible apply Blk.drew) | (with_reducible apply Blk.drewN) | (with_reducible apply Blk.set) | ((with_reducible apply Blk.setO); (first | (with_reducible assumption) | omega | (simp <;> omega))))) (by repeat (first | (with_reducible exact BL.out) | ((with_reducible apply Blk.newAt); (first | (with_reducible rfl) | (simp <;> omega))) | (with_reducible apply Blk.alloc) | (with_reducible apply Blk.drew) | (with_reducible apply Blk.drewN) | (with_reducible apply Blk.set) | ((with_reducible apply Blk.setO); (first | (with_reducible assumption) | omega | (simp <;> omega))))) (by omega) (by omega) (by rw [hll]; exact hpl) (by omega) (by rw [hll]; omega)).mono ?_; rintro e v2 ⟨⟨v, rfl⟩, hB, ho⟩; (replace HD : Hid (DiskB v2 lo hi kd kl km (some ⟨g, 0, none⟩) (some ⟨gw, 0, none⟩) pc wc ks ({ D with last := putB (crashed D K (tt : Int) k) (at_ * D.size) (b.take (tt)) } : DiskS)) := DiskB.setLast (D := ({ D with last := (crashed D K (tt : Int) k) } : DiskS)) (by repeat (first | (with_reducible exact HD.out) | (with_reducible apply DiskB.drew))) hB ho); (replace HO := Lib.hid (HO.out.trans (Only.trans (Only.ofBelow (by repeat (first | (with_reducible exact Below.refl _ _) | (with_reducible apply bAl) | (with_reducible apply bDr) | (with_reducible apply bDrN)))) (ho.mono fun q _ hq => by rw [hq]; exact ⟨hbd.2.2.1, hbd.2.2.2.1⟩)))); (clear hB ho))); go_wp2; refine ⟨⟨k + 1, by omega, by go_num, ?_, HO.out⟩, by simp [intOf]; omega⟩
                    rw [HCR.out]
                    exact HD.out
                  · have hmo : mostS D.size ((j : Int)) torn k = D.size := if_neg (by omega)
                    rw [hmo] at HCR
                    clear hmo t1
                    go_wp2_with fail; go_region_held3 (fun w' => (∀ j, w'.cell? ⟨kd, j, none⟩ = (#[.int .i64 D.many, .int .i64 D.size, .slice (some ⟨kl, 0, none⟩) (D.many * D.size) (D.many * D.size), .slice (some ⟨g, 0, none⟩) D.pend.length pc, .slice (some ⟨gw, 0, none⟩) D.pend.length wc, .map (some km), .bool D.down, .bool D.breaks, .int .i64 D.left] : Array Value)[j]?) ∧ w'.cell? ⟨g, k, none⟩ = some (.func (.func 79) #[] #[.pointer (some ⟨kk, 0, none⟩)]) ∧ w'.cell? ⟨gw, k, none⟩ = some (.int .i64 at_)) (first | exact ⟨(DiskB.blk (D := ({ D with last := (crashed D K torn k) } : DiskS)) (by repeat (first | (with_reducible exact HD.out) | (with_reducible apply DiskB.drew)))).cell, ownsCell' (DiskB.pend (D := ({ D with last := (crashed D K torn k) } : DiskS)) (by repeat (first | (with_reducible exact HD.out) | (with_reducible apply DiskB.drew)))) HKK.out, ownsCell' (DiskB.wher (D := ({ D with last := (crashed D K torn k) } : DiskS)) (by repeat (first | (with_reducible exact HD.out) | (with_reducible apply DiskB.drew)))) (by simp [hlp, HX.out])⟩ | exact ⟨(DiskB.blk (D := ({ D with last := putB (crashed D K torn k) (at_ * D.size) (b.take (D.size)) } : DiskS)) (by repeat (first | (with_reducible exact HD.out) | (with_reducible apply DiskB.drew)))).cell, ownsCell' (DiskB.pend (D := ({ D with last := putB (crashed D K torn k) (at_ * D.size) (b.take (D.size)) } : DiskS)) (by repeat (first | (with_reducible exact HD.out) | (with_reducible apply DiskB.drew)))) HKK.out, ownsCell' (DiskB.wher (D := ({ D with last := putB (crashed D K torn k) (at_ * D.size) (b.take (D.size)) } : DiskS)) (by repeat (first | (with_reducible exact HD.out) | (with_reducible apply DiskB.drew)))) (by simp [hlp, HX.out])⟩) (first | (go_at_call 75; refine (sector75 ({ D with last := (crashed D K torn k) } : DiskS) kd kl km (some ⟨g, 0, none⟩) (some ⟨gw, 0, none⟩) pc wc at_ _ (DiskB.blk (by repeat (first | (with_reducible exact HD.out) | (with_reducible apply DiskB.drew)))).cell hatm hm.2 hs.2 (by dsimp only; omega)).mono ?_; rintro e v1 ⟨rfl, hb⟩; (have hst : Below wr.heap.size wr v1 := bCall (by repeat (first | (with_reducible exact Below.refl _ _) | (with_reducible apply bAl) | (with_reducible apply bDr) | (with_reducible apply bDrN))) hb); (replace HD := Lib.hid (HD.out.below hst)); (replace BL : Hid (Blk v1 _ _ _) := Blk.below BL.out hst); (replace BS : Hid (Blk v1 _ _ _) := Blk.below BS.out hst); (replace HO := Lib.hid (HO.out.trans (Only.ofBelow hst))); (clear hb hst)) | (go_at_call 79; refine (doIt79 (crashed D K torn k) b kl (at_ * D.size) D.size (D.many * D.size - at_ * D.size) kk (D.size) _ (by repeat (first | (with_reducible exact BS.out) | ((with_reducible apply Blk.newAt); (first | (with_reducible rfl) | (simp <;> omega))) | (with_reducible apply Blk.alloc) | (with_reducible apply Blk.drew) | (with_reducible apply Blk.drewN) | (with_reducible apply Blk.set) | ((with_reducible apply Blk.setO); (first | (with_reducible assumption) | omega | (simp <;> omega))))) (by repeat (first | (with_reducible exact BL.out) | ((with_reducible apply Blk.newAt); (first | (with_reducible rfl) | (simp <;> omega))) | (with_reducible apply Blk.alloc) | (with_reducible apply Blk.drew) | (with_reducible apply Blk.drewN) | (with_reducible apply Blk.set) | ((with_reducible apply Blk.setO); (first | (with_reducible assumption) | omega | (simp <;> omega))))) (by omega) (by omega) (by rw [hll]; exact hpl) (by omega) (by rw [hll]; omega)).mono ?_; rintro e v2 ⟨⟨v, rfl⟩, hB, ho⟩; (replace HD : Hid (DiskB v2 lo hi kd kl km (some ⟨g, 0, none⟩) (some ⟨gw, 0, none⟩) pc wc ks ({ D with last := putB (crashed D K torn k) (at_ * D.size) (b.take (D.size)) } : DiskS)) := DiskB.setLast (D := ({ D with last := (crashed D K torn k) } : DiskS)) (by repeat (first | (with_reducible exact HD.out) | (with_reducible apply DiskB.drew))) hB ho); (replace HO := Lib.hid (HO.out.trans (Only.trans (Only.ofBelow (by repeat (first | (with_reducible exact Below.refl _ _) | (with_reducible apply bAl) | (with_reducible apply bDr) | (with_reducible apply bDrN)))) (ho.mono fun q _ hq => by rw [hq]; exact ⟨hbd.2.2.1, hbd.2.2.2.1⟩)))); (clear hB ho))); go_wp2; refine ⟨⟨k + 1, by omega, by go_num, ?_, HO.out⟩, by simp [intOf]; omega⟩
                    rw [HCR.out]
                    exact HD.out
              · have t1b : ((k : Int) == (j : Int)) = false := by simp only [beq_eq_false_iff_ne]; exact t1
                have hmo : mostS D.size ((j : Int)) torn k = D.size := if_neg (by omega)
                rw [hmo] at HCR
                clear hmo t1
                go_wp2_with fail; go_region_held3 (fun w' => (∀ j, w'.cell? ⟨kd, j, none⟩ = (#[.int .i64 D.many, .int .i64 D.size, .slice (some ⟨kl, 0, none⟩) (D.many * D.size) (D.many * D.size), .slice (some ⟨g, 0, none⟩) D.pend.length pc, .slice (some ⟨gw, 0, none⟩) D.pend.length wc, .map (some km), .bool D.down, .bool D.breaks, .int .i64 D.left] : Array Value)[j]?) ∧ w'.cell? ⟨g, k, none⟩ = some (.func (.func 79) #[] #[.pointer (some ⟨kk, 0, none⟩)]) ∧ w'.cell? ⟨gw, k, none⟩ = some (.int .i64 at_)) (first | exact ⟨(DiskB.blk (D := ({ D with last := (crashed D K torn k) } : DiskS)) (by repeat (first | (with_reducible exact HD.out) | (with_reducible apply DiskB.drew)))).cell, ownsCell' (DiskB.pend (D := ({ D with last := (crashed D K torn k) } : DiskS)) (by repeat (first | (with_reducible exact HD.out) | (with_reducible apply DiskB.drew)))) HKK.out, ownsCell' (DiskB.wher (D := ({ D with last := (crashed D K torn k) } : DiskS)) (by repeat (first | (with_reducible exact HD.out) | (with_reducible apply DiskB.drew)))) (by simp [hlp, HX.out])⟩ | exact ⟨(DiskB.blk (D := ({ D with last := putB (crashed D K torn k) (at_ * D.size) (b.take (D.size)) } : DiskS)) (by repeat (first | (with_reducible exact HD.out) | (with_reducible apply DiskB.drew)))).cell, ownsCell' (DiskB.pend (D := ({ D with last := putB (crashed D K torn k) (at_ * D.size) (b.take (D.size)) } : DiskS)) (by repeat (first | (with_reducible exact HD.out) | (with_reducible apply DiskB.drew)))) HKK.out, ownsCell' (DiskB.wher (D := ({ D with last := putB (crashed D K torn k) (at_ * D.size) (b.take (D.size)) } : DiskS)) (by repeat (first | (with_reducible exact HD.out) | (with_reducible apply DiskB.drew)))) (by simp [hlp, HX.out])⟩) (first | (go_at_call 75; refine (sector75 ({ D with last := (crashed D K torn k) } : DiskS) kd kl km (some ⟨g, 0, none⟩) (some ⟨gw, 0, none⟩) pc wc at_ _ (DiskB.blk (by repeat (first | (with_reducible exact HD.out) | (with_reducible apply DiskB.drew)))).cell hatm hm.2 hs.2 (by dsimp only; omega)).mono ?_; rintro e v1 ⟨rfl, hb⟩; (have hst : Below wr.heap.size wr v1 := bCall (by repeat (first | (with_reducible exact Below.refl _ _) | (with_reducible apply bAl) | (with_reducible apply bDr) | (with_reducible apply bDrN))) hb); (replace HD := Lib.hid (HD.out.below hst)); (replace BL : Hid (Blk v1 _ _ _) := Blk.below BL.out hst); (replace BS : Hid (Blk v1 _ _ _) := Blk.below BS.out hst); (replace HO := Lib.hid (HO.out.trans (Only.ofBelow hst))); (clear hb hst)) | (go_at_call 79; refine (doIt79 (crashed D K torn k) b kl (at_ * D.size) D.size (D.many * D.size - at_ * D.size) kk (D.size) _ (by repeat (first | (with_reducible exact BS.out) | ((with_reducible apply Blk.newAt); (first | (with_reducible rfl) | (simp <;> omega))) | (with_reducible apply Blk.alloc) | (with_reducible apply Blk.drew) | (with_reducible apply Blk.drewN) | (with_reducible apply Blk.set) | ((with_reducible apply Blk.setO); (first | (with_reducible assumption) | omega | (simp <;> omega))))) (by repeat (first | (with_reducible exact BL.out) | ((with_reducible apply Blk.newAt); (first | (with_reducible rfl) | (simp <;> omega))) | (with_reducible apply Blk.alloc) | (with_reducible apply Blk.drew) | (with_reducible apply Blk.drewN) | (with_reducible apply Blk.set) | ((with_reducible apply Blk.setO); (first | (with_reducible assumption) | omega | (simp <;> omega))))) (by omega) (by omega) (by rw [hll]; exact hpl) (by omega) (by rw [hll]; omega)).mono ?_; rintro e v2 ⟨⟨v, rfl⟩, hB, ho⟩; (replace HD : Hid (DiskB v2 lo hi kd kl km (some ⟨g, 0, none⟩) (some ⟨gw, 0, none⟩) pc wc ks ({ D with last := putB (crashed D K torn k) (at_ * D.size) (b.take (D.size)) } : DiskS)) := DiskB.setLast (D := ({ D with last := (crashed D K torn k) } : DiskS)) (by repeat (first | (with_reducible exact HD.out) | (with_reducible apply DiskB.drew))) hB ho); (replace HO := Lib.hid (HO.out.trans (Only.trans (Only.ofBelow (by repeat (first | (with_reducible exact Below.refl _ _) | (with_reducible apply bAl) | (with_reducible apply bDr) | (with_reducible apply bDrN)))) (ho.mono fun q _ hq => by rw [hq]; exact ⟨hbd.2.2.1, hbd.2.2.2.1⟩)))); (clear hB ho))); go_wp2; refine ⟨⟨k + 1, by omega, by go_num, ?_, HO.out⟩, by simp [intOf]; omega⟩
                rw [HCR.out]
                exact HD.out
          · have hkk : k = K.length := by omega
            subst hkk
            clear hDr hor
            go_wp2_with fail
            refine (settle76 ({ D with last := crashed D K torn K.length } : DiskS) kd kl km pA wA pc wc D.pend.length (mapS D.pend) _ HD.out.blk HD.out.map).mono ?_
            rintro e w1 ⟨⟨v, rfl⟩, hB, hM, ho⟩
            have hbd := HD.out.bd
            replace HO := Lib.hid (HO.out.trans (ho.mono fun q _ hq => by rcases hq with rfl | rfl; exact ⟨hbd.1, hbd.2.1⟩; exact ⟨hbd.2.2.2.2.1, hbd.2.2.2.2.2⟩))
            have HD1 := Lib.hid (HD.out.settled hB hM ho)
            clear hM ho HD B0 c0 f0 l0
            have B0 := Lib.hid hB
            have c0 := (B0.out).cell; have f0 := (B0.out).froz; have l0 := (B0.out).lt
            clear hB
            go_wp2_with fail
            have hin : In lo hi kd := ⟨hbd.1, hbd.2.1⟩
            refine bodyPost_ret (v := .int .i64 0) (by simp [results, Try.results40, go_sem]) rfl ?_
            have ho2 := only3 w1 kd (.bool false) (.bool false) (.int .i64 0)
            have HDN := Lib.hid (DiskB.setHead (D := ({ D with last := crashed D K torn K.length, pend := [] } : DiskS)) HD1.out (Blk.cast (by repeat (first | (with_reducible exact B0.out) | ((with_reducible apply Blk.newAt); (first | (with_reducible rfl) | (simp <;> omega))) | (with_reducible apply Blk.alloc) | (with_reducible apply Blk.drew) | (with_reducible apply Blk.drewN) | (with_reducible apply Blk.set) | ((with_reducible apply Blk.setO); (first | (with_reducible assumption) | omega | (simp <;> omega))))) (by simp)) ho2 rfl rfl : DiskB _ lo hi kd kl km none none 0 0 [] ({ D with last := crashed D K torn K.length, pend := [], down := false, breaks := false, left := 0 } : DiskS))
            exact ⟨rfl, ⟨_, _, _, _, _, _, _, HDN.out⟩, HO.out.trans (ho2.mono fun q _ hq => by rw [hq]; exact hin)⟩
end Go.Proofs.Ytlegpbookbghbaa
