/- Disks: Write: the walk; the disk lies in blocks of its own. -/
import Derived.Test.YtlegpbookbghbaaG6
set_option linter.unusedVariables false
set_option linter.unusedSimpArgs false
namespace Go.Proofs.Ytlegpbookbghbaa
open Go.RowKit

theorem hmfG : ∀ (fn : Fn) (first cap : Array Value) (w : World), (Instr.makeFunc fn first cap).run Try.prog w = .ok (.func fn first cap) w := fun _ _ _ _ => rfl
set_option maxRecDepth 100000 in set_option maxHeartbeats 2000000 in
theorem writeRefused47 (lo hi kd : Nat) (D : DiskS) (at_ : Int) (s : ByteArray) (w : World) (hD : DiskAt w lo hi kd D) (hr : refuseS D at_ ≠ 0) :
    Calls Try.prog 47 #[.pointer (some ⟨kd, 0, none⟩), .int .i64 at_, .string s] w fun e w' => e = .returned (.int .i64 (refuseS D at_)) ∧ Below w.heap.size w w' := by
  have hu113 := Try.underlying113
  obtain ⟨kl, km, pA, wA, pc, wc, ks, hD⟩ := hD
  have HB : Hid (Below w.heap.size w w) := Below.refl _ _
  have B0 : Hid (Blk w kd _ 113) := hD.blk
  clear hD
  go_enter Try.func47, Try.ntmps47
  go_wp2_with fail
  refine (refuse77 D kd kl km pA wA pc wc at_ _ (Blk.cell (by repeat (first | (with_reducible exact B0.out) | ((with_reducible apply Blk.newAt); (first | (with_reducible rfl) | (simp <;> omega))) | (with_reducible apply Blk.alloc) | (with_reducible apply Blk.drew) | (with_reducible apply Blk.drewN) | (with_reducible apply Blk.set) | ((with_reducible apply Blk.setO); (first | (with_reducible assumption) | omega | (simp <;> omega))))))).mono ?_
  rintro e w1 ⟨rfl, rfl⟩
  have hb : (refuseS D at_ != 0) = true := by simp [hr]
  generalize hrr : refuseS D at_ = r at *
  go_wp2
  go_ret
  exact ⟨retInt hrr.symm, by repeat (first | (with_reducible exact HB.out) | (with_reducible apply bAl) | (with_reducible apply bDr) | (with_reducible apply bDrN) | ((with_reducible refine bSt ?_ ?_ _); (first | (with_reducible assumption) | omega | (simp <;> omega))))⟩
set_option maxRecDepth 100000 in set_option maxHeartbeats 2000000 in
theorem writeArg47 (lo hi kd : Nat) (D : DiskS) (at_ : Int) (b : List UInt8) (w : World) (hD : DiskAt w lo hi kd D) (hr : refuseS D at_ = 0) (hb : b.length ≠ D.size) :
    Calls Try.prog 47 #[.pointer (some ⟨kd, 0, none⟩), .int .i64 at_, .string (bstr b)] w fun e w' => e = .returned (.int .i64 1) ∧ Below w.heap.size w w' := by
  have hu113 := Try.underlying113
  obtain ⟨kl, km, pA, wA, pc, wc, ks, hD⟩ := hD
  have HB : Hid (Below w.heap.size w w) := Below.refl _ _
  have B0 : Hid (Blk w kd _ 113) := hD.blk
  have c0 := (B0.out).cell; have f0 := (B0.out).froz; have l0 := (B0.out).lt
  clear hD
  go_enter Try.func47, Try.ntmps47
  go_wp2_with fail
  refine (refuse77 D kd kl km pA wA pc wc at_ _ (Blk.cell (by repeat (first | (with_reducible exact B0.out) | ((with_reducible apply Blk.newAt); (first | (with_reducible rfl) | (simp <;> omega))) | (with_reducible apply Blk.alloc) | (with_reducible apply Blk.drew) | (with_reducible apply Blk.drewN) | (with_reducible apply Blk.set) | ((with_reducible apply Blk.setO); (first | (with_reducible assumption) | omega | (simp <;> omega))))))).mono ?_
  rintro e w1 ⟨rfl, rfl⟩
  rw [hr]
  have hsz := bstr_size b
  have hbb : ((b.length : Int) != (D.size : Int)) = true := by simp; omega
  go_wp2_with fail
  go_region
  go_wp2
  go_ret
  exact ⟨rfl, by repeat (first | (with_reducible exact HB.out) | (with_reducible apply bAl) | (with_reducible apply bDr) | (with_reducible apply bDrN) | ((with_reducible refine bSt ?_ ?_ _); (first | (with_reducible assumption) | omega | (simp <;> omega))))⟩
theorem ownsDrewH {w : World} {base : Nat} {e : TypeId} {size n : Nat} {v : Value} {xs : List Value} (h : w.ownsRow base e size v n xs) : w.drew.ownsRow base e size v n xs := ownsBelowH h (belowDrew w)
theorem onlyGrown {w w1 : World} {base : Nat} {e : TypeId} {size n : Nat} {v : Value} {xs : List Value} {lo hi : Nat} (hg : w.grownBy w1 v.ownBlock) (ho : w.ownsRow base e size v n xs) (hlo : lo ≤ base) (hlt : OwnLt v hi) : Only (In lo hi) w w1 :=
  ⟨hg.os, hg.tape, hg.output, hg.size, fun k hk hs => hg.block k hk fun e => hs ⟨Nat.le_trans hlo (ownsLo ho k e.symm), hlt k e.symm⟩⟩
theorem blkGrown {w w1 : World} {base : Nat} {e t : TypeId} {size n : Nat} {v : Value} {xs : List Value} {k : Nat} {cs : Array Value} (hB : Blk w k cs t) (hg : w.grownBy w1 v.ownBlock) (ho : w.ownsRow base e size v n xs) (hne : t ≠ e) : Blk w1 k cs t := by
  refine (hg.block k hB.lt fun hk => ?_).trans hB
  obtain ⟨cur, hc⟩ := ownsType ho k hk.symm
  exact hB.tne hc hne rfl
theorem mapGrown {w w1 : World} {base : Nat} {e : TypeId} {size n m km : Nat} {v : Value} {xs : List Value} {M : DataW Unit} (hM : MapAt w km m M) (hg : w.grownBy w1 v.ownBlock) (ho : w.ownsRow base e size v n xs) : MapAt w1 km m M :=
  World.ownsMap.kept hM hg fun hk => by
    obtain ⟨cur, hc⟩ := ownsType ho km hk.symm
    exact mapBlk_ne hc hM rfl
theorem ownsGrownO {w w1 : World} {base base' : Nat} {e t : TypeId} {size n size' n' : Nat} {v v' : Value} {xs xs' : List Value} (h : w.ownsRow base' t size' v' n' xs') (hg : w.grownBy w1 v.ownBlock) (ho : w.ownsRow base e size v n xs) (hne : t ≠ e) : w1.ownsRow base' t size' v' n' xs' := by
  refine ⟨h.1, ?_⟩
  rcases h.2 with h2 | ⟨g, cap, cur, rfl, hb, hh, hc, hm, hz, ht⟩
  · exact .inl h2
  · exact .inr ⟨g, cap, cur, rfl, hb, blkGrown hh hg ho hne, hc, hm, hz, ht⟩
theorem ownsSetO {w : World} {base k j : Nat} {e t : TypeId} {size n : Nat} {v : Value} {xs : List Value} {cs : Array Value} (h : w.ownsRow base e size v n xs) (hB : Blk w k cs t) (hne : t ≠ e) (u : Value) : (w.setCell ⟨k, j, none⟩ u).ownsRow base e size v n xs := by
  refine ⟨h.1, ?_⟩
  rcases h.2 with h2 | ⟨g, cap, cur, rfl, hb, hh, hc, hm, hz, ht⟩
  · exact .inl h2
  · exact .inr ⟨g, cap, cur, rfl, hb, Blk.setO (Ne.symm (hB.tne hh hne)) hh u, hc, hm, hz, ht⟩
theorem ownsLtSize {w : World} {base : Nat} {e : TypeId} {size n : Nat} {v : Value} {xs : List Value} (h : w.ownsRow base e size v n xs) : OwnLt v w.heap.size := fun g hg => by
  obtain ⟨cur, hc⟩ := ownsType h g hg
  exact hc.lt
/-- What is no part of a disk's head, its rows or its map stays. -/
def Stays (w w1 : World) : Prop := ∀ k cs t, Blk w k cs t → t ≠ 113 → t ≠ 114 → t ≠ 3 → Blk w1 k cs t
theorem DiskB.written {w : World} {lo hi kd kl km : Nat} {pA wA : Option Addr} {pc wc : Nat} {ks : List Nat} {D : DiskS} {w4 : World} {A2 A3 : Option Addr} {c2 c3 : Nat} {D' : DiskS} {at_ : Nat} {b : List UInt8} (h : DiskB w lo hi kd kl km pA wA pc wc ks D) (hB : Blk w4 kd #[.int .i64 D'.many, .int .i64 D'.size, .slice (some ⟨kl, 0, none⟩) (D'.many * D'.size) (D'.many * D'.size), .slice A2 D'.pend.length c2, .slice A3 D'.pend.length c3, .map (some km), .bool D'.down, .bool D'.breaks, .int .i64 D'.left] 113) (hl : D'.last = D.last) (hp : D'.pend = D.pend ++ [(at_, b)]) (KP : Stays w w4)
    (hM : MapAt w4 km (D.pend.length + 1) ((mapS D.pend).put (.int .i64 (at_ : Int)) (.lit (.int .i64 (D.pend.length : Int)))))
    (HP : w4.ownsRow lo 114 1 (.slice A2 (D.pend.length + 1) c2) (D.pend.length + 1) (ks.map funOf ++ [funOf w.heap.size])) (HQ : w4.ownsRow lo 3 1 (.slice A3 (D.pend.length + 1) c3) (D.pend.length + 1) ((D.pend.map fun p => .int .i64 (p.1 : Int)) ++ [.int .i64 (at_ : Int)]))
    (BK : Blk w4 w.heap.size #[.string (bstr b)] 9) (hlo : lo ≤ w.heap.size) (hhi : hi ≤ w.heap.size) : DiskB w4 lo w4.heap.size kd kl km A2 A3 c2 c3 (ks ++ [w.heap.size]) D' := by
  have hlen : D'.pend.length = D.pend.length + 1 := by rw [hp]; simp
  have hlt := BK.lt
  have hbd := h.bd
  exact {
    blk := hB
    last := by rw [hl]; exact KP _ _ _ h.last (by decide) (by decide) (by decide)
    map := by rw [hlen, hp, mapS_snoc]; exact hM
    pend := by rw [hlen, List.map_append]; exact HP
    plt := by rw [hlen]; exact ownsLtSize HP
    wher := by rw [hlen, hp, List.map_append]; exact HQ
    wlt := by rw [hlen]; exact ownsLtSize HQ
    kslen := by rw [hlen, List.length_append, h.kslen]; rfl
    strs := by
      intro i h1 h2
      by_cases hi1 : i < ks.length
      · have hi2 : i < D.pend.length := by rw [← h.kslen]; exact hi1
        obtain ⟨s1, s2, s3⟩ := h.strs i hi1 hi2
        have e1 : (ks ++ [w.heap.size])[i] = ks[i] := List.getElem_append_left hi1
        have e2 : D'.pend[i] = D.pend[i] := by simp only [hp]; exact List.getElem_append_left hi2
        rw [e1, e2]
        exact ⟨s1, by omega, KP _ _ _ s3 (by decide) (by decide) (by decide)⟩
      · have hi3 : i = ks.length := by rw [List.length_append] at h1; simp at h1; omega
        have hi4 : i = D.pend.length := by rw [← h.kslen]; exact hi3
        have e1 : (ks ++ [w.heap.size])[i] = w.heap.size := by subst hi3; simp
        have e2 : D'.pend[i] = (at_, b) := by subst hi4; simp only [hp]; simp
        rw [e1, e2]
        exact ⟨hlo, hlt, BK⟩
    bd := by omega }
theorem i64wf {n : Nat} (h : n ≤ 1000000) : (Lit.int .i64 (n : Int)).wf = true := by
  have h1 : IntKind.i64.min ≤ (n : Int) := by
    show (-9223372036854775808 : Int) ≤ n
    omega
  have h2 : (n : Int) ≤ IntKind.i64.max := by
    show (n : Int) ≤ 9223372036854775807
    omega
  simp only [Lit.wf]
  rw [decide_eq_true h1, decide_eq_true h2]
  rfl
set_option maxRecDepth 100000 in set_option maxHeartbeats 2000000 in
theorem write47 (lo hi kd : Nat) (D : DiskS) (at_ : Nat) (b : List UInt8) (w : World) (hD : DiskAt w lo hi kd D) (hok : DOk D) (hd : D.down = false) (ha : at_ < D.many) (hb : b.length = D.size) (hfew : D.pend.length < 1000) (hlo : lo ≤ w.heap.size) (hhi : hi ≤ w.heap.size) :
    Calls Try.prog 47 #[.pointer (some ⟨kd, 0, none⟩), .int .i64 at_, .string (bstr b)] w fun e w' => e = .returned (.int .i64 0) ∧ DiskAt w' lo w'.heap.size kd (countS { D with pend := D.pend ++ [(at_, b)] }) ∧ Only (In lo hi) w w' := by
  have hu113 := Try.underlying113
  have hmf := hmfG
  obtain ⟨kl, km, pA, wA, pc, wc, ks, hD⟩ := hD
  have HD := Lib.hid hD
  have OK := Lib.hid hok
  have B0 : Hid (Blk w kd _ 113) := hD.blk
  have c0 := (B0.out).cell; have f0 := (B0.out).froz; have l0 := (B0.out).lt
  clear hD hok
  have hr : refuseS D at_ = 0 := by simp [refuseS, hd]; omega
  obtain ⟨w1, hru, hM1, hgm⟩ := World.ownsMap.update (HD.out.map.alloc (.cells #[.string (bstr b)] 9)).drew.drew (Maps.int_keyed Try.underlying3) Try.underlying111 (by simp only [maxLen]; omega) (Maps.keyOf_int_mk Try.underlying3 (i64wf (n := at_) (by have := OK.out.many; omega))) (plainElem_int Try.underlying3 (i64wf (n := D.pend.length) (by omega)))
  have ho1 := Only.ofGrown hgm
  have B1 : Hid (Blk w1 kd #[.int .i64 D.many, .int .i64 D.size, .slice (some ⟨kl, 0, none⟩) (D.many * D.size) (D.many * D.size), .slice pA D.pend.length pc, .slice wA D.pend.length wc, .map (some km), .bool D.down, .bool D.breaks, .int .i64 D.left] 113) := ho1.blk (by repeat (first | (with_reducible exact B0.out) | ((with_reducible apply Blk.newAt); (first | (with_reducible rfl) | (simp <;> omega))) | (with_reducible apply Blk.alloc) | (with_reducible apply Blk.drew) | (with_reducible apply Blk.drewN) | (with_reducible apply Blk.set) | ((with_reducible apply Blk.setO); (first | (with_reducible assumption) | omega | (simp <;> omega))))) (mapBlk_ne B0.out HD.out.map)
  have BK : Hid (Blk w1 w.heap.size #[.string (bstr b)] 9) := ho1.blk (Blk.newAt _ _ _ _ rfl) (by have := HD.out.bd; have := HD.out.map.lt; simp; omega)
  have KP : Hid (Stays w w1) := fun k cs t hB _ _ _ => ho1.blk (hB.alloc _) (mapBlk_ne hB HD.out.map)
  have HP : Hid (w1.ownsRow lo 114 1 (.slice pA D.pend.length pc) D.pend.length (ks.map funOf)) := ownsOnly (ownsDrewH (ownsDrewH (ownsAllocH HD.out.pend _))) ho1 fun g hg => by obtain ⟨cur, hc⟩ := ownsType HD.out.pend g hg; exact mapBlk_ne hc HD.out.map
  have HQ : Hid (w1.ownsRow lo 3 1 (.slice wA D.pend.length wc) D.pend.length (D.pend.map fun p => .int .i64 (p.1 : Int))) := ownsOnly (ownsDrewH (ownsDrewH (ownsAllocH HD.out.wher _))) ho1 fun g hg => by obtain ⟨cur, hc⟩ := ownsType HD.out.wher g hg; exact mapBlk_ne hc HD.out.map
  have hbd := HD.out.bd
  have HO : Hid (Only (In lo hi) w w1) := Only.trans (Only.ofBelow (by repeat (first | (with_reducible exact Below.refl _ _) | (with_reducible apply bAl) | (with_reducible apply bDr) | (with_reducible apply bDrN)))) (ho1.mono fun q _ hq => by rw [hq]; exact ⟨hbd.2.2.2.2.1, hbd.2.2.2.2.2⟩)
  have HM := Lib.hid hM1
  have hsz1 : w.heap.size + 1 ≤ w1.heap.size := by have := hgm.size; simpa using this
  have c1 := (B1.out).cell; have f1 := (B1.out).froz; have l1 := (B1.out).lt
  clear hgm ho1 hM1
  obtain ⟨i0, hi0, hzz⟩ := Option.map_eq_some_iff.1 info114
  simp only [Prod.mk.injEq] at hzz
  obtain ⟨hz0, hsz0, hby0⟩ := hzz
  obtain ⟨i3, hi3, hzz⟩ := Option.map_eq_some_iff.1 info3
  simp only [Prod.mk.injEq] at hzz
  obtain ⟨hz3, hsz3, hby3⟩ := hzz
  go_enter Try.func47, Try.ntmps47
  go_wp2_with fail
  refine (refuse77 D kd kl km pA wA pc wc at_ _ (Blk.cell (by repeat (first | (with_reducible exact B0.out) | ((with_reducible apply Blk.newAt); (first | (with_reducible rfl) | (simp <;> omega))) | (with_reducible apply Blk.alloc) | (with_reducible apply Blk.drew) | (with_reducible apply Blk.drewN) | (with_reducible apply Blk.set) | ((with_reducible apply Blk.setO); (first | (with_reducible assumption) | omega | (simp <;> omega))))))).mono ?_
  rintro e w9 ⟨rfl, rfl⟩
  rw [hr]
  clear hr
  have hsz := bstr_size b
  have hbb : ((b.length : Int) != (D.size : Int)) = false := by simp; omega
  go_wp2_with fail
  go_region
  go_wp2_with fail
  go_region
  go_wp2_with (first | (at_builtin; refine wpList_appendH (v := .slice pA D.pend.length pc) lo 110 114 i0 _ 1 8 Try.underlying110 hi0 hz0 hsz0 hby0 rfl (by decide) D.pend.length 1 (ks.map funOf) [funOf w.heap.size] (by rfl) (.tmp 35) (.tmp 37) (by rfl) (by rfl) (by rfl) (ownsAllocH HP.out _) (by rfl) (by refine Rd.newAt _ _ _ _ ?_; (first | rfl | (simp <;> omega))) (by intro u hu; obtain rfl := List.mem_singleton.1 hu; rfl) (by simp only [maxLen]; omega) (by omega) (by simp; omega) ?_; intro A2 c2 w2 ho2 hg2; (have how := ownsAllocH HP.out (.cells #[funOf w.heap.size] 114)); (replace B1 : Hid (Blk w2 kd #[.int .i64 D.many, .int .i64 D.size, .slice (some ⟨kl, 0, none⟩) (D.many * D.size) (D.many * D.size), .slice pA D.pend.length pc, .slice wA D.pend.length wc, .map (some km), .bool D.down, .bool D.breaks, .int .i64 D.left] 113) := blkGrown (by repeat (first | (with_reducible exact B1.out) | ((with_reducible apply Blk.newAt); (first | (with_reducible rfl) | (simp <;> omega))) | (with_reducible apply Blk.alloc) | (with_reducible apply Blk.drew) | (with_reducible apply Blk.drewN) | (with_reducible apply Blk.set) | ((with_reducible apply Blk.setO); (first | (with_reducible assumption) | omega | (simp <;> omega))))) hg2 how (by decide)); (replace BK : Hid (Blk w2 w.heap.size #[.string (bstr b)] 9) := blkGrown (by repeat (first | (with_reducible exact BK.out) | ((with_reducible apply Blk.newAt); (first | (with_reducible rfl) | (simp <;> omega))) | (with_reducible apply Blk.alloc) | (with_reducible apply Blk.drew) | (with_reducible apply Blk.drewN) | (with_reducible apply Blk.set) | ((with_reducible apply Blk.setO); (first | (with_reducible assumption) | omega | (simp <;> omega))))) hg2 how (by decide)); (replace KP : Hid (Stays w w2) := fun k cs t hB h1 h2 h3 => blkGrown ((KP.out k cs t hB h1 h2 h3).alloc _) hg2 how h2); (replace HM := Lib.hid (mapGrown (HM.out.alloc _) hg2 how)); (replace HQ := Lib.hid (ownsGrownO (ownsAllocH HQ.out _) hg2 how (by decide))); (replace HO := Lib.hid (HO.out.trans (Only.trans (Only.ofBelow (belowAlloc _ _)) (onlyGrown hg2 how (Nat.le_refl _) HD.out.plt)))); (have hs2 := hg2.size); (try simp at hs2); (replace HP := Lib.hid ho2); clear hg2 ho2 how c1 f1 l1; have c1 := (B1.out).cell; have f1 := (B1.out).froz; have l1 := (B1.out).lt) | (at_builtin; (have how := ownsAllocH (ownsSetO (j := 3) HQ.out B1.out (by decide) (.slice A2 (D.pend.length + 1) c2)) (.cells #[.int .i64 (at_ : Int)] 3)); refine wpList_appendH (v := .slice wA D.pend.length wc) lo 38 3 i3 _ 1 8 Try.underlying38 hi3 hz3 hsz3 hby3 rfl (by decide) D.pend.length 1 (D.pend.map fun p => .int .i64 (p.1 : Int)) [.int .i64 (at_ : Int)] (by rfl) (.tmp 45) (.tmp 47) (by rfl) (by rfl) (by rfl) how (by rfl) (by refine Rd.newAt _ _ _ _ ?_; (first | rfl | (simp <;> omega))) (by intro u hu; obtain rfl := List.mem_singleton.1 hu; rfl) (by simp only [maxLen]; omega) (by omega) (by simp; omega) ?_; intro A3 c3 w3 ho3 hg3; (have hkm : km ≠ kd := Ne.symm (mapBlk_ne B1.out HM.out)); (have hin : In lo hi kd := ⟨hbd.1, hbd.2.1⟩); (replace BK : Hid (Blk w3 w.heap.size #[.string (bstr b)] 9) := blkGrown (by repeat (first | (with_reducible exact BK.out) | ((with_reducible apply Blk.newAt); (first | (with_reducible rfl) | (simp <;> omega))) | (with_reducible apply Blk.alloc) | (with_reducible apply Blk.drew) | (with_reducible apply Blk.drewN) | (with_reducible apply Blk.set) | ((with_reducible apply Blk.setO); (first | (with_reducible assumption) | omega | (simp <;> omega))))) hg3 how (by decide)); (replace KP : Hid (Stays w w3) := fun k cs t hB h1 h2 h3 => blkGrown ((Blk.setO ((KP.out k cs t hB h1 h2 h3).tne B1.out h1) (KP.out k cs t hB h1 h2 h3) _).alloc _) hg3 how h3); (replace HM := Lib.hid (mapGrown ((World.ownsMap.setCell HM.out (a := ⟨kd, 3, none⟩) hkm _).alloc _) hg3 how)); (replace HP := Lib.hid (ownsGrownO (ownsAllocH (ownsSetO (j := 3) HP.out B1.out (by decide) _) _) hg3 how (by decide))); (replace HO := Lib.hid (HO.out.trans (Only.trans (Only.alloc (Only.set (p := ⟨kd, 3, none⟩) (.inl hin) (Only.refl _ _) _) _) (onlyGrown hg3 how (Nat.le_refl _) HD.out.wlt)))); (have hs3 := hg3.size); (try simp at hs3); (replace B1 : Hid (Blk w3 kd #[.int .i64 D.many, .int .i64 D.size, .slice (some ⟨kl, 0, none⟩) (D.many * D.size) (D.many * D.size), .slice A2 (D.pend.length + 1) c2, .slice wA D.pend.length wc, .map (some km), .bool D.down, .bool D.breaks, .int .i64 D.left] 113) := Blk.cast (blkGrown (by repeat (first | (with_reducible exact B1.out) | ((with_reducible apply Blk.newAt); (first | (with_reducible rfl) | (simp <;> omega))) | (with_reducible apply Blk.alloc) | (with_reducible apply Blk.drew) | (with_reducible apply Blk.drewN) | (with_reducible apply Blk.set) | ((with_reducible apply Blk.setO); (first | (with_reducible assumption) | omega | (simp <;> omega))))) hg3 how (by decide)) (by simp)); (replace HQ := Lib.hid ho3); clear hg3 ho3 how c1 f1 l1 hin hkm; have c1 := (B1.out).cell; have f1 := (B1.out).froz; have l1 := (B1.out).lt))
  refine (count78 ({ D with pend := D.pend ++ [(at_, b)] } : DiskS) kd kl km A2 A3 c2 c3 _ (Blk.cast (by repeat (first | (with_reducible exact B1.out) | ((with_reducible apply Blk.newAt); (first | (with_reducible rfl) | (simp <;> omega))) | (with_reducible apply Blk.alloc) | (with_reducible apply Blk.drew) | (with_reducible apply Blk.drewN) | (with_reducible apply Blk.set) | ((with_reducible apply Blk.setO); (first | (with_reducible assumption) | omega | (simp <;> omega))))) (by simp)) OK.out.left).mono ?_
  rintro e w4 ⟨⟨v, rfl⟩, hB4, ho4⟩
  have KP4 : Stays w w4 := fun k cs t hB h1 h2 h3 => ho4.blk (Blk.setO ((KP.out k cs t hB h1 h2 h3).tne B1.out h1) (KP.out k cs t hB h1 h2 h3) _) ((KP.out k cs t hB h1 h2 h3).tne B1.out h1)
  have BK4 := ho4.blk (Blk.setO (p := ⟨kd, 4, none⟩) (by simp; omega) BK.out (.slice A3 (D.pend.length + 1) c3)) (by omega)
  have hkm : km ≠ kd := Ne.symm (mapBlk_ne B1.out HM.out)
  have HM4 := mapOnly (World.ownsMap.setCell HM.out (a := ⟨kd, 4, none⟩) hkm (.slice A3 (D.pend.length + 1) c3)) ho4 hkm
  have HP4 := ownsOnly (ownsSetO (j := 4) HP.out B1.out (by decide) (.slice A3 (D.pend.length + 1) c3)) ho4 fun g hg => by obtain ⟨cur, hc⟩ := ownsType HP.out g hg; exact hc.tne B1.out (by decide)
  have HQ4 := ownsOnly (ownsSetO (j := 4) HQ.out B1.out (by decide) (.slice A3 (D.pend.length + 1) c3)) ho4 fun g hg => by obtain ⟨cur, hc⟩ := ownsType HQ.out g hg; exact hc.tne B1.out (by decide)
  have HDN := Lib.hid (HD.out.written (b := b) hB4 (countS_last _) (countS_pend _) KP4 HM4 HP4 HQ4 BK4 hlo hhi)
  have hin : In lo hi kd := ⟨hbd.1, hbd.2.1⟩
  replace HO := Lib.hid (HO.out.trans (Only.trans (Only.set (p := ⟨kd, 4, none⟩) (.inl hin) (Only.refl _ _) (.slice A3 (D.pend.length + 1) c3)) (ho4.mono fun q _ hq => by rw [hq]; exact hin)))
  clear hB4 ho4 KP4 BK4 HM4 HP4 HQ4
  go_wp2
  go_ret
  exact ⟨rfl, ⟨_, _, _, _, _, _, _, HDN.out⟩, HO.out⟩
end Go.Proofs.Ytlegpbookbghbaa
