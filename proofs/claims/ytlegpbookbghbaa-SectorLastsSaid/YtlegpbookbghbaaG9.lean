/- Disks: Read: the walk; the disk lies in blocks of its own. -/
import Derived.Test.YtlegpbookbghbaaG7
set_option linter.unusedVariables false
set_option linter.unusedSimpArgs false
namespace Go.Proofs.Ytlegpbookbghbaa
open Go.RowKit

set_option maxRecDepth 100000 in set_option maxHeartbeats 2000000 in
theorem doItG79 (cur : Array Value) (b : List UInt8) (g o n c kb most : Nat) (w : World) (hB : Blk w kb #[.string (bstr b)] 9) (hl : Blk w g cur 5) (hn : most ≤ n) (hc : n ≤ c) (ho : o + n ≤ cur.size) (hb : most ≤ b.length) :
    Calls Try.prog 79 #[.slice (some ⟨g, o, none⟩) n c, .int .i64 most, .pointer (some ⟨kb, 0, none⟩)] w fun e w' => (∃ v, e = .returned v) ∧ Blk w' g (cur.toList.take o ++ (bcells (b.take most) ++ cur.toList.drop (o + most))).toArray 5 ∧ Only (fun k => k = g) w w' := by
  have hu109 := Try.underlying109
  have hcp := fun (W : World) (hW : W.heap[g]? = some (.cells cur 5 (0, 0))) (ty : TypeId) => run_copyB (P := Try.prog) W 109 9 ty 5 g o most c b cur 5 Try.underlying109 size5 hW (by omega) hb
  have h1 := hcp w hl 3
  have h2 := hcp w.drew hl 3
  have cb : w.cell? ⟨kb, 0, none⟩ = some (.string (bstr b)) := hB.cell 0
  have i1 : (most : Int) ≤ (n : Int) := by omega
  have i2 : (most : Int) ≤ (c : Int) := by omega
  have HL := Lib.hid hl
  have HB := Lib.hid hB
  clear hcp hl hB
  go_enter Try.func79, Try.ntmps79
  go_wp2_with fail
  go_region
  refine bodyPost_end (v := .tuple #[]) (by simp [results, Try.results79, go_sem]) rfl ?_
  refine ⟨⟨_, rfl⟩, (Blk.setRow (w := w.drew) HL.out).cast ?_, (Only.ofBelow (belowDrew w)).trans (Only.ofGrown (grownSetRow _ _ _))⟩
  simp
theorem Only.transO {S T : Nat → Prop} {w w1 w2 : World} (h : Only S w w1) (k : Only T w1 w2) (hT : ∀ k, k < w.heap.size → ¬ T k ∨ S k) : Only S w w2 :=
  ⟨k.os.trans h.os, k.tape.trans h.tape, k.output.trans h.output, Nat.le_trans h.size k.size, fun i hi hs => (k.block i (Nat.lt_of_lt_of_le hi h.size) ((hT i hi).resolve_right hs)).trans (h.block i hi hs)⟩
theorem ownsHead2 {w : World} {base : Nat} {e : TypeId} {n c : Nat} {A : Option Addr} {xs : List Value} (h : w.ownsRow base e 1 (.slice A n c) n xs) (hn : 0 < n) : ∃ g cur, A = some ⟨g, 0, none⟩ ∧ base ≤ g ∧ Blk w g cur e ∧ n ≤ c ∧ cur.size = c ∧ cur.toList.take n = xs := by
  rcases h.2 with ⟨_, h0⟩ | ⟨g, cap, cur, hv, hb, hh, hc, _, hz, ht⟩
  · omega
  · simp only [Value.slice.injEq] at hv
    obtain ⟨rfl, -, rfl⟩ := hv
    exact ⟨g, cur, rfl, hb, hh, hc, by omega, by simpa using ht⟩
theorem zero3 (w : World) : (zeroValue 3).run Try.prog w = .ok (.int .i64 0) w := by kernel_rfl
theorem belowNone {w w1 : World} (h : w.grownBy w1 none) : Below w.heap.size w w1 := ⟨h.os, h.tape, h.output, h.size, fun k hk => h.block k hk (by simp)⟩
def sectorOf (D : DiskS) (at_ : Nat) : List UInt8 := (D.last.drop (at_ * D.size)).take D.size
theorem sector_le {D : DiskS} {at_ : Nat} (ha : at_ < D.many) : at_ * D.size + D.size ≤ D.many * D.size := by
  have h2 : (at_ + 1) * D.size ≤ D.many * D.size := Nat.mul_le_mul_right _ ha
  rwa [Nat.add_mul, Nat.one_mul] at h2
theorem sectorOf_len {D : DiskS} (h : DOk D) {at_ : Nat} (ha : at_ < D.many) : (sectorOf D at_).length = D.size := by
  have := sector_le ha
  simp [sectorOf, h.last]
  omega
theorem sectorRd {w : World} {kl : Nat} {D : DiskS} {at_ : Nat} (hB : Blk w kl (bcells D.last).toArray 5) : Rd w (some ⟨kl, at_ * D.size, none⟩) (bcells (sectorOf D at_)) := by
  refine .inr ⟨kl, _, rfl, fun j u hu => ?_⟩
  rw [hB.cell]
  have hj : j < (bcells (sectorOf D at_)).length := (List.getElem?_eq_some_iff.1 hu).1
  have hjs : j < D.size := by rw [bcells_len, sectorOf, List.length_take] at hj; omega
  have e : bcells (sectorOf D at_) = ((bcells D.last).drop (at_ * D.size)).take D.size := by simp [bcells, sectorOf, List.map_take, List.map_drop]
  rw [e, List.getElem?_take, if_pos hjs, List.getElem?_drop] at hu
  simpa using hu
set_option maxRecDepth 100000 in set_option maxHeartbeats 2000000 in
theorem readRefused42 (lo hi kd : Nat) (D : DiskS) (at_ : Int) (w : World) (hD : DiskAt w lo hi kd D) (hr : refuseS D at_ ≠ 0) :
    Calls Try.prog 42 #[.pointer (some ⟨kd, 0, none⟩), .int .i64 at_] w fun e w' => e = .returned (.tuple #[.string (bstr []), .int .i64 (refuseS D at_)]) ∧ w' = w := by
  obtain ⟨kl, km, pA, wA, pc, wc, ks, hD⟩ := hD
  have c0 := hD.blk.cell
  clear hD
  go_enter Try.func42, Try.ntmps42
  go_wp2_with fail
  refine (refuse77 D kd kl km pA wA pc wc at_ _ c0).mono ?_
  rintro e w1 ⟨rfl, rfl⟩
  have hb : (refuseS D at_ != 0) = true := by simp [hr]
  generalize hrr : refuseS D at_ = r at *
  go_wp2
  go_ret2
  exact ⟨by rw [hrr]; rfl, rfl⟩
set_option maxRecDepth 100000 in set_option maxHeartbeats 2000000 in
theorem read42 (lo hi kd : Nat) (D : DiskS) (at_ : Nat) (w : World) (hD : DiskAt w lo hi kd D) (hok : DOk D) (hd : D.down = false) (ha : at_ < D.many) (hp : D.pend = []) :
    Calls Try.prog 42 #[.pointer (some ⟨kd, 0, none⟩), .int .i64 at_] w fun e w' => e = .returned (.tuple #[.string (bstr (sectorOf D at_)), .int .i64 0]) ∧ DiskAt w' lo hi kd (countS D) ∧ Only (In lo hi) w w' := by
  have hu113 := Try.underlying113
  obtain ⟨kl, km, pA, wA, pc, wc, ks, hD⟩ := hD
  have HD := Lib.hid hD
  have OK := Lib.hid hok
  have B0 : Hid (Blk w kd #[.int .i64 D.many, .int .i64 D.size, .slice (some ⟨kl, 0, none⟩) (D.many * D.size) (D.many * D.size), .slice pA D.pend.length pc, .slice wA D.pend.length wc, .map (some km), .bool D.down, .bool D.breaks, .int .i64 D.left] 113) := hD.blk
  have c0 := (B0.out).cell; have f0 := (B0.out).froz; have l0 := (B0.out).lt
  have hr : refuseS D at_ = 0 := by simp [refuseS, hd]; omega
  have hsl := sectorOf_len hok ha
  have hm := hok.many
  have hs := hok.size
  have HO : Hid (Only (In lo hi) w w) := Only.refl _ _
  obtain ⟨i0, hi0, hzz⟩ := Option.map_eq_some_iff.1 info5
  simp only [Prod.mk.injEq] at hzz
  obtain ⟨hz0, hsz0, hby0⟩ := hzz
  clear hD hok
  go_enter Try.func42, Try.ntmps42
  go_wp2_with fail
  refine (refuse77 D kd kl km pA wA pc wc at_ _ c0).mono ?_
  rintro e w1 ⟨rfl, rfl⟩
  rw [hr]
  clear hr
  go_wp2_with fail
  refine (sector75 D kd kl km pA wA pc wc at_ _ c0 ha hm.2 hs.2 (by omega)).mono ?_
  rintro e w2 ⟨rfl, hb⟩
  replace HD := Lib.hid (HD.out.below hb)
  replace HO := Lib.hid (HO.out.trans (Only.ofBelow hb))
  have hsz := hb.size
  clear hb B0 c0 f0 l0
  have B0 : Hid (Blk w2 kd #[.int .i64 D.many, .int .i64 D.size, .slice (some ⟨kl, 0, none⟩) (D.many * D.size) (D.many * D.size), .slice pA D.pend.length pc, .slice wA D.pend.length wc, .map (some km), .bool D.down, .bool D.breaks, .int .i64 D.left] 113) := HD.out.blk
  have c0 := (B0.out).cell; have f0 := (B0.out).froz; have l0 := (B0.out).lt
  go_wp2_with (first | (at_builtin; refine wpList_appendH (v := .slice none 0 0) w1.heap.size 109 5 i0 _ 1 1 Try.underlying109 hi0 hz0 hsz0 hby0 rfl (by decide) 0 D.size [] (bcells (sectorOf D at_)) (by rfl) (.const (.slice none 0 0)) (.tmp 18) (by rfl) (by rfl) (by rfl) (World.ownsRow_nil _ _ _ _) (by rw [bcells_len, hsl, Nat.mul_one]) (sectorRd HD.out.last) (bcells_one _) (by simp only [maxLen]; omega) (by omega) (by omega) ?_; intro A1 c1 w3 ho1 hg1; (have hst := belowNone hg1); (replace HD := Lib.hid (HD.out.below hst)); (replace HO := Lib.hid (HO.out.trans (Only.ofBelow hst))); (rw [Nat.zero_add] at ho1); (obtain ⟨v, ps, hlk, hv⟩ := World.ownsMap.look_ok HD.out.map (Maps.int_keyed Try.underlying3) Try.underlying111 (zero3 w3) (plainElem_int Try.underlying3 (i64wf (n := 0) (by omega))) (Maps.keyOf_int_mk Try.underlying3 (i64wf (n := at_) (by omega)))); (obtain ⟨vv, rfl, hvv, hwv⟩ := plainElem_int_inv Try.underlying3 hv); (have HR := Lib.hid ho1); clear ho1 hg1 hst hv B0 c0 f0 l0; (have B0 : Hid (Blk w3 kd #[.int .i64 D.many, .int .i64 D.size, .slice (some ⟨kl, 0, none⟩) (D.many * D.size) (D.many * D.size), .slice pA D.pend.length pc, .slice wA D.pend.length wc, .map (some km), .bool D.down, .bool D.breaks, .int .i64 D.left] 113) := HD.out.blk); have c0 := (B0.out).cell; have f0 := (B0.out).froz; have l0 := (B0.out).lt))
  refine (count78 D kd kl km pA wA pc wc _ B0.out OK.out.left).mono ?_
  rintro e w4 ⟨⟨v, rfl⟩, hB4, ho4⟩
  have hbd := HD.out.bd
  have HR4 := ownsOnly HR.out ho4 fun g hg => by obtain ⟨cur, hc⟩ := ownsType HR.out g hg; exact hc.tne B0.out (by decide)
  obtain ⟨gR, rfl, -, hcR⟩ := ownsCells HR4 (by omega)
  have hconv := convB w4 gR 0 D.size c1 (sectorOf D at_) hsl.symm (by rw [List.nil_append] at hcR; exact hcR)
  have HDN := Lib.hid (HD.out.setHead hB4 ho4 (countS_last _) (countS_pend _))
  replace HO := Lib.hid (HO.out.trans (ho4.mono fun q _ hq => by rw [hq]; exact (⟨hbd.1, hbd.2.1⟩ : In lo hi kd)))
  clear hB4 ho4 HR4 hcR HR
  go_wp2
  go_ret2
  exact ⟨rfl, ⟨_, _, _, _, _, _, _, HDN.out⟩, HO.out⟩
set_option maxRecDepth 100000 in set_option maxHeartbeats 2000000 in
theorem readOne42 (lo hi kd : Nat) (D : DiskS) (at_ : Nat) (b : List UInt8) (w : World) (hD : DiskAt w lo hi kd D) (hok : DOk D) (hd : D.down = false) (ha : at_ < D.many) (hp : D.pend = [(at_, b)]) (hhi : hi ≤ w.heap.size) :
    Calls Try.prog 42 #[.pointer (some ⟨kd, 0, none⟩), .int .i64 at_] w fun e w' => e = .returned (.tuple #[.string (bstr b), .int .i64 0]) ∧ DiskAt w' lo hi kd (countS D) ∧ Only (In lo hi) w w' := by
  have hu113 := Try.underlying113
  obtain ⟨kl, km, pA, wA, pc, wc, ks, hD⟩ := hD
  have HD := Lib.hid hD
  have OK := Lib.hid hok
  have hpl : D.pend.length = 1 := by rw [hp]; rfl
  have hks : 0 < ks.length := by rw [hD.kslen, hpl]; decide
  have hpp : 0 < D.pend.length := by rw [hpl]; decide
  have hstr0 := hD.strs 0 hks hpp
  have hp0 : D.pend[0] = (at_, b) := by simp only [hp]; rfl
  rw [hp0] at hstr0
  have hbl : b.length = D.size := (hok.pend (at_, b) (by rw [hp]; exact List.mem_singleton.2 rfl)).2
  obtain ⟨g, rfl, -⟩ := ownsCell hD.pend (j := 0) (u := funOf ks[0]) (by simp [hks])
  have hkf : (ks.map funOf)[0]? = some (funOf ks[0]) := by simp [hks]
  generalize ks[0] = kk at *
  have HKK := Lib.hid hkf
  have HS := Lib.hid hstr0.2.2
  have HP1 := Lib.hid hp
  have hmS : mapS D.pend = .map [(.int .i64 (at_ : Int), .lit (.int .i64 0))] := by rw [hp]; rfl
  have hhas : Maps.has (mapS D.pend) (.int .i64 (at_ : Int)) = true := by rw [hmS]; simp [Maps.has, Lit.sameKey]
  have HHAS := Lib.hid hhas
  have hatK : (mapS D.pend).atKey (.int .i64 (at_ : Int)) (.lit (.int .i64 (0 : Nat))) = .lit (.int .i64 0) := by rw [hmS]; simp [DataW.atKey, Lit.sameKey]
  have HATK := Lib.hid hatK
  clear hatK hhas hmS
  have B0 : Hid (Blk w kd #[.int .i64 D.many, .int .i64 D.size, .slice (some ⟨kl, 0, none⟩) (D.many * D.size) (D.many * D.size), .slice (some ⟨g, 0, none⟩) D.pend.length pc, .slice wA D.pend.length wc, .map (some km), .bool D.down, .bool D.breaks, .int .i64 D.left] 113) := hD.blk
  have c0 := (B0.out).cell; have f0 := (B0.out).froz; have l0 := (B0.out).lt
  have hr : refuseS D (at_ : Int) = 0 := by simp [refuseS, hd]; omega
  have hsl := sectorOf_len hok ha
  have hm := hok.many
  have hs := hok.size
  have HO : Hid (Only (In lo hi) w w) := Only.refl _ _
  obtain ⟨i0, hi0, hzz⟩ := Option.map_eq_some_iff.1 info5
  simp only [Prod.mk.injEq] at hzz
  obtain ⟨hz0, hsz0, hby0⟩ := hzz
  clear hD hok hp hp0 hkf hstr0
  go_enter Try.func42, Try.ntmps42
  go_wp2_with fail
  refine (refuse77 D kd kl km (some ⟨g, 0, none⟩) wA pc wc (at_ : Int) _ c0).mono ?_
  rintro e w1 ⟨rfl, rfl⟩
  rw [hr]
  clear hr
  go_wp2_with fail
  refine (sector75 D kd kl km (some ⟨g, 0, none⟩) wA pc wc at_ _ c0 ha hm.2 hs.2 (by omega)).mono ?_
  rintro e w2 ⟨rfl, hb⟩
  replace HD := Lib.hid (HD.out.below hb)
  replace HO := Lib.hid (HO.out.trans (Only.ofBelow hb))
  replace HS := Lib.hid (HS.out.below hb)
  have hsz := hb.size
  clear hb B0 c0 f0 l0
  have B0 : Hid (Blk w2 kd #[.int .i64 D.many, .int .i64 D.size, .slice (some ⟨kl, 0, none⟩) (D.many * D.size) (D.many * D.size), .slice (some ⟨g, 0, none⟩) D.pend.length pc, .slice wA D.pend.length wc, .map (some km), .bool D.down, .bool D.breaks, .int .i64 D.left] 113) := HD.out.blk
  have c0 := (B0.out).cell; have f0 := (B0.out).froz; have l0 := (B0.out).lt
  go_wp2_with (first | (at_builtin; refine wpList_appendH (v := .slice none 0 0) w1.heap.size 109 5 i0 _ 1 1 Try.underlying109 hi0 hz0 hsz0 hby0 rfl (by decide) 0 D.size [] (bcells (sectorOf D at_)) (by rfl) (.const (.slice none 0 0)) (.tmp 18) (by rfl) (by rfl) (by rfl) (World.ownsRow_nil _ _ _ _) (by rw [bcells_len, hsl, Nat.mul_one]) (sectorRd HD.out.last) (bcells_one _) (by simp only [maxLen]; omega) (by omega) (by omega) ?_; intro A1 c1 w3 ho1 hg1; (have hst := belowNone hg1); (replace HD := Lib.hid (HD.out.below hst)); (replace HS := Lib.hid (HS.out.below hst)); (replace HO := Lib.hid (HO.out.trans (Only.ofBelow hst))); (rw [Nat.zero_add] at ho1); (obtain ⟨v, ps, hlk, hv⟩ := World.ownsMap.look_ok HD.out.map (Maps.int_keyed Try.underlying3) Try.underlying111 (zero3 w3) (plainElem_int Try.underlying3 (i64wf (n := 0) (by omega))) (Maps.keyOf_int_mk Try.underlying3 (i64wf (n := at_) (by omega)))); (obtain ⟨vv, rfl, hvv, hwv⟩ := plainElem_int_inv Try.underlying3 hv); (obtain rfl : vv = 0 := by have h1 := congrArg Prod.fst hvv; have h2 := HATK.out.symm.trans h1; injection h2 with h3; injection h3 with h4 h5; exact h5.symm); (have hhas := HHAS.out); (have HR := Lib.hid ho1); clear ho1 hg1 hst hv B0 c0 f0 l0; (have B0 : Hid (Blk w3 kd #[.int .i64 D.many, .int .i64 D.size, .slice (some ⟨kl, 0, none⟩) (D.many * D.size) (D.many * D.size), .slice (some ⟨g, 0, none⟩) D.pend.length pc, .slice wA D.pend.length wc, .map (some km), .bool D.down, .bool D.breaks, .int .i64 D.left] 113) := HD.out.blk); have c0 := (B0.out).cell; have f0 := (B0.out).froz; have l0 := (B0.out).lt))
  obtain ⟨gR, curR, rfl, hgR, hBR, hcn, hcz, htR⟩ := ownsHead2 HR.out (by omega)
  have BR := Lib.hid hBR
  clear hBR HR
  go_region_held3 (fun w' => (∀ j, w'.cell? ⟨kd, j, none⟩ = (#[.int .i64 D.many, .int .i64 D.size, .slice (some ⟨kl, 0, none⟩) (D.many * D.size) (D.many * D.size), .slice (some ⟨g, 0, none⟩) D.pend.length pc, .slice wA D.pend.length wc, .map (some km), .bool D.down, .bool D.breaks, .int .i64 D.left] : Array Value)[j]?) ∧ w'.cell? ⟨g, 0, none⟩ = some (.func (.func 79) #[] #[.pointer (some ⟨kk, 0, none⟩)]))
    (exact ⟨(DiskB.blk (by repeat (first | (with_reducible exact HD.out) | (with_reducible apply DiskB.drew)))).cell, ownsCell' (DiskB.pend (by repeat (first | (with_reducible exact HD.out) | (with_reducible apply DiskB.drew)))) HKK.out⟩)
    (first
      | (go_at_call 79; refine (doItG79 curR b gR 0 D.size c1 kk D.size _ (by repeat (first | (with_reducible exact HS.out) | ((with_reducible apply Blk.newAt); (first | (with_reducible rfl) | (simp <;> omega))) | (with_reducible apply Blk.alloc) | (with_reducible apply Blk.drew) | (with_reducible apply Blk.drewN) | (with_reducible apply Blk.set) | ((with_reducible apply Blk.setO); (first | (with_reducible assumption) | omega | (simp <;> omega))))) (by repeat (first | (with_reducible exact BR.out) | ((with_reducible apply Blk.newAt); (first | (with_reducible rfl) | (simp <;> omega))) | (with_reducible apply Blk.alloc) | (with_reducible apply Blk.drew) | (with_reducible apply Blk.drewN) | (with_reducible apply Blk.set) | ((with_reducible apply Blk.setO); (first | (with_reducible assumption) | omega | (simp <;> omega))))) (Nat.le_refl _) hcn (by omega) (by omega)).mono ?_; rintro e v1 ⟨⟨v, rfl⟩, hB, ho⟩; (have hbd := HD.out.bd); (replace HD : Hid (DiskB v1 lo hi kd kl km (some ⟨g, 0, none⟩) wA pc wc ks D) := DiskB.only (by repeat (first | (with_reducible exact HD.out) | (with_reducible apply DiskB.drew))) ho (fun k _ hk => by omega)); (replace HO := Lib.hid ((HO.out.drew).transO ho (fun k hk => .inl (by omega)))); (replace BR := Lib.hid hB); clear hB ho))
  go_wp2_with fail
  refine (count78 D kd kl km (some ⟨g, 0, none⟩) wA pc wc _ HD.out.blk OK.out.left).mono ?_
  rintro e w4 ⟨⟨v, rfl⟩, hB4, ho4⟩
  have hbd := HD.out.bd
  have hBR4 := ho4.blk BR.out (BR.out.tne HD.out.blk (by decide))
  have hconv := convB w4 gR 0 D.size c1 b hbl.symm (fun j u hu => by
    have hj : j < (bcells b).length := (List.getElem?_eq_some_iff.1 hu).1
    rw [Nat.zero_add, hBR4.cell j, List.take_zero, List.nil_append, List.take_of_length_le (by omega)]
    simp only [List.getElem?_toArray]
    rw [List.getElem?_append_left hj]
    exact hu)
  have HDN := Lib.hid (HD.out.setHead hB4 ho4 (countS_last _) (countS_pend _))
  replace HO := Lib.hid (HO.out.trans (ho4.mono fun q _ hq => by rw [hq]; exact (⟨hbd.1, hbd.2.1⟩ : In lo hi kd)))
  clear hB4 ho4 hBR4
  go_wp2
  go_ret2
  exact ⟨rfl, ⟨_, _, _, _, _, _, _, HDN.out⟩, HO.out⟩
end Go.Proofs.Ytlegpbookbghbaa
