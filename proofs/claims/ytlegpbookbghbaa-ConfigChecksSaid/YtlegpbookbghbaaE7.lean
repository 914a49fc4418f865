/- ConfigApart: the walk; the partitions' numbers are int64's. -/
import Derived.Test.YtlegpbookbghbaaE2
import Derived.Test.YtlegpbookbghbaaE5
set_option linter.unusedVariables false
set_option linter.unusedSimpArgs false
namespace Go.Proofs.Ytlegpbookbghbaa
open Go.RowKit

theorem Rd.partAt {w : World} {b' o' : Nat} {l : List PartS} (h : Rd w (some ⟨b', o', none⟩) (partCells l)) (k : Nat) (hk : k < l.length) (x : PartS) (hx : l[k] = x) : w.cell? ⟨b', o' + k * 6, none⟩ = some (.int .i64 x.base) ∧ w.cell? ⟨b', o' + k * 6 + 1, none⟩ = some (.int .i64 x.size) ∧ w.cell? ⟨b', o' + k * 6 + 2, none⟩ = some (.int .i64 x.ring) ∧ w.cell? ⟨b', o' + k * 6 + 3, none⟩ = some (.slice x.cA x.cl x.cc) ∧ w.cell? ⟨b', o' + k * 6 + 4, none⟩ = some (.int .i64 x.fault) ∧ w.cell? ⟨b', o' + k * 6 + 5, none⟩ = some (.int .i64 x.again) := by
  obtain ⟨b2, o2, e, h⟩ := h.part k hk
  simp only [Option.some.injEq, Addr.mk.injEq, and_true] at e
  obtain ⟨rfl, rfl⟩ := e
  rw [hx] at h
  exact h
def inP (n : Int) (x : PartS) : Prop := x.base ≤ n ∧ n < x.base + x.size
/-- So many of the first k partitions hold the word; one at most. -/
def NSaid (p : PlanS) (at_ : Int) (k : Nat) (n : Int) : Prop :=
  (n = 0 ∧ ∀ j (hj : j < p.parts.length), j < k → ¬ inP at_ p.parts[j]) ∨ (n = 1 ∧ ∃ j, ∃ hj : j < p.parts.length, j < k ∧ inP at_ p.parts[j])
theorem NSaid.le {p : PlanS} {at_ : Int} {k : Nat} {n : Int} (h : NSaid p at_ k n) : 0 ≤ n ∧ n ≤ 1 := by
  rcases h with ⟨rfl, _⟩ | ⟨rfl, _⟩ <;> decide
theorem NSaid.inn {p : PlanS} (hp : PlanOk p) {at_ : Int} {k : Nat} {n : Int} (h : NSaid p at_ k n) (hk : k < p.parts.length) (hi : inP at_ p.parts[k]) : NSaid p at_ (k + 1) (n + 1) := by
  rcases h with ⟨rfl, h⟩ | ⟨rfl, j, hj, hjk, h⟩
  · exact .inr ⟨rfl, k, hk, by omega, hi⟩
  · exfalso
    have ha := hp.apart hj hk (by omega)
    have s1 := (hp.parts j hj).size
    have s2 := (hp.parts k hk).size
    unfold inP at h hi
    simp only [apartB, Bool.or_eq_true, decide_eq_true_eq] at ha
    omega
theorem NSaid.out {p : PlanS} {at_ : Int} {k : Nat} {n : Int} (h : NSaid p at_ k n) (hk : k < p.parts.length) (hi : ¬ inP at_ p.parts[k]) : NSaid p at_ (k + 1) n := by
  rcases h with ⟨rfl, h⟩ | ⟨rfl, j, hj, hjk, h⟩
  · refine .inl ⟨rfl, fun j hj hjk => ?_⟩
    by_cases e : j = k
    · subst e; exact hi
    · exact h j hj (by omega)
  · exact .inr ⟨rfl, j, hj, by omega, h⟩
set_option maxRecDepth 100000 in set_option maxHeartbeats 4000000 in
theorem configApart8 (p : PlanS) (A B C : Option Addr) (a b c : Nat) (at_ : Int) (w : World) (hA : Rd w A (partCells p.parts)) (hB : Rd w B (winCells p.wins)) (hC : Rd w C (chanCells p.chans)) (ho : ∀ x ∈ p.parts, x.Ok) :
    Calls Try.prog 8 #[.agg #[.int .i64 p.mem, .slice A p.parts.length a, .slice B p.wins.length b, .slice C p.chans.length c], .int .i64 at_] w fun e w' => e = .returned (.bool true) ∧ Below w.heap.size w w' := by
  have hu50 := Try.underlying50
  have hu55 := Try.underlying55
  have HB : Hid (Below w.heap.size w w) := Below.refl _ _
  have HM : Hid (Rd w A (partCells p.parts) ∧ Rd w B (winCells p.wins) ∧ Rd w C (chanCells p.chans)) := ⟨hA, hB, hC⟩
  have HO := Lib.hid ho
  clear hA hB hC ho
  go_enter Try.func8, Try.ntmps8
  go_wp2_with fail
  refine (big27 p A B C a b c _ (HM.out.1.below (by repeat (first | (with_reducible exact HB.out) | (with_reducible apply bAl) | (with_reducible apply bDr) | (with_reducible apply bDrN) | ((with_reducible refine bSt ?_ ?_ _); (first | (with_reducible assumption) | omega | (simp <;> omega))))))).mono ?_
  rintro e w1 ⟨⟨r, rfl, hr⟩, hb⟩
  have B0 : Hid (Blk w1 w.heap.size #[.int .i64 p.mem, .slice A p.parts.length a, .slice B p.wins.length b, .slice C p.chans.length c] 50) := Blk.below (by repeat (first | ((with_reducible apply Blk.newAt); (first | (with_reducible rfl) | (simp <;> omega))) | (with_reducible apply Blk.alloc) | (with_reducible apply Blk.drew) | (with_reducible apply Blk.set) | ((with_reducible refine Blk.setO ?_ ?_ _); (first | (with_reducible assumption) | omega | (simp <;> omega))))) hb
  have c0 := (B0.out).cell; have f0 := (B0.out).froz; have l0 := (B0.out).lt
  (replace HB : Hid (Below w.heap.size w w1) := bCall (by repeat (first | (with_reducible exact HB.out) | (with_reducible apply bAl) | (with_reducible apply bDr) | (with_reducible apply bDrN) | ((with_reducible refine bSt ?_ ?_ _); (first | (with_reducible assumption) | omega | (simp <;> omega))))) hb); clear hb; (have := HB.out.size)
  cases r
  · have HN := Lib.hid (hr rfl)
    clear hr
    go_wp2_with fail
    refine (check29 p A B C a b c _ (HM.out.1.below (by repeat (first | (with_reducible exact HB.out) | (with_reducible apply bAl) | (with_reducible apply bDr) | (with_reducible apply bDrN) | ((with_reducible refine bSt ?_ ?_ _); (first | (with_reducible assumption) | omega | (simp <;> omega)))))) (HM.out.2.1.below (by repeat (first | (with_reducible exact HB.out) | (with_reducible apply bAl) | (with_reducible apply bDr) | (with_reducible apply bDrN) | ((with_reducible refine bSt ?_ ?_ _); (first | (with_reducible assumption) | omega | (simp <;> omega)))))) (HM.out.2.2.below (by repeat (first | (with_reducible exact HB.out) | (with_reducible apply bAl) | (with_reducible apply bDr) | (with_reducible apply bDrN) | ((with_reducible refine bSt ?_ ?_ _); (first | (with_reducible assumption) | omega | (simp <;> omega)))))) HN.out.1 HN.out.2.1 HN.out.2.2 HO.out).mono ?_
    rintro e w2 ⟨rfl, hb⟩
    (replace B0 : Hid (Blk w2 (w.heap.size) _ _) := Blk.below (by repeat (first | (with_reducible exact B0.out) | ((with_reducible apply Blk.newAt); (first | (with_reducible rfl) | (simp <;> omega))) | (with_reducible apply Blk.alloc) | (with_reducible apply Blk.drew) | (with_reducible apply Blk.drewN) | (with_reducible apply Blk.set) | ((with_reducible apply Blk.setO); (first | (with_reducible assumption) | omega | (simp <;> omega))))) hb); (replace c0 := (B0.out).cell); (replace f0 := (B0.out).froz); (replace l0 := (B0.out).lt)
    (replace HB : Hid (Below w.heap.size w w2) := bCall (by repeat (first | (with_reducible exact HB.out) | (with_reducible apply bAl) | (with_reducible apply bDr) | (with_reducible apply bDrN) | ((with_reducible refine bSt ?_ ?_ _); (first | (with_reducible assumption) | omega | (simp <;> omega))))) hb); clear hb; (have := HB.out.size)
    by_cases hck : checkS p = 0
    · have HP := Lib.hid (checkS_ok hck)
      rw [hck]
      clear hck
      have hnp := HP.out.np
      have hmem := HP.out.mem
      go_wp2
      go_loopw [5, 6] (fun n i wr => ∃ (k : Nat) (m : Int), k ≤ p.parts.length ∧ n = .int .i64 m ∧ i = .int .i64 k ∧ NSaid p at_ k m ∧ Blk wr w.heap.size #[.int .i64 p.mem, .slice A p.parts.length a, .slice B p.wins.length b, .slice C p.chans.length c] 50 ∧ Below w.heap.size w wr) (fun _ i _ => p.parts.length - (intOf i).toNat)
      case atStart => exact ⟨0, 0, by omega, rfl, rfl, .inl ⟨rfl, fun j hj h => absurd h (Nat.not_lt_zero _)⟩, B0.out, HB.out⟩
      case round =>
        obtain ⟨k, m, hk, rfl, rfl, hns, hBl, hbel⟩ := hrel
        obtain ⟨wo, rfl⟩ : ∃ wo, wo = wr := ⟨_, rfl⟩
        have HS := Lib.hid hns
        have hm := hns.le
        clear hns B0 c0 f0 l0 HB
        have B0 := Lib.hid hBl
        have HB := Lib.hid hbel
        have c0 := (B0.out).cell; have f0 := (B0.out).froz; have l0 := (B0.out).lt
        clear hBl hbel
        by_cases hlt : k < p.parts.length
        · obtain ⟨b', o', rfl, -⟩ := HM.out.1.part k hlt
          have hlt' : (k : Int) < (p.parts.length : Int) := by omega
          have hx := HP.out.parts k hlt
          have okx := HO.out p.parts[k] (List.getElem_mem _)
          have hin := fun h => NSaid.inn HP.out HS.out hlt h
          have hout := fun h => NSaid.out HS.out hlt h
          have hap := fun j (hj : j < p.parts.length) (hne : k ≠ j) => HP.out.apart hlt hj hne
          have hself := apartB_self hx.size
          have hs : wo.cell? ⟨b', o' + k * 6, none⟩ = some (.int .i64 p.parts[k].base) ∧ wo.cell? ⟨b', o' + k * 6 + 1, none⟩ = some (.int .i64 p.parts[k].size) ∧ wo.cell? ⟨b', o' + k * 6 + 2, none⟩ = some (.int .i64 p.parts[k].ring) ∧ wo.cell? ⟨b', o' + k * 6 + 3, none⟩ = some (.slice p.parts[k].cA p.parts[k].cl p.parts[k].cc) ∧ wo.cell? ⟨b', o' + k * 6 + 4, none⟩ = some (.int .i64 p.parts[k].fault) ∧ wo.cell? ⟨b', o' + k * 6 + 5, none⟩ = some (.int .i64 p.parts[k].again) := (HM.out.1.below HB.out).partAt k hlt _ rfl
          generalize hxx : p.parts[k] = x at *
          have HX := Lib.hid hxx
          have HAP := Lib.hid hap
          have HSF := Lib.hid hself
          have OX := Lib.hid okx
          obtain ⟨s0, s1, s2, s3, s4, s5⟩ := hs
          have hlo := hx.lo
          have hsz := hx.size
          have hhi := hx.hi
          clear hxx hap hself okx hx
          have hcases : ∃ m', NSaid p at_ (k + 1) m' ∧ ((at_ < x.base ∧ m' = m) ∨ (x.base ≤ at_ ∧ x.base + x.size ≤ at_ ∧ m' = m) ∨ (x.base ≤ at_ ∧ at_ < x.base + x.size ∧ m' = m + 1)) := by
            by_cases h1 : x.base ≤ at_
            · by_cases h2 : at_ < x.base + x.size
              · exact ⟨_, hin ⟨h1, h2⟩, .inr (.inr ⟨h1, h2, rfl⟩)⟩
              · exact ⟨_, hout (fun h => h2 h.2), .inr (.inl ⟨h1, by omega, rfl⟩)⟩
            · exact ⟨_, hout (fun h => h1 h.1), .inl ⟨by omega, rfl⟩⟩
          clear hin hout HS
          obtain ⟨m', hns', hc⟩ := hcases
          have HS := Lib.hid hns'
          clear hns'
          rcases hc with ⟨h1, rfl⟩ | ⟨h1, h2, rfl⟩ | ⟨h1, h2, rfl⟩
          all_goals
            go_wp2_with fail
            go_loopw [8] (fun j wr => ∃ n : Nat, n ≤ p.parts.length ∧ j = .int .i64 n ∧ Blk wr w.heap.size #[.int .i64 p.mem, .slice (some ⟨b', o', none⟩) p.parts.length a, .slice B p.wins.length b, .slice C p.chans.length c] 50 ∧ Blk wr wo.heap.size #[.int .i64 x.base, .int .i64 x.size, .int .i64 x.ring, .slice x.cA x.cl x.cc, .int .i64 x.fault, .int .i64 x.again] 55 ∧ Below w.heap.size w wr) (fun j _ => p.parts.length - (intOf j).toNat)
            case atStart => exact ⟨0, by omega, rfl, by repeat (first | (with_reducible exact B0.out) | ((with_reducible apply Blk.newAt); (first | (with_reducible rfl) | (simp <;> omega))) | (with_reducible apply Blk.alloc) | (with_reducible apply Blk.drew) | (with_reducible apply Blk.drewN) | (with_reducible apply Blk.set) | ((with_reducible apply Blk.setO); (first | (with_reducible assumption) | omega | (simp <;> omega)))), Blk.newAt _ _ _ _ rfl, by repeat (first | (with_reducible exact HB.out) | (with_reducible apply bAl) | (with_reducible apply bDr) | (with_reducible apply bDrN) | ((with_reducible refine bSt ?_ ?_ _); (first | (with_reducible assumption) | omega | (simp <;> omega))))⟩
            case round =>
              obtain ⟨j, hj, rfl, hBl, hB1, hbel⟩ := hrel
              clear B0 c0 f0 l0 HB
              have B0 := Lib.hid hBl
              have B1 := Lib.hid hB1
              have HB := Lib.hid hbel
              have c0 := (B0.out).cell; have f0 := (B0.out).froz; have l0 := (B0.out).lt
              have c1 := (B1.out).cell; have f1 := (B1.out).froz; have l1 := (B1.out).lt
              clear hBl hB1 hbel s0 s1 s2 s3 s4 s5
              by_cases hlj : j < p.parts.length
              · have hlj' : (j : Int) < (p.parts.length : Int) := by omega
                have hs : wr.cell? ⟨b', o' + j * 6, none⟩ = some (.int .i64 p.parts[j].base) ∧ wr.cell? ⟨b', o' + j * 6 + 1, none⟩ = some (.int .i64 p.parts[j].size) ∧ wr.cell? ⟨b', o' + j * 6 + 2, none⟩ = some (.int .i64 p.parts[j].ring) ∧ wr.cell? ⟨b', o' + j * 6 + 3, none⟩ = some (.slice p.parts[j].cA p.parts[j].cl p.parts[j].cc) ∧ wr.cell? ⟨b', o' + j * 6 + 4, none⟩ = some (.int .i64 p.parts[j].fault) ∧ wr.cell? ⟨b', o' + j * 6 + 5, none⟩ = some (.int .i64 p.parts[j].again) := (HM.out.1.below HB.out).partAt j hlj _ rfl
                have oky := HO.out p.parts[j] (List.getElem_mem _)
                have hq : (k = j → apartB x p.parts[j] = false) ∧ (k ≠ j → apartB x p.parts[j] = true) :=
                  ⟨fun e => by subst e; rw [HX.out]; exact HSF.out, fun e => HAP.out j hlj e⟩
                generalize hyy : p.parts[j] = y at *
                have HY := Lib.hid hyy
                have OY := Lib.hid oky
                obtain ⟨s0, s1, s2, s3, s4, s5⟩ := hs
                by_cases hkj : k = j
                · have hq1 := hq.1 hkj
                  have Q1 := Lib.hid hq1
                  have Q2 := Lib.hid ((apartB_symm y x).trans hq1)
                  have hbn : ((k : Int) != (j : Int)) = false := by simp; omega
                  clear hq hq1 hyy oky hkj
                  (go_wp2_with fail; go_region_held3 (fun w' => (∀ j, w'.cell? ⟨w.heap.size, j, none⟩ = (#[.int .i64 p.mem, .slice (some ⟨b', o', none⟩) p.parts.length a, .slice B p.wins.length b, .slice C p.chans.length c] : Array Value)[j]?) ∧ (∀ j, w'.cell? ⟨wo.heap.size, j, none⟩ = (#[.int .i64 x.base, .int .i64 x.size, .int .i64 x.ring, .slice x.cA x.cl x.cc, .int .i64 x.fault, .int .i64 x.again] : Array Value)[j]?) ∧ w'.cell? ⟨b', o' + j * 6, none⟩ = some (.int .i64 y.base) ∧ w'.cell? ⟨b', o' + j * 6 + 1, none⟩ = some (.int .i64 y.size) ∧ w'.cell? ⟨b', o' + j * 6 + 2, none⟩ = some (.int .i64 y.ring) ∧ w'.cell? ⟨b', o' + j * 6 + 3, none⟩ = some (.slice y.cA y.cl y.cc) ∧ w'.cell? ⟨b', o' + j * 6 + 4, none⟩ = some (.int .i64 y.fault) ∧ w'.cell? ⟨b', o' + j * 6 + 5, none⟩ = some (.int .i64 y.again)) (exact ⟨Blk.cell (by repeat (first | (with_reducible exact B0.out) | ((with_reducible apply Blk.newAt); (first | (with_reducible rfl) | (simp <;> omega))) | (with_reducible apply Blk.alloc) | (with_reducible apply Blk.drew) | (with_reducible apply Blk.drewN) | (with_reducible apply Blk.set) | ((with_reducible apply Blk.setO); (first | (with_reducible assumption) | omega | (simp <;> omega))))), Blk.cell (by repeat (first | (with_reducible exact B1.out) | ((with_reducible apply Blk.newAt); (first | (with_reducible rfl) | (simp <;> omega))) | (with_reducible apply Blk.alloc) | (with_reducible apply Blk.drew) | (with_reducible apply Blk.drewN) | (with_reducible apply Blk.set) | ((with_reducible apply Blk.setO); (first | (with_reducible assumption) | omega | (simp <;> omega))))), (HM.out.1.below (by repeat (first | (with_reducible exact HB.out) | (with_reducible apply bAl) | (with_reducible apply bDr) | (with_reducible apply bDrN) | ((with_reducible refine bSt ?_ ?_ _); (first | (with_reducible assumption) | omega | (simp <;> omega)))))).partAt j hlj y HY.out⟩) (first | (go_at_call 31; (with_reducible show Calls Try.prog 31 #[.agg #[.int .i64 x.base, _, _, _, _, _], _] _ _); refine (apart31 x y _ OX.out OY.out).mono ?_; rw [Q1.out]; rintro e v1 ⟨rfl, hb⟩; (replace B0 : Hid (Blk v1 (w.heap.size) _ _) := Blk.below (by repeat (first | (with_reducible exact B0.out) | ((with_reducible apply Blk.newAt); (first | (with_reducible rfl) | (simp <;> omega))) | (with_reducible apply Blk.alloc) | (with_reducible apply Blk.drew) | (with_reducible apply Blk.drewN) | (with_reducible apply Blk.set) | ((with_reducible apply Blk.setO); (first | (with_reducible assumption) | omega | (simp <;> omega))))) hb); (replace c0 := (B0.out).cell); (replace f0 := (B0.out).froz); (replace l0 := (B0.out).lt); (replace B1 : Hid (Blk v1 (wo.heap.size) _ _) := Blk.below (by repeat (first | (with_reducible exact B1.out) | ((with_reducible apply Blk.newAt); (first | (with_reducible rfl) | (simp <;> omega))) | (with_reducible apply Blk.alloc) | (with_reducible apply Blk.drew) | (with_reducible apply Blk.drewN) | (with_reducible apply Blk.set) | ((with_reducible apply Blk.setO); (first | (with_reducible assumption) | omega | (simp <;> omega))))) hb); (replace c1 := (B1.out).cell); (replace f1 := (B1.out).froz); (replace l1 := (B1.out).lt); (replace HB : Hid (Below w.heap.size w v1) := bCall (by repeat (first | (with_reducible exact HB.out) | (with_reducible apply bAl) | (with_reducible apply bDr) | (with_reducible apply bDrN) | ((with_reducible refine bSt ?_ ?_ _); (first | (with_reducible assumption) | omega | (simp <;> omega))))) hb); clear hb; (have := HB.out.size)) | (go_at_call 31; (with_reducible show Calls Try.prog 31 #[.agg #[.int .i64 y.base, _, _, _, _, _], _] _ _); refine (apart31 y x _ OY.out OX.out).mono ?_; rw [Q2.out]; rintro e v2 ⟨rfl, hb⟩; (replace B0 : Hid (Blk v2 (w.heap.size) _ _) := Blk.below (by repeat (first | (with_reducible exact B0.out) | ((with_reducible apply Blk.newAt); (first | (with_reducible rfl) | (simp <;> omega))) | (with_reducible apply Blk.alloc) | (with_reducible apply Blk.drew) | (with_reducible apply Blk.drewN) | (with_reducible apply Blk.set) | ((with_reducible apply Blk.setO); (first | (with_reducible assumption) | omega | (simp <;> omega))))) hb); (replace c0 := (B0.out).cell); (replace f0 := (B0.out).froz); (replace l0 := (B0.out).lt); (replace B1 : Hid (Blk v2 (wo.heap.size) _ _) := Blk.below (by repeat (first | (with_reducible exact B1.out) | ((with_reducible apply Blk.newAt); (first | (with_reducible rfl) | (simp <;> omega))) | (with_reducible apply Blk.alloc) | (with_reducible apply Blk.drew) | (with_reducible apply Blk.drewN) | (with_reducible apply Blk.set) | ((with_reducible apply Blk.setO); (first | (with_reducible assumption) | omega | (simp <;> omega))))) hb); (replace c1 := (B1.out).cell); (replace f1 := (B1.out).froz); (replace l1 := (B1.out).lt); (replace HB : Hid (Below w.heap.size w v2) := bCall (by repeat (first | (with_reducible exact HB.out) | (with_reducible apply bAl) | (with_reducible apply bDr) | (with_reducible apply bDrN) | ((with_reducible refine bSt ?_ ?_ _); (first | (with_reducible assumption) | omega | (simp <;> omega))))) hb); clear hb; (have := HB.out.size))); go_wp2; exact ⟨⟨j + 1, by omega, by go_num, B0.out, B1.out, HB.out⟩, by simp [intOf]; omega⟩)
                · have hq1 := hq.2 hkj
                  have Q1 := Lib.hid hq1
                  have Q2 := Lib.hid ((apartB_symm y x).trans hq1)
                  have hkj' : ¬ (k : Int) = (j : Int) := by omega
                  have hbn : ((k : Int) != (j : Int)) = true := by simp; omega
                  clear hq hq1 hyy oky
                  (go_wp2_with fail; go_region_held3 (fun w' => (∀ j, w'.cell? ⟨w.heap.size, j, none⟩ = (#[.int .i64 p.mem, .slice (some ⟨b', o', none⟩) p.parts.length a, .slice B p.wins.length b, .slice C p.chans.length c] : Array Value)[j]?) ∧ (∀ j, w'.cell? ⟨wo.heap.size, j, none⟩ = (#[.int .i64 x.base, .int .i64 x.size, .int .i64 x.ring, .slice x.cA x.cl x.cc, .int .i64 x.fault, .int .i64 x.again] : Array Value)[j]?) ∧ w'.cell? ⟨b', o' + j * 6, none⟩ = some (.int .i64 y.base) ∧ w'.cell? ⟨b', o' + j * 6 + 1, none⟩ = some (.int .i64 y.size) ∧ w'.cell? ⟨b', o' + j * 6 + 2, none⟩ = some (.int .i64 y.ring) ∧ w'.cell? ⟨b', o' + j * 6 + 3, none⟩ = some (.slice y.cA y.cl y.cc) ∧ w'.cell? ⟨b', o' + j * 6 + 4, none⟩ = some (.int .i64 y.fault) ∧ w'.cell? ⟨b', o' + j * 6 + 5, none⟩ = some (.int .i64 y.again)) (exact ⟨Blk.cell (by repeat (first | (with_reducible exact B0.out) | ((with_reducible apply Blk.newAt); (first | (with_reducible rfl) | (simp <;> omega))) | (with_reducible apply Blk.alloc) | (with_reducible apply Blk.drew) | (with_reducible apply Blk.drewN) | (with_reducible apply Blk.set) | ((with_reducible apply Blk.setO); (first | (with_reducible assumption) | omega | (simp <;> omega))))), Blk.cell (by repeat (first | (with_reducible exact B1.out) | ((with_reducible apply Blk.newAt); (first | (with_reducible rfl) | (simp <;> omega))) | (with_reducible apply Blk.alloc) | (with_reducible apply Blk.drew) | (with_reducible apply Blk.drewN) | (with_reducible apply Blk.set) | ((with_reducible apply Blk.setO); (first | (with_reducible assumption) | omega | (simp <;> omega))))), (HM.out.1.below (by repeat (first | (with_reducible exact HB.out) | (with_reducible apply bAl) | (with_reducible apply bDr) | (with_reducible apply bDrN) | ((with_reducible refine bSt ?_ ?_ _); (first | (with_reducible assumption) | omega | (simp <;> omega)))))).partAt j hlj y HY.out⟩) (first | (go_at_call 31; (with_reducible show Calls Try.prog 31 #[.agg #[.int .i64 x.base, _, _, _, _, _], _] _ _); refine (apart31 x y _ OX.out OY.out).mono ?_; rw [Q1.out]; rintro e v1 ⟨rfl, hb⟩; (replace B0 : Hid (Blk v1 (w.heap.size) _ _) := Blk.below (by repeat (first | (with_reducible exact B0.out) | ((with_reducible apply Blk.newAt); (first | (with_reducible rfl) | (simp <;> omega))) | (with_reducible apply Blk.alloc) | (with_reducible apply Blk.drew) | (with_reducible apply Blk.drewN) | (with_reducible apply Blk.set) | ((with_reducible apply Blk.setO); (first | (with_reducible assumption) | omega | (simp <;> omega))))) hb); (replace c0 := (B0.out).cell); (replace f0 := (B0.out).froz); (replace l0 := (B0.out).lt); (replace B1 : Hid (Blk v1 (wo.heap.size) _ _) := Blk.below (by repeat (first | (with_reducible exact B1.out) | ((with_reducible apply Blk.newAt); (first | (with_reducible rfl) | (simp <;> omega))) | (with_reducible apply Blk.alloc) | (with_reducible apply Blk.drew) | (with_reducible apply Blk.drewN) | (with_reducible apply Blk.set) | ((with_reducible apply Blk.setO); (first | (with_reducible assumption) | omega | (simp <;> omega))))) hb); (replace c1 := (B1.out).cell); (replace f1 := (B1.out).froz); (replace l1 := (B1.out).lt); (replace HB : Hid (Below w.heap.size w v1) := bCall (by repeat (first | (with_reducible exact HB.out) | (with_reducible apply bAl) | (with_reducible apply bDr) | (with_reducible apply bDrN) | ((with_reducible refine bSt ?_ ?_ _); (first | (with_reducible assumption) | omega | (simp <;> omega))))) hb); clear hb; (have := HB.out.size)) | (go_at_call 31; (with_reducible show Calls Try.prog 31 #[.agg #[.int .i64 y.base, _, _, _, _, _], _] _ _); refine (apart31 y x _ OY.out OX.out).mono ?_; rw [Q2.out]; rintro e v2 ⟨rfl, hb⟩; (replace B0 : Hid (Blk v2 (w.heap.size) _ _) := Blk.below (by repeat (first | (with_reducible exact B0.out) | ((with_reducible apply Blk.newAt); (first | (with_reducible rfl) | (simp <;> omega))) | (with_reducible apply Blk.alloc) | (with_reducible apply Blk.drew) | (with_reducible apply Blk.drewN) | (with_reducible apply Blk.set) | ((with_reducible apply Blk.setO); (first | (with_reducible assumption) | omega | (simp <;> omega))))) hb); (replace c0 := (B0.out).cell); (replace f0 := (B0.out).froz); (replace l0 := (B0.out).lt); (replace B1 : Hid (Blk v2 (wo.heap.size) _ _) := Blk.below (by repeat (first | (with_reducible exact B1.out) | ((with_reducible apply Blk.newAt); (first | (with_reducible rfl) | (simp <;> omega))) | (with_reducible apply Blk.alloc) | (with_reducible apply Blk.drew) | (with_reducible apply Blk.drewN) | (with_reducible apply Blk.set) | ((with_reducible apply Blk.setO); (first | (with_reducible assumption) | omega | (simp <;> omega))))) hb); (replace c1 := (B1.out).cell); (replace f1 := (B1.out).froz); (replace l1 := (B1.out).lt); (replace HB : Hid (Below w.heap.size w v2) := bCall (by repeat (first | (with_reducible exact HB.out) | (with_reducible apply bAl) | (with_reducible apply bDr) | (with_reducible apply bDrN) | ((with_reducible refine bSt ?_ ?_ _); (first | (with_reducible assumption) | omega | (simp <;> omega))))) hb); clear hb; (have := HB.out.size))); go_wp2; exact ⟨⟨j + 1, by omega, by go_num, B0.out, B1.out, HB.out⟩, by simp [intOf]; omega⟩)
              · have hjj : j = p.parts.length := by omega
                subst hjj
                go_wp2
                exact ⟨⟨k + 1, _, by omega, rfl, by go_num, HS.out, B0.out, HB.out⟩, by simp [intOf]; omega⟩
        · have hkk : k = p.parts.length := by omega
          subst hkk
          clear HS
          go_wp2_with fail
          refine (planned28 _).mono ?_
          rintro e w3 ⟨rfl, hb⟩
          (replace HB : Hid (Below w.heap.size w w3) := bCall (by repeat (first | (with_reducible exact HB.out) | (with_reducible apply bAl) | (with_reducible apply bDr) | (with_reducible apply bDrN) | ((with_reducible refine bSt ?_ ?_ _); (first | (with_reducible assumption) | omega | (simp <;> omega))))) hb); clear hb; (have := HB.out.size)
          go_wp2
          go_ret
          exact ⟨retBool (by simp <;> omega), HB.out⟩
    · go_wp2_with fail
      refine (planned28 _).mono ?_
      rintro e w3 ⟨rfl, hb⟩
      (replace HB : Hid (Below w.heap.size w w3) := bCall (by repeat (first | (with_reducible exact HB.out) | (with_reducible apply bAl) | (with_reducible apply bDr) | (with_reducible apply bDrN) | ((with_reducible refine bSt ?_ ?_ _); (first | (with_reducible assumption) | omega | (simp <;> omega))))) hb); clear hb; (have := HB.out.size)
      go_wp2
      go_ret
      exact ⟨rfl, HB.out⟩
  · go_wp2_with fail
    refine (planned28 _).mono ?_
    rintro e w3 ⟨rfl, hb⟩
    (replace HB : Hid (Below w.heap.size w w3) := bCall (by repeat (first | (with_reducible exact HB.out) | (with_reducible apply bAl) | (with_reducible apply bDr) | (with_reducible apply bDrN) | ((with_reducible refine bSt ?_ ?_ _); (first | (with_reducible assumption) | omega | (simp <;> omega))))) hb); clear hb; (have := HB.out.size)
    go_wp2
    go_ret
    exact ⟨rfl, HB.out⟩
end Go.Proofs.Ytlegpbookbghbaa
