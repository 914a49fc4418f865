/- Check: what is wrong with a plan: the walk; the plan is not too big. -/
import Derived.Test.YtlegpbookbghbaaE0
import Derived.Deep.RegionHeld3
import Derived.Deep.CutRange
set_option linter.unusedVariables false
set_option linter.unusedSimpArgs false
namespace Go.Proofs.Ytlegpbookbghbaa
open Go.RowKit

theorem Held.ex {W : World} {lo hi : Nat} {l : List (Nat × Array Value × TypeId)} (h : Held W lo hi l) : ∃ lo', lo' = lo ∧ Held W lo' hi l := ⟨lo, rfl, h⟩
/-- The five lists in memory: the array of them in block tb, 'at' in the block behind w's first one. -/
def ListsAt (p : PlanS) (A B C : Option Addr) (a b c : Nat) (w wc : World) (tb : Nat) : Prop :=
  ∃ kb1 rb1 kb2 ka2 rb2 kb3 ka3 rb3 kb4 rb4 kb5 ka5 kl5 rb5, w.heap.size + 1 < tb ∧
    Blk wc tb #[.int .i64 1, .slice (some ⟨rb1, 0, none⟩) 1 1, .int .i64 p.parts.length, .slice (some ⟨rb2, 0, none⟩) 4 4, .int .i64 p.wins.length, .slice (some ⟨rb3, 0, none⟩) 2 2, .int .i64 1, .slice (some ⟨rb4, 0, none⟩) 1 1, .int .i64 p.chans.length, .slice (some ⟨rb5, 0, none⟩) 3 3] 100 ∧
    Blk wc (w.heap.size + 1) #[.int .i64 0] 3 ∧ Held wc (w.heap.size + 2) wc.heap.size [(kb1, #[.int .i64 p.mem, .slice A p.parts.length a, .slice B p.wins.length b, .slice C p.chans.length c], 50), (rb1, #[.int .i64 2, .func (.func 85) #[] #[.pointer (some ⟨kb1, 0, none⟩)]], 102)] ∧ Held wc (w.heap.size + 2) wc.heap.size [(kb2, #[.int .i64 p.mem, .slice A p.parts.length a, .slice B p.wins.length b, .slice C p.chans.length c], 50), (ka2, #[.pointer (some ⟨w.heap.size + 1, 0, none⟩)], 99), (rb2, #[.int .i64 6, .func (.func 87) #[] #[.pointer (some ⟨kb2, 0, none⟩), .pointer (some ⟨ka2, 0, none⟩)], .int .i64 14, .func (.func 88) #[] #[.pointer (some ⟨ka2, 0, none⟩), .pointer (some ⟨kb2, 0, none⟩)], .int .i64 2, .func (.func 89) #[] #[.pointer (some ⟨kb2, 0, none⟩), .pointer (some ⟨ka2, 0, none⟩)], .int .i64 12, .func (.func 90) #[] #[.pointer (some ⟨kb2, 0, none⟩), .pointer (some ⟨ka2, 0, none⟩)]], 102)] ∧ Held wc (w.heap.size + 2) wc.heap.size [(kb3, #[.int .i64 p.mem, .slice A p.parts.length a, .slice B p.wins.length b, .slice C p.chans.length c], 50), (ka3, #[.pointer (some ⟨w.heap.size + 1, 0, none⟩)], 99), (rb3, #[.int .i64 1, .func (.func 91) #[] #[.pointer (some ⟨kb3, 0, none⟩), .pointer (some ⟨ka3, 0, none⟩)], .int .i64 2, .func (.func 92) #[] #[.pointer (some ⟨kb3, 0, none⟩), .pointer (some ⟨ka3, 0, none⟩)]], 102)] ∧ Held wc (w.heap.size + 2) wc.heap.size [(kb4, #[.int .i64 p.mem, .slice A p.parts.length a, .slice B p.wins.length b, .slice C p.chans.length c], 50), (rb4, #[.int .i64 7, .func (.func 93) #[] #[.pointer (some ⟨kb4, 0, none⟩)]], 102)] ∧ Held wc (w.heap.size + 2) wc.heap.size [(kb5, #[.int .i64 p.mem, .slice A p.parts.length a, .slice B p.wins.length b, .slice C p.chans.length c], 50), (ka5, #[.pointer (some ⟨w.heap.size + 1, 0, none⟩)], 99), (kl5, #[.int .i64 ((p.parts.length : Int) - 1)], 3), (rb5, #[.int .i64 12, .func (.func 94) #[] #[.pointer (some ⟨kb5, 0, none⟩), .pointer (some ⟨ka5, 0, none⟩)], .int .i64 1, .func (.func 95) #[] #[.pointer (some ⟨kb5, 0, none⟩), .pointer (some ⟨ka5, 0, none⟩), .pointer (some ⟨kl5, 0, none⟩)], .int .i64 2, .func (.func 96) #[] #[.pointer (some ⟨kb5, 0, none⟩), .pointer (some ⟨ka5, 0, none⟩)]], 102)] ∧ Below w.heap.size w wc
/-- The same, while the loops go on: 'at' holds v. -/
def LM (p : PlanS) (A B C : Option Addr) (a b c : Nat) (w wc wr : World) (tb kb1 rb1 kb2 ka2 rb2 kb3 ka3 rb3 kb4 rb4 kb5 ka5 kl5 rb5 : Nat) (v : Int) : Prop :=
    Blk wr tb #[.int .i64 1, .slice (some ⟨rb1, 0, none⟩) 1 1, .int .i64 p.parts.length, .slice (some ⟨rb2, 0, none⟩) 4 4, .int .i64 p.wins.length, .slice (some ⟨rb3, 0, none⟩) 2 2, .int .i64 1, .slice (some ⟨rb4, 0, none⟩) 1 1, .int .i64 p.chans.length, .slice (some ⟨rb5, 0, none⟩) 3 3] 100 ∧
    Blk wr (w.heap.size + 1) #[.int .i64 v] 3 ∧ Held wr (w.heap.size + 2) wc.heap.size [(kb1, #[.int .i64 p.mem, .slice A p.parts.length a, .slice B p.wins.length b, .slice C p.chans.length c], 50), (rb1, #[.int .i64 2, .func (.func 85) #[] #[.pointer (some ⟨kb1, 0, none⟩)]], 102)] ∧ Held wr (w.heap.size + 2) wc.heap.size [(kb2, #[.int .i64 p.mem, .slice A p.parts.length a, .slice B p.wins.length b, .slice C p.chans.length c], 50), (ka2, #[.pointer (some ⟨w.heap.size + 1, 0, none⟩)], 99), (rb2, #[.int .i64 6, .func (.func 87) #[] #[.pointer (some ⟨kb2, 0, none⟩), .pointer (some ⟨ka2, 0, none⟩)], .int .i64 14, .func (.func 88) #[] #[.pointer (some ⟨ka2, 0, none⟩), .pointer (some ⟨kb2, 0, none⟩)], .int .i64 2, .func (.func 89) #[] #[.pointer (some ⟨kb2, 0, none⟩), .pointer (some ⟨ka2, 0, none⟩)], .int .i64 12, .func (.func 90) #[] #[.pointer (some ⟨kb2, 0, none⟩), .pointer (some ⟨ka2, 0, none⟩)]], 102)] ∧ Held wr (w.heap.size + 2) wc.heap.size [(kb3, #[.int .i64 p.mem, .slice A p.parts.length a, .slice B p.wins.length b, .slice C p.chans.length c], 50), (ka3, #[.pointer (some ⟨w.heap.size + 1, 0, none⟩)], 99), (rb3, #[.int .i64 1, .func (.func 91) #[] #[.pointer (some ⟨kb3, 0, none⟩), .pointer (some ⟨ka3, 0, none⟩)], .int .i64 2, .func (.func 92) #[] #[.pointer (some ⟨kb3, 0, none⟩), .pointer (some ⟨ka3, 0, none⟩)]], 102)] ∧ Held wr (w.heap.size + 2) wc.heap.size [(kb4, #[.int .i64 p.mem, .slice A p.parts.length a, .slice B p.wins.length b, .slice C p.chans.length c], 50), (rb4, #[.int .i64 7, .func (.func 93) #[] #[.pointer (some ⟨kb4, 0, none⟩)]], 102)] ∧ Held wr (w.heap.size + 2) wc.heap.size [(kb5, #[.int .i64 p.mem, .slice A p.parts.length a, .slice B p.wins.length b, .slice C p.chans.length c], 50), (ka5, #[.pointer (some ⟨w.heap.size + 1, 0, none⟩)], 99), (kl5, #[.int .i64 ((p.parts.length : Int) - 1)], 3), (rb5, #[.int .i64 12, .func (.func 94) #[] #[.pointer (some ⟨kb5, 0, none⟩), .pointer (some ⟨ka5, 0, none⟩)], .int .i64 1, .func (.func 95) #[] #[.pointer (some ⟨kb5, 0, none⟩), .pointer (some ⟨ka5, 0, none⟩), .pointer (some ⟨kl5, 0, none⟩)], .int .i64 2, .func (.func 96) #[] #[.pointer (some ⟨kb5, 0, none⟩), .pointer (some ⟨ka5, 0, none⟩)]], 102)] ∧ Below w.heap.size w wr ∧ wc.heap.size ≤ wr.heap.size
theorem LM.below {p : PlanS} {A B C : Option Addr} {a b c : Nat} {w wc wr w1 : World} {tb kb1 rb1 kb2 ka2 rb2 kb3 ka3 rb3 kb4 rb4 kb5 ka5 kl5 rb5 : Nat} {v : Int} (h : LM p A B C a b c w wc wr tb kb1 rb1 kb2 ka2 rb2 kb3 ka3 rb3 kb4 rb4 kb5 ka5 kl5 rb5 v) (hb : Below wr.heap.size wr w1) : LM p A B C a b c w wc w1 tb kb1 rb1 kb2 ka2 rb2 kb3 ka3 rb3 kb4 rb4 kb5 ka5 kl5 rb5 v := by
  obtain ⟨h1, h2, h3, h4, h5, h6, h7, h8, h9⟩ := h
  exact ⟨h1.below hb, h2.below hb, h3.below hb, h4.below hb, h5.below hb, h6.below hb, h7.below hb, bCall h8 hb, Nat.le_trans h9 hb.size⟩
theorem LM.set {p : PlanS} {A B C : Option Addr} {a b c : Nat} {w wc wr : World} {tb kb1 rb1 kb2 ka2 rb2 kb3 ka3 rb3 kb4 rb4 kb5 ka5 kl5 rb5 : Nat} {v : Int} (h : LM p A B C a b c w wc wr tb kb1 rb1 kb2 ka2 rb2 kb3 ka3 rb3 kb4 rb4 kb5 ka5 kl5 rb5 v) (ht : w.heap.size + 1 < tb) (u : Int) : LM p A B C a b c w wc (wr.setCell ⟨w.heap.size + 1, 0, none⟩ (.int .i64 u)) tb kb1 rb1 kb2 ka2 rb2 kb3 ka3 rb3 kb4 rb4 kb5 ka5 kl5 rb5 u := by
  obtain ⟨h1, h2, h3, h4, h5, h6, h7, h8, h9⟩ := h
  exact ⟨Blk.setO (by simp; omega) h1 _, Blk.cast (h2.set 0 _) rfl, h3.setO (by simp) _, h4.setO (by simp) _, h5.setO (by simp) _, h6.setO (by simp) _, h7.setO (by simp) _, bSt (by simp) h8 _, by simpa using h9⟩
theorem numbersB_mem {p : PlanS} (h : listErr p 0 = 0) : 1 ≤ p.mem ∧ p.mem ≤ 4096 := by
  simp only [listErr] at h
  cases hq : numbersB p
  · simp [numbersB, withinB] at hq
    omega
  · simp [hq] at h
theorem checkS_at (p : PlanS) (k : Nat) (l : List Int) (hk : k < 5) (h : ∀ i, i < k → listErr p i = 0) (hl : listErr p k = firstErr l) (j : Nat) (hj : j < l.length) (ht : firstErr (l.take j) = 0) (v : Int) (hv : l[j] = v) (h0 : v ≠ 0) : checkS p = v := by
  have he : firstErr l = v := (firstErr_take hj ht (by rw [hv]; exact h0)).trans hv
  rw [checkS_some p k hk h (by rw [hl, he]; exact h0), hl, he]
theorem listErr_take (p : PlanS) (k : Nat) (l : List Int) (hl : listErr p k = firstErr l) (n : Nat) (hn : n = l.length) : listErr p k = firstErr (l.take n) := by
  rw [hl, hn, List.take_length]
set_option maxRecDepth 100000 in set_option maxHeartbeats 4000000 in
theorem check29 (p : PlanS) (A B C : Option Addr) (a b c : Nat) (w : World) (hA : Rd w A (partCells p.parts)) (hB : Rd w B (winCells p.wins)) (hC : Rd w C (chanCells p.chans)) (hn : p.parts.length ≤ 20) (hwn : p.wins.length ≤ 100) (hcn : p.chans.length ≤ 100) (ho : ∀ x ∈ p.parts, x.Ok) :
    Calls Try.prog 29 #[.agg #[.int .i64 p.mem, .slice A p.parts.length a, .slice B p.wins.length b, .slice C p.chans.length c]] w fun e w' => e = .returned (.int .i64 (checkS p)) ∧ Below w.heap.size w w' := by
  have hu50 := Try.underlying50
  have hu96 := Try.underlying96
  have hu102 := Try.underlying102
  have HB : Hid (Below w.heap.size w w) := Below.refl _ _
  have HM : Hid (Rd w A (partCells p.parts) ∧ Rd w B (winCells p.wins) ∧ Rd w C (chanCells p.chans)) := ⟨hA, hB, hC⟩
  clear hA hB hC
  go_enter Try.func29, Try.ntmps29
  go_wp2_with fail
  go_cut [4] from 7 to 17 (fun t4 wc => ∃ tb, t4 = .pointer (some ⟨tb, 0, none⟩) ∧ ListsAt p A B C a b c w wc tb)
  case first =>
--PUT{
    go_region_held3 (fun w' => ∀ j, w'.cell? ⟨w.heap.size, j, none⟩ = (#[.int .i64 p.mem, .slice A p.parts.length a, .slice B p.wins.length b, .slice C p.chans.length c] : Array Value)[j]?)
      (first | exact Blk.cell (by repeat (first | (with_reducible exact B0.out) | ((with_reducible apply Blk.newAt); (first | (with_reducible rfl) | (simp <;> omega))) | (with_reducible apply Blk.alloc) | (with_reducible apply Blk.drew) | (with_reducible apply Blk.drewN) | (with_reducible apply Blk.set) | ((with_reducible apply Blk.setO); (first | (with_reducible assumption) | omega | (simp <;> omega))))) | exact Blk.cell ((Blk.newAt _ _ _ _ rfl).alloc _))
      (first
        | (go_at_call 62; refine (numbers62h p A B C a b c _).mono ?_; rintro e v1 ⟨kb1, rb1, rfl, hH, hb⟩; (replace B0 : Hid (Blk v1 (w.heap.size) _ _) := Blk.below (by repeat (first | (with_reducible exact B0.out) | ((with_reducible apply Blk.newAt); (first | (with_reducible rfl) | (simp <;> omega))) | (with_reducible apply Blk.alloc) | (with_reducible apply Blk.drew) | (with_reducible apply Blk.drewN) | (with_reducible apply Blk.set) | ((with_reducible apply Blk.setO); (first | (with_reducible assumption) | omega | (simp <;> omega))))) hb); (replace c0 := (B0.out).cell); (replace f0 := (B0.out).froz); (replace l0 := (B0.out).lt); (replace B3 : Hid (Blk v1 (w.heap.size + 1) _ _) := Blk.below (by repeat (first | (with_reducible exact B3.out) | ((with_reducible apply Blk.newAt); (first | (with_reducible rfl) | (simp <;> omega))) | (with_reducible apply Blk.alloc) | (with_reducible apply Blk.drew) | (with_reducible apply Blk.drewN) | (with_reducible apply Blk.set) | ((with_reducible apply Blk.setO); (first | (with_reducible assumption) | omega | (simp <;> omega))))) hb); (replace c3 := (B3.out).cell); (replace f3 := (B3.out).froz); (replace l3 := (B3.out).lt); (first | ((replace B4 : Hid (Blk v1 (w.heap.size + 1 + 1) _ _) := Blk.below (by repeat (first | (with_reducible exact B4.out) | ((with_reducible apply Blk.newAt); (first | (with_reducible rfl) | (simp <;> omega))) | (with_reducible apply Blk.alloc) | (with_reducible apply Blk.drew) | (with_reducible apply Blk.drewN) | (with_reducible apply Blk.set) | ((with_reducible apply Blk.setO); (first | (with_reducible assumption) | omega | (simp <;> omega))))) hb); (replace c4 := (B4.out).cell); (replace f4 := (B4.out).froz); (replace l4 := (B4.out).lt)) | skip); (obtain ⟨lo1, hlo1, hH⟩ := hH.ex); (try simp at hlo1); (have H1 := Lib.hid hH); clear hH; (have g1 := Nat.ne_of_lt l0); (have g1' := Nat.ne_of_gt l0); (have i1 := Nat.ne_of_lt l3); (have i1' := Nat.ne_of_gt l3); (have s1 := Below.size hb); (try simp at s1); (replace HB : Hid (Below w.heap.size w v1) := bCall (by repeat (first | (with_reducible exact HB.out) | (with_reducible apply bAl) | (with_reducible apply bDr) | (with_reducible apply bDrN) | ((with_reducible refine bSt ?_ ?_ _); (first | (with_reducible assumption) | omega | (simp <;> omega))))) hb); clear hb; (have := HB.out.size))
        | (go_at_call 63; refine (parts63h p A B C a b c _ _).mono ?_; rintro e v2 ⟨kb2, ka2, rb2, rfl, hH, hb⟩; (replace B0 : Hid (Blk v2 (w.heap.size) _ _) := Blk.below (by repeat (first | (with_reducible exact B0.out) | ((with_reducible apply Blk.newAt); (first | (with_reducible rfl) | (simp <;> omega))) | (with_reducible apply Blk.alloc) | (with_reducible apply Blk.drew) | (with_reducible apply Blk.drewN) | (with_reducible apply Blk.set) | ((with_reducible apply Blk.setO); (first | (with_reducible assumption) | omega | (simp <;> omega))))) hb); (replace c0 := (B0.out).cell); (replace f0 := (B0.out).froz); (replace l0 := (B0.out).lt); (replace B3 : Hid (Blk v2 (w.heap.size + 1) _ _) := Blk.below (by repeat (first | (with_reducible exact B3.out) | ((with_reducible apply Blk.newAt); (first | (with_reducible rfl) | (simp <;> omega))) | (with_reducible apply Blk.alloc) | (with_reducible apply Blk.drew) | (with_reducible apply Blk.drewN) | (with_reducible apply Blk.set) | ((with_reducible apply Blk.setO); (first | (with_reducible assumption) | omega | (simp <;> omega))))) hb); (replace c3 := (B3.out).cell); (replace f3 := (B3.out).froz); (replace l3 := (B3.out).lt); (first | ((replace B4 : Hid (Blk v2 _ _ _) := Blk.below (by repeat (first | (with_reducible exact B4.out) | (with_reducible apply Blk.drew) | (with_reducible apply Blk.drewN))) hb); (replace c4 := (B4.out).cell); (replace f4 := (B4.out).froz); (replace l4 := (B4.out).lt)) | ((replace B4 : Hid (Blk v2 (v1.heap.size) _ _) := Blk.below (by repeat (first | (with_reducible exact B4.out) | ((with_reducible apply Blk.newAt); (first | (with_reducible rfl) | (simp <;> omega))) | (with_reducible apply Blk.alloc) | (with_reducible apply Blk.drew) | (with_reducible apply Blk.drewN) | (with_reducible apply Blk.set) | ((with_reducible apply Blk.setO); (first | (with_reducible assumption) | omega | (simp <;> omega))))) hb); (replace c4 := (B4.out).cell); (replace f4 := (B4.out).froz); (replace l4 := (B4.out).lt)) | skip); (replace H1 : Hid (Held v2 _ _ _) := Held.below (by repeat (first | (with_reducible exact H1.out) | (with_reducible apply Held.alloc) | (with_reducible apply Held.drew))) hb); (obtain ⟨lo2, hlo2, hH⟩ := hH.ex); (try simp at hlo2); (have H2 := Lib.hid hH); clear hH; (have g2 := Nat.ne_of_lt l0); (have g2' := Nat.ne_of_gt l0); (have i2 := Nat.ne_of_lt l3); (have i2' := Nat.ne_of_gt l3); (have s2 := Below.size hb); (try simp at s2); (replace HB : Hid (Below w.heap.size w v2) := bCall (by repeat (first | (with_reducible exact HB.out) | (with_reducible apply bAl) | (with_reducible apply bDr) | (with_reducible apply bDrN) | ((with_reducible refine bSt ?_ ?_ _); (first | (with_reducible assumption) | omega | (simp <;> omega))))) hb); clear hb; (have := HB.out.size))
        | (go_at_call 64; refine (windows64h p A B C a b c _ _).mono ?_; rintro e v3 ⟨kb3, ka3, rb3, rfl, hH, hb⟩; (replace B0 : Hid (Blk v3 (w.heap.size) _ _) := Blk.below (by repeat (first | (with_reducible exact B0.out) | ((with_reducible apply Blk.newAt); (first | (with_reducible rfl) | (simp <;> omega))) | (with_reducible apply Blk.alloc) | (with_reducible apply Blk.drew) | (with_reducible apply Blk.drewN) | (with_reducible apply Blk.set) | ((with_reducible apply Blk.setO); (first | (with_reducible assumption) | omega | (simp <;> omega))))) hb); (replace c0 := (B0.out).cell); (replace f0 := (B0.out).froz); (replace l0 := (B0.out).lt); (replace B3 : Hid (Blk v3 (w.heap.size + 1) _ _) := Blk.below (by repeat (first | (with_reducible exact B3.out) | ((with_reducible apply Blk.newAt); (first | (with_reducible rfl) | (simp <;> omega))) | (with_reducible apply Blk.alloc) | (with_reducible apply Blk.drew) | (with_reducible apply Blk.drewN) | (with_reducible apply Blk.set) | ((with_reducible apply Blk.setO); (first | (with_reducible assumption) | omega | (simp <;> omega))))) hb); (replace c3 := (B3.out).cell); (replace f3 := (B3.out).froz); (replace l3 := (B3.out).lt); (first | ((replace B4 : Hid (Blk v3 _ _ _) := Blk.below (by repeat (first | (with_reducible exact B4.out) | (with_reducible apply Blk.drew) | (with_reducible apply Blk.drewN))) hb); (replace c4 := (B4.out).cell); (replace f4 := (B4.out).froz); (replace l4 := (B4.out).lt)) | ((replace B4 : Hid (Blk v3 (v2.heap.size) _ _) := Blk.below (by repeat (first | (with_reducible exact B4.out) | ((with_reducible apply Blk.newAt); (first | (with_reducible rfl) | (simp <;> omega))) | (with_reducible apply Blk.alloc) | (with_reducible apply Blk.drew) | (with_reducible apply Blk.drewN) | (with_reducible apply Blk.set) | ((with_reducible apply Blk.setO); (first | (with_reducible assumption) | omega | (simp <;> omega))))) hb); (replace c4 := (B4.out).cell); (replace f4 := (B4.out).froz); (replace l4 := (B4.out).lt)) | skip); (replace H1 : Hid (Held v3 _ _ _) := Held.below (by repeat (first | (with_reducible exact H1.out) | (with_reducible apply Held.alloc) | (with_reducible apply Held.drew))) hb); (replace H2 : Hid (Held v3 _ _ _) := Held.below (by repeat (first | (with_reducible exact H2.out) | (with_reducible apply Held.alloc) | (with_reducible apply Held.drew))) hb); (obtain ⟨lo3, hlo3, hH⟩ := hH.ex); (try simp at hlo3); (have H3 := Lib.hid hH); clear hH; (have g3 := Nat.ne_of_lt l0); (have g3' := Nat.ne_of_gt l0); (have i3 := Nat.ne_of_lt l3); (have i3' := Nat.ne_of_gt l3); (have s3 := Below.size hb); (try simp at s3); (replace HB : Hid (Below w.heap.size w v3) := bCall (by repeat (first | (with_reducible exact HB.out) | (with_reducible apply bAl) | (with_reducible apply bDr) | (with_reducible apply bDrN) | ((with_reducible refine bSt ?_ ?_ _); (first | (with_reducible assumption) | omega | (simp <;> omega))))) hb); clear hb; (have := HB.out.size))
        | (go_at_call 65; refine (trace65h p A B C a b c _).mono ?_; rintro e v4 ⟨kb4, rb4, rfl, hH, hb⟩; (replace B0 : Hid (Blk v4 (w.heap.size) _ _) := Blk.below (by repeat (first | (with_reducible exact B0.out) | ((with_reducible apply Blk.newAt); (first | (with_reducible rfl) | (simp <;> omega))) | (with_reducible apply Blk.alloc) | (with_reducible apply Blk.drew) | (with_reducible apply Blk.drewN) | (with_reducible apply Blk.set) | ((with_reducible apply Blk.setO); (first | (with_reducible assumption) | omega | (simp <;> omega))))) hb); (replace c0 := (B0.out).cell); (replace f0 := (B0.out).froz); (replace l0 := (B0.out).lt); (replace B3 : Hid (Blk v4 (w.heap.size + 1) _ _) := Blk.below (by repeat (first | (with_reducible exact B3.out) | ((with_reducible apply Blk.newAt); (first | (with_reducible rfl) | (simp <;> omega))) | (with_reducible apply Blk.alloc) | (with_reducible apply Blk.drew) | (with_reducible apply Blk.drewN) | (with_reducible apply Blk.set) | ((with_reducible apply Blk.setO); (first | (with_reducible assumption) | omega | (simp <;> omega))))) hb); (replace c3 := (B3.out).cell); (replace f3 := (B3.out).froz); (replace l3 := (B3.out).lt); (first | ((replace B4 : Hid (Blk v4 _ _ _) := Blk.below (by repeat (first | (with_reducible exact B4.out) | (with_reducible apply Blk.drew) | (with_reducible apply Blk.drewN))) hb); (replace c4 := (B4.out).cell); (replace f4 := (B4.out).froz); (replace l4 := (B4.out).lt)) | ((replace B4 : Hid (Blk v4 (v3.heap.size) _ _) := Blk.below (by repeat (first | (with_reducible exact B4.out) | ((with_reducible apply Blk.newAt); (first | (with_reducible rfl) | (simp <;> omega))) | (with_reducible apply Blk.alloc) | (with_reducible apply Blk.drew) | (with_reducible apply Blk.drewN) | (with_reducible apply Blk.set) | ((with_reducible apply Blk.setO); (first | (with_reducible assumption) | omega | (simp <;> omega))))) hb); (replace c4 := (B4.out).cell); (replace f4 := (B4.out).froz); (replace l4 := (B4.out).lt)) | skip); (replace H1 : Hid (Held v4 _ _ _) := Held.below (by repeat (first | (with_reducible exact H1.out) | (with_reducible apply Held.alloc) | (with_reducible apply Held.drew))) hb); (replace H2 : Hid (Held v4 _ _ _) := Held.below (by repeat (first | (with_reducible exact H2.out) | (with_reducible apply Held.alloc) | (with_reducible apply Held.drew))) hb); (replace H3 : Hid (Held v4 _ _ _) := Held.below (by repeat (first | (with_reducible exact H3.out) | (with_reducible apply Held.alloc) | (with_reducible apply Held.drew))) hb); (obtain ⟨lo4, hlo4, hH⟩ := hH.ex); (try simp at hlo4); (have H4 := Lib.hid hH); clear hH; (have g4 := Nat.ne_of_lt l0); (have g4' := Nat.ne_of_gt l0); (have i4 := Nat.ne_of_lt l3); (have i4' := Nat.ne_of_gt l3); (have s4 := Below.size hb); (try simp at s4); (replace HB : Hid (Below w.heap.size w v4) := bCall (by repeat (first | (with_reducible exact HB.out) | (with_reducible apply bAl) | (with_reducible apply bDr) | (with_reducible apply bDrN) | ((with_reducible refine bSt ?_ ?_ _); (first | (with_reducible assumption) | omega | (simp <;> omega))))) hb); clear hb; (have := HB.out.size))
        | (go_at_call 66; refine (channels66h p A B C a b c _ _ hn).mono ?_; rintro e v5 ⟨kb5, ka5, kl5, rb5, rfl, hH, hb⟩; (replace B0 : Hid (Blk v5 (w.heap.size) _ _) := Blk.below (by repeat (first | (with_reducible exact B0.out) | ((with_reducible apply Blk.newAt); (first | (with_reducible rfl) | (simp <;> omega))) | (with_reducible apply Blk.alloc) | (with_reducible apply Blk.drew) | (with_reducible apply Blk.drewN) | (with_reducible apply Blk.set) | ((with_reducible apply Blk.setO); (first | (with_reducible assumption) | omega | (simp <;> omega))))) hb); (replace c0 := (B0.out).cell); (replace f0 := (B0.out).froz); (replace l0 := (B0.out).lt); (replace B3 : Hid (Blk v5 (w.heap.size + 1) _ _) := Blk.below (by repeat (first | (with_reducible exact B3.out) | ((with_reducible apply Blk.newAt); (first | (with_reducible rfl) | (simp <;> omega))) | (with_reducible apply Blk.alloc) | (with_reducible apply Blk.drew) | (with_reducible apply Blk.drewN) | (with_reducible apply Blk.set) | ((with_reducible apply Blk.setO); (first | (with_reducible assumption) | omega | (simp <;> omega))))) hb); (replace c3 := (B3.out).cell); (replace f3 := (B3.out).froz); (replace l3 := (B3.out).lt); (first | ((replace B4 : Hid (Blk v5 _ _ _) := Blk.below (by repeat (first | (with_reducible exact B4.out) | (with_reducible apply Blk.drew) | (with_reducible apply Blk.drewN))) hb); (replace c4 := (B4.out).cell); (replace f4 := (B4.out).froz); (replace l4 := (B4.out).lt)) | ((replace B4 : Hid (Blk v5 (v4.heap.size) _ _) := Blk.below (by repeat (first | (with_reducible exact B4.out) | ((with_reducible apply Blk.newAt); (first | (with_reducible rfl) | (simp <;> omega))) | (with_reducible apply Blk.alloc) | (with_reducible apply Blk.drew) | (with_reducible apply Blk.drewN) | (with_reducible apply Blk.set) | ((with_reducible apply Blk.setO); (first | (with_reducible assumption) | omega | (simp <;> omega))))) hb); (replace c4 := (B4.out).cell); (replace f4 := (B4.out).froz); (replace l4 := (B4.out).lt)) | skip); (replace H1 : Hid (Held v5 _ _ _) := Held.below (by repeat (first | (with_reducible exact H1.out) | (with_reducible apply Held.alloc) | (with_reducible apply Held.drew))) hb); (replace H2 : Hid (Held v5 _ _ _) := Held.below (by repeat (first | (with_reducible exact H2.out) | (with_reducible apply Held.alloc) | (with_reducible apply Held.drew))) hb); (replace H3 : Hid (Held v5 _ _ _) := Held.below (by repeat (first | (with_reducible exact H3.out) | (with_reducible apply Held.alloc) | (with_reducible apply Held.drew))) hb); (replace H4 : Hid (Held v5 _ _ _) := Held.below (by repeat (first | (with_reducible exact H4.out) | (with_reducible apply Held.alloc) | (with_reducible apply Held.drew))) hb); (obtain ⟨lo5, hlo5, hH⟩ := hH.ex); (try simp at hlo5); (have H5 := Lib.hid hH); clear hH; (have g5 := Nat.ne_of_lt l0); (have g5' := Nat.ne_of_gt l0); (have i5 := Nat.ne_of_lt l3); (have i5' := Nat.ne_of_gt l3); (have s5 := Below.size hb); (try simp at s5); (replace HB : Hid (Below w.heap.size w v5) := bCall (by repeat (first | (with_reducible exact HB.out) | (with_reducible apply bAl) | (with_reducible apply bDr) | (with_reducible apply bDrN) | ((with_reducible refine bSt ?_ ?_ _); (first | (with_reducible assumption) | omega | (simp <;> omega))))) hb); clear hb; (have := HB.out.size)))
    all_goals (go_wp2_with fail; go_meet)
    all_goals
      refine ⟨_, rfl, kb1, rb1, kb2, ka2, rb2, kb3, ka3, rb3, kb4, rb4, kb5, ka5, kl5, rb5, (by omega), ?_, ?_, ?_, ?_, ?_, ?_, ?_, ?_⟩
      · first | (with_reducible exact Blk.newAt _ _ _ _ rfl) | ((apply Blk.cast); (focus (repeat (first | (with_reducible exact B4.out) | ((with_reducible apply Blk.newAt); (first | (with_reducible rfl) | (simp <;> omega))) | (with_reducible apply Blk.alloc) | (with_reducible apply Blk.drew) | (with_reducible apply Blk.drewN) | (with_reducible apply Blk.set) | ((with_reducible apply Blk.setO); (first | (with_reducible assumption) | omega | (simp <;> omega)))))); (simp only [List.setIfInBounds_toArray, List.set_cons_zero, List.set_cons_succ]))
      · repeat (first | (with_reducible exact B3.out) | ((with_reducible apply Blk.newAt); (first | (with_reducible rfl) | (simp <;> omega))) | (with_reducible apply Blk.alloc) | (with_reducible apply Blk.drew) | (with_reducible apply Blk.drewN) | (with_reducible apply Blk.set) | ((with_reducible apply Blk.setO); (first | (with_reducible assumption) | omega | (simp <;> omega))))
      · refine Held.mono (lo := lo1) (hi := v1.heap.size) ?_ (by omega) (by simp <;> omega)
        repeat (first | (with_reducible exact H1.out) | (with_reducible apply Held.alloc) | (with_reducible apply Held.drew) | ((with_reducible refine Held.setO ?_ ?_ _); (first | omega | (simp <;> omega))))
      · refine Held.mono (lo := lo2) (hi := v2.heap.size) ?_ (by omega) (by simp <;> omega)
        repeat (first | (with_reducible exact H2.out) | (with_reducible apply Held.alloc) | (with_reducible apply Held.drew) | ((with_reducible refine Held.setO ?_ ?_ _); (first | omega | (simp <;> omega))))
      · refine Held.mono (lo := lo3) (hi := v3.heap.size) ?_ (by omega) (by simp <;> omega)
        repeat (first | (with_reducible exact H3.out) | (with_reducible apply Held.alloc) | (with_reducible apply Held.drew) | ((with_reducible refine Held.setO ?_ ?_ _); (first | omega | (simp <;> omega))))
      · refine Held.mono (lo := lo4) (hi := v4.heap.size) ?_ (by omega) (by simp <;> omega)
        repeat (first | (with_reducible exact H4.out) | (with_reducible apply Held.alloc) | (with_reducible apply Held.drew) | ((with_reducible refine Held.setO ?_ ?_ _); (first | omega | (simp <;> omega))))
      · refine Held.mono (lo := lo5) (hi := v5.heap.size) ?_ (by omega) (by simp <;> omega)
        repeat (first | (with_reducible exact H5.out) | (with_reducible apply Held.alloc) | (with_reducible apply Held.drew) | ((with_reducible refine Held.setO ?_ ?_ _); (first | omega | (simp <;> omega))))
      · repeat (first | (with_reducible exact HB.out) | (with_reducible apply bAl) | (with_reducible apply bDr) | (with_reducible apply bDrN) | ((with_reducible refine bSt ?_ ?_ _); (first | (with_reducible assumption) | omega | (simp <;> omega))))
--PUT}
  case rest =>
    obtain ⟨tb, rfl, kb1, rb1, kb2, ka2, rb2, kb3, ka3, rb3, kb4, rb4, kb5, ka5, kl5, rb5, htb, hT, hAt, h1, h2, h3, h4, h5, hbel⟩ := hcut
    clear HB
    have HX : Hid (LM p A B C a b c w wc wc tb kb1 rb1 kb2 ka2 rb2 kb3 ka3 rb3 kb4 rb4 kb5 ka5 kl5 rb5 0) := ⟨hT, hAt, h1, h2, h3, h4, h5, hbel, Nat.le_refl _⟩
    clear hT hAt h1 h2 h3 h4 h5 hbel
    go_wp2_with fail
    go_loopw [18] (fun i wr => ∃ (k : Nat) (v : Int), k ≤ 5 ∧ i = .int .i64 k ∧ (∀ j, j < k → listErr p j = 0) ∧ LM p A B C a b c w wc wr tb kb1 rb1 kb2 ka2 rb2 kb3 ka3 rb3 kb4 rb4 kb5 ka5 kl5 rb5 v) (fun i _ => 5 - (intOf i).toNat)
    case atStart => exact ⟨0, 0, by omega, rfl, fun j hj => by omega, HX.out⟩
    case round =>
      obtain ⟨k, v, hk, rfl, hno, hLM⟩ := hrel
      have HN := Lib.hid hno
      have HL := Lib.hid hLM
      clear hno hLM HX
      have cT := HL.out.1.cell
      have hsz := HL.out.2.2.2.2.2.2.2.2
      obtain rfl | rfl | rfl | rfl | rfl | rfl : k = 0 ∨ k = 1 ∨ k = 2 ∨ k = 3 ∨ k = 4 ∨ k = 5 := by omega
      · go_wp2_with fail
        go_loopw [25] (fun i wr => ∃ (j : Nat) (v : Int), j ≤ 1 ∧ i = .int .i64 j ∧ (j = 1 → listErr p 0 = 0) ∧ LM p A B C a b c w wc wr tb kb1 rb1 kb2 ka2 rb2 kb3 ka3 rb3 kb4 rb4 kb5 ka5 kl5 rb5 v) (fun i _ => 1 - (intOf i).toNat)
        case atStart => exact ⟨0, v, by omega, rfl, (fun h => absurd h (by decide)), HL.out⟩
        case round =>
          obtain ⟨j, v1, hj, rfl, hno1, hLM1⟩ := hrel
          clear HL cT hsz
          have HL := Lib.hid hLM1
          have HN1 := Lib.hid hno1
          clear hno1 hLM1
          have cT := HL.out.1.cell
          have cA := HL.out.2.1.cell
          have fA := HL.out.2.1.froz
          obtain rfl | rfl : j = 0 ∨ j = 1 := by omega
          · have ne1 : ¬ tb = w.heap.size + 1 := by omega
            have ne2 : ¬ w.heap.size + 1 = tb := by omega
            go_wp2_with fail
            have HS := Lib.hid (HL.out.set htb 0)
            go_loopw [33] (fun i wr => ∃ r : Nat, r ≤ 1 ∧ i = .int .i64 r ∧ (r = 1 → numbersB p = false) ∧ LM p A B C a b c w wc wr tb kb1 rb1 kb2 ka2 rb2 kb3 ka3 rb3 kb4 rb4 kb5 ka5 kl5 rb5 0) (fun i _ => 1 - (intOf i).toNat)
            case atStart => exact ⟨0, by omega, rfl, (fun h => absurd h (by decide)), HS.out⟩
            case round =>
              obtain ⟨r, hr, rfl, hno2, hLM2⟩ := hrel
              clear HL cT cA fA HS HN1
              have HL := Lib.hid hLM2
              have HN2 := Lib.hid hno2
              clear hno2 hLM2
              have cT := HL.out.1.cell
              have cA := HL.out.2.1.cell
              have fA := HL.out.2.1.froz
              have cR := (HL.out.2.2.1.get (k := rb1) (.tail _ (.head _))).cell
              have cK := (HL.out.2.2.1.get (k := kb1) (.head _)).cell
              obtain rfl | rfl : r = 0 ∨ r = 1 := by omega
              · have HP : Hid (∀ j, wr.cell? ⟨kb1, j, none⟩ = (#[.int .i64 p.mem, .slice A p.parts.length a, .slice B p.wins.length b, .slice C p.chans.length c] : Array Value)[j]?) := cK
                clear cK
                go_wp2_with fail
                refine (numbers85 p A B C a b c kb1 _ HP.out).mono ?_
                rintro e w1 ⟨rfl, rfl⟩
                cases hq : numbersB p
                · have HQ := Lib.hid hq
                  go_wp2_with fail
                  go_roundw
                  case rel =>
                    repeat (apply Exists.intro)
                    exact ⟨⟨1, by omega, rfl, fun _ => HQ.out, HL.out⟩, rfl⟩
                  case measure => simp [intOf]
                · have HQ := Lib.hid hq
                  go_wp2_with fail
                  go_ret
                  exact ⟨retInt (by simp [checkS, HQ.out]), HL.out.2.2.2.2.2.2.2.1⟩
              · go_wp2_with fail
                exact ⟨⟨1, 0, by omega, rfl, fun _ => by simp [listErr, HN2.out rfl], HL.out⟩, by simp [intOf]⟩
          · go_wp2_with fail
            exact ⟨⟨1, v1, by omega, rfl, fun i hi => by obtain rfl : i = 0 := by omega
                                                         exact HN1.out rfl, HL.out⟩, by simp [intOf]⟩
      · go_wp2_with fail
        go_loopw [25] (fun i wr => ∃ (j : Nat) (v : Int), j ≤ p.parts.length ∧ i = .int .i64 j ∧ firstErr ((partErrs p).take j) = 0 ∧ LM p A B C a b c w wc wr tb kb1 rb1 kb2 ka2 rb2 kb3 ka3 rb3 kb4 rb4 kb5 ka5 kl5 rb5 v) (fun i _ => p.parts.length - (intOf i).toNat)
        case atStart => exact ⟨0, v, by omega, rfl, rfl, HL.out⟩
        case round =>
          obtain ⟨j, v1, hj, rfl, hno1, hLM1⟩ := hrel
          clear HL cT hsz
          have HL := Lib.hid hLM1
          have HN1 := Lib.hid hno1
          clear hno1 hLM1
          have cT := HL.out.1.cell
          have cA := HL.out.2.1.cell
          have fA := HL.out.2.1.froz
          by_cases hlt : j < p.parts.length
          · have ne1 : ¬ tb = w.heap.size + 1 := by omega
            have ne2 : ¬ w.heap.size + 1 = tb := by omega
            have hlt' : (j : Int) < ((p.parts.length : Nat) : Int) := by omega
            go_wp2_with fail
            have HS := Lib.hid (HL.out.set htb (j : Int))
            go_loopw [33] (fun i wr => ∃ r : Nat, r ≤ 4 ∧ i = .int .i64 r ∧ (1 ≤ r → partB0 p.mem p.parts[j] = false) ∧ (2 ≤ r → partB1 p.parts j p.parts[j] = false) ∧ (3 ≤ r → partB2 p.parts[j] = false) ∧ (4 ≤ r → partB3 p.parts[j] = false) ∧ LM p A B C a b c w wc wr tb kb1 rb1 kb2 ka2 rb2 kb3 ka3 rb3 kb4 rb4 kb5 ka5 kl5 rb5 (j : Int)) (fun i _ => 4 - (intOf i).toNat)
            case atStart => exact ⟨0, by omega, rfl, (fun h => absurd h (by decide)), (fun h => absurd h (by decide)), (fun h => absurd h (by decide)), (fun h => absurd h (by decide)), HS.out⟩
            case round =>
              obtain ⟨r, hr, rfl, q0, q1, q2, q3, hLM2⟩ := hrel
              clear HL cT cA fA HS
              have HL := Lib.hid hLM2
              have Q0 := Lib.hid q0
              have Q1 := Lib.hid q1
              have Q2 := Lib.hid q2
              have Q3 := Lib.hid q3
              clear hLM2 q0 q1 q2 q3
              have cT := HL.out.1.cell
              have cA := HL.out.2.1.cell
              have fA := HL.out.2.1.froz
              have cR := (HL.out.2.2.2.1.get (k := rb2) (.tail _ (.tail _ (.head _)))).cell
              have HP := Lib.hid (HL.out.2.2.2.1.get (k := kb2) (.head _)).cell
              have HK : Hid (wr.cell? ⟨ka2, 0, none⟩ = some (.pointer (some ⟨w.heap.size + 1, 0, none⟩))) := ((HL.out.2.2.2.1.get (k := ka2) (.tail _ (.head _))).cell 0).trans rfl
              have HV : Hid (wr.cell? ⟨w.heap.size + 1, 0, none⟩ = some (.int .i64 j)) := (cA 0).trans rfl
              obtain rfl | rfl | rfl | rfl | rfl : r = 0 ∨ r = 1 ∨ r = 2 ∨ r = 3 ∨ r = 4 := by omega
              · go_wp2_with fail
                refine (part87 p A B C a b c kb2 ka2 _ j _ HP.out HK.out HV.out (HM.out.1.below HL.out.2.2.2.2.2.2.2.1) hlt (numbersB_mem (HN.out 0 (by omega))) (ho _ (List.getElem_mem _))).mono ?_
                rintro e w1 ⟨rfl, hb⟩
                have HL1 := Lib.hid (HL.out.below hb)
                clear hb cT cA fA cR
                have cT := HL1.out.1.cell
                have cA := HL1.out.2.1.cell
                have fA := HL1.out.2.1.froz
                have cR := (HL1.out.2.2.2.1.get (k := rb2) (.tail _ (.tail _ (.head _)))).cell
                cases hq : partB0 p.mem p.parts[j]
                · have HQ := Lib.hid hq
                  clear hq
                  go_wp2_with fail
                  go_roundw
                  case rel =>
                    repeat (apply Exists.intro)
                    exact ⟨⟨1, by omega, rfl, fun _ => HQ.out, fun h => absurd h (by decide), fun h => absurd h (by decide), fun h => absurd h (by decide), HL1.out⟩, rfl⟩
                  case measure => simp [intOf]
                · have HQ := Lib.hid hq
                  clear hq
                  go_wp2_with fail
                  go_ret
                  exact ⟨retInt (checkS_at p 1 (partErrs p) (by decide) HN.out rfl j (by simp [partErrs, partErr]; omega) HN1.out 6 (by simp [partErrs, partErr, HQ.out]) (by decide)).symm, HL1.out.2.2.2.2.2.2.2.1⟩
              · go_wp2_with fail
                refine (part88 p A B C a b c kb2 ka2 _ j _ HP.out HK.out HV.out (HM.out.1.below HL.out.2.2.2.2.2.2.2.1) hlt ho hn).mono ?_
                rintro e w1 ⟨rfl, hb⟩
                have HL1 := Lib.hid (HL.out.below hb)
                clear hb cT cA fA cR
                have cT := HL1.out.1.cell
                have cA := HL1.out.2.1.cell
                have fA := HL1.out.2.1.froz
                have cR := (HL1.out.2.2.2.1.get (k := rb2) (.tail _ (.tail _ (.head _)))).cell
                cases hq : partB1 p.parts j p.parts[j]
                · have HQ := Lib.hid hq
                  clear hq
                  go_wp2_with fail
                  go_roundw
                  case rel =>
                    repeat (apply Exists.intro)
                    exact ⟨⟨2, by omega, rfl, fun _ => Q0.out (by omega), fun _ => HQ.out, fun h => absurd h (by decide), fun h => absurd h (by decide), HL1.out⟩, rfl⟩
                  case measure => simp [intOf]
                · have HQ := Lib.hid hq
                  clear hq
                  go_wp2_with fail
                  go_ret
                  exact ⟨retInt (checkS_at p 1 (partErrs p) (by decide) HN.out rfl j (by simp [partErrs, partErr]; omega) HN1.out 14 (by simp [partErrs, partErr, HQ.out, Q0.out (by omega)]) (by decide)).symm, HL1.out.2.2.2.2.2.2.2.1⟩
              · go_wp2_with fail
                refine (part89 p A B C a b c kb2 ka2 _ j _ HP.out HK.out HV.out (HM.out.1.below HL.out.2.2.2.2.2.2.2.1) hlt).mono ?_
                rintro e w1 ⟨rfl, hb⟩
                have HL1 := Lib.hid (HL.out.below hb)
                clear hb cT cA fA cR
                have cT := HL1.out.1.cell
                have cA := HL1.out.2.1.cell
                have fA := HL1.out.2.1.froz
                have cR := (HL1.out.2.2.2.1.get (k := rb2) (.tail _ (.tail _ (.head _)))).cell
                cases hq : partB2 p.parts[j]
                · have HQ := Lib.hid hq
                  clear hq
                  go_wp2_with fail
                  go_roundw
                  case rel =>
                    repeat (apply Exists.intro)
                    exact ⟨⟨3, by omega, rfl, fun _ => Q0.out (by omega), fun _ => Q1.out (by omega), fun _ => HQ.out, fun h => absurd h (by decide), HL1.out⟩, rfl⟩
                  case measure => simp [intOf]
                · have HQ := Lib.hid hq
                  clear hq
                  go_wp2_with fail
                  go_ret
                  exact ⟨retInt (checkS_at p 1 (partErrs p) (by decide) HN.out rfl j (by simp [partErrs, partErr]; omega) HN1.out 2 (by simp [partErrs, partErr, HQ.out, Q0.out (by omega), Q1.out (by omega)]) (by decide)).symm, HL1.out.2.2.2.2.2.2.2.1⟩
              · go_wp2_with fail
                refine (part90 p A B C a b c kb2 ka2 _ j _ HP.out HK.out HV.out (HM.out.1.below HL.out.2.2.2.2.2.2.2.1) hlt).mono ?_
                rintro e w1 ⟨rfl, hb⟩
                have HL1 := Lib.hid (HL.out.below hb)
                clear hb cT cA fA cR
                have cT := HL1.out.1.cell
                have cA := HL1.out.2.1.cell
                have fA := HL1.out.2.1.froz
                have cR := (HL1.out.2.2.2.1.get (k := rb2) (.tail _ (.tail _ (.head _)))).cell
                cases hq : partB3 p.parts[j]
                · have HQ := Lib.hid hq
                  clear hq
                  go_wp2_with fail
                  go_roundw
                  case rel =>
                    repeat (apply Exists.intro)
                    exact ⟨⟨4, by omega, rfl, fun _ => Q0.out (by omega), fun _ => Q1.out (by omega), fun _ => Q2.out (by omega), fun _ => HQ.out, HL1.out⟩, rfl⟩
                  case measure => simp [intOf]
                · have HQ := Lib.hid hq
                  clear hq
                  go_wp2_with fail
                  go_ret
                  exact ⟨retInt (checkS_at p 1 (partErrs p) (by decide) HN.out rfl j (by simp [partErrs, partErr]; omega) HN1.out 12 (by simp [partErrs, partErr, HQ.out, Q0.out (by omega), Q1.out (by omega), Q2.out (by omega)]) (by decide)).symm, HL1.out.2.2.2.2.2.2.2.1⟩
              · go_wp2_with fail
                go_roundw
                case rel =>
                  exact ⟨j + 1, j, by omega, by go_num, firstErr_step (by simp [partErrs, partErr]; omega) HN1.out (by simp [partErrs, partErr, Q0.out (by omega), Q1.out (by omega), Q2.out (by omega), Q3.out (by omega)]), HL.out⟩
                case measure => (first | (simp [intOf]; done) | (simp [intOf]; omega))
          · obtain rfl : j = p.parts.length := by omega
            go_wp2_with fail
            have hL0 : listErr p 1 = 0 := by rw [listErr_take p 1 (partErrs p) rfl (p.parts.length) (by simp [partErrs])]; exact HN1.out
            have HL0 := Lib.hid hL0
            clear hL0
            go_roundw
            case rel =>
              exact ⟨2, v1, by omega, rfl, fun i hi => by by_cases h : i < 1; exact HN.out i h; (obtain rfl : i = 1 := by omega); exact HL0.out, HL.out⟩
            case measure => simp [intOf]
      · go_wp2_with fail
        go_loopw [25] (fun i wr => ∃ (j : Nat) (v : Int), j ≤ p.wins.length ∧ i = .int .i64 j ∧ firstErr ((winErrs p).take j) = 0 ∧ LM p A B C a b c w wc wr tb kb1 rb1 kb2 ka2 rb2 kb3 ka3 rb3 kb4 rb4 kb5 ka5 kl5 rb5 v) (fun i _ => p.wins.length - (intOf i).toNat)
        case atStart => exact ⟨0, v, by omega, rfl, rfl, HL.out⟩
        case round =>
          obtain ⟨j, v1, hj, rfl, hno1, hLM1⟩ := hrel
          clear HL cT hsz
          have HL := Lib.hid hLM1
          have HN1 := Lib.hid hno1
          clear hno1 hLM1
          have cT := HL.out.1.cell
          have cA := HL.out.2.1.cell
          have fA := HL.out.2.1.froz
          by_cases hlt : j < p.wins.length
          · have ne1 : ¬ tb = w.heap.size + 1 := by omega
            have ne2 : ¬ w.heap.size + 1 = tb := by omega
            have hlt' : (j : Int) < ((p.wins.length : Nat) : Int) := by omega
            go_wp2_with fail
            have HS := Lib.hid (HL.out.set htb (j : Int))
            go_loopw [33] (fun i wr => ∃ r : Nat, r ≤ 2 ∧ i = .int .i64 r ∧ (1 ≤ r → winB0 p.parts.length p.wins[j] = false) ∧ (2 ≤ r → winB1 p.wins[j] = false) ∧ LM p A B C a b c w wc wr tb kb1 rb1 kb2 ka2 rb2 kb3 ka3 rb3 kb4 rb4 kb5 ka5 kl5 rb5 (j : Int)) (fun i _ => 2 - (intOf i).toNat)
            case atStart => exact ⟨0, by omega, rfl, (fun h => absurd h (by decide)), (fun h => absurd h (by decide)), HS.out⟩
            case round =>
              obtain ⟨r, hr, rfl, q0, q1, hLM2⟩ := hrel
              clear HL cT cA fA HS
              have HL := Lib.hid hLM2
              have Q0 := Lib.hid q0
              have Q1 := Lib.hid q1
              clear hLM2 q0 q1
              have cT := HL.out.1.cell
              have cA := HL.out.2.1.cell
              have fA := HL.out.2.1.froz
              have cR := (HL.out.2.2.2.2.1.get (k := rb3) (.tail _ (.tail _ (.head _)))).cell
              have HP := Lib.hid (HL.out.2.2.2.2.1.get (k := kb3) (.head _)).cell
              have HK : Hid (wr.cell? ⟨ka3, 0, none⟩ = some (.pointer (some ⟨w.heap.size + 1, 0, none⟩))) := ((HL.out.2.2.2.2.1.get (k := ka3) (.tail _ (.head _))).cell 0).trans rfl
              have HV : Hid (wr.cell? ⟨w.heap.size + 1, 0, none⟩ = some (.int .i64 j)) := (cA 0).trans rfl
              obtain rfl | rfl | rfl : r = 0 ∨ r = 1 ∨ r = 2 := by omega
              · go_wp2_with fail
                refine (win91 p A B C a b c kb3 ka3 _ j _ HP.out HK.out HV.out (HM.out.2.1.below HL.out.2.2.2.2.2.2.2.1) hlt hn).mono ?_
                rintro e w1 ⟨rfl, hb⟩
                have HL1 := Lib.hid (HL.out.below hb)
                clear hb cT cA fA cR
                have cT := HL1.out.1.cell
                have cA := HL1.out.2.1.cell
                have fA := HL1.out.2.1.froz
                have cR := (HL1.out.2.2.2.2.1.get (k := rb3) (.tail _ (.tail _ (.head _)))).cell
                cases hq : winB0 p.parts.length p.wins[j]
                · have HQ := Lib.hid hq
                  clear hq
                  go_wp2_with fail
                  go_roundw
                  case rel =>
                    repeat (apply Exists.intro)
                    exact ⟨⟨1, by omega, rfl, fun _ => HQ.out, fun h => absurd h (by decide), HL1.out⟩, rfl⟩
                  case measure => simp [intOf]
                · have HQ := Lib.hid hq
                  clear hq
                  go_wp2_with fail
                  go_ret
                  exact ⟨retInt (checkS_at p 2 (winErrs p) (by decide) HN.out rfl j (by simp [winErrs, winErr]; omega) HN1.out 1 (by simp [winErrs, winErr, HQ.out]) (by decide)).symm, HL1.out.2.2.2.2.2.2.2.1⟩
              · go_wp2_with fail
                refine (win92 p A B C a b c kb3 ka3 _ j _ HP.out HK.out HV.out (HM.out.2.1.below HL.out.2.2.2.2.2.2.2.1) hlt).mono ?_
                rintro e w1 ⟨rfl, hb⟩
                have HL1 := Lib.hid (HL.out.below hb)
                clear hb cT cA fA cR
                have cT := HL1.out.1.cell
                have cA := HL1.out.2.1.cell
                have fA := HL1.out.2.1.froz
                have cR := (HL1.out.2.2.2.2.1.get (k := rb3) (.tail _ (.tail _ (.head _)))).cell
                cases hq : winB1 p.wins[j]
                · have HQ := Lib.hid hq
                  clear hq
                  go_wp2_with fail
                  go_roundw
                  case rel =>
                    repeat (apply Exists.intro)
                    exact ⟨⟨2, by omega, rfl, fun _ => Q0.out (by omega), fun _ => HQ.out, HL1.out⟩, rfl⟩
                  case measure => simp [intOf]
                · have HQ := Lib.hid hq
                  clear hq
                  go_wp2_with fail
                  go_ret
                  exact ⟨retInt (checkS_at p 2 (winErrs p) (by decide) HN.out rfl j (by simp [winErrs, winErr]; omega) HN1.out 2 (by simp [winErrs, winErr, HQ.out, Q0.out (by omega)]) (by decide)).symm, HL1.out.2.2.2.2.2.2.2.1⟩
              · go_wp2_with fail
                go_roundw
                case rel =>
                  exact ⟨j + 1, j, by omega, by go_num, firstErr_step (by simp [winErrs, winErr]; omega) HN1.out (by simp [winErrs, winErr, Q0.out (by omega), Q1.out (by omega)]), HL.out⟩
                case measure => (first | (simp [intOf]; done) | (simp [intOf]; omega))
          · obtain rfl : j = p.wins.length := by omega
            go_wp2_with fail
            have hL0 : listErr p 2 = 0 := by rw [listErr_take p 2 (winErrs p) rfl (p.wins.length) (by simp [winErrs])]; exact HN1.out
            have HL0 := Lib.hid hL0
            clear hL0
            go_roundw
            case rel =>
              exact ⟨3, v1, by omega, rfl, fun i hi => by by_cases h : i < 2; exact HN.out i h; (obtain rfl : i = 2 := by omega); exact HL0.out, HL.out⟩
            case measure => simp [intOf]
      · go_wp2_with fail
        go_loopw [25] (fun i wr => ∃ (j : Nat) (v : Int), j ≤ 1 ∧ i = .int .i64 j ∧ firstErr (([if traceB p then (7 : Int) else 0]).take j) = 0 ∧ LM p A B C a b c w wc wr tb kb1 rb1 kb2 ka2 rb2 kb3 ka3 rb3 kb4 rb4 kb5 ka5 kl5 rb5 v) (fun i _ => 1 - (intOf i).toNat)
        case atStart => exact ⟨0, v, by omega, rfl, rfl, HL.out⟩
        case round =>
          obtain ⟨j, v1, hj, rfl, hno1, hLM1⟩ := hrel
          clear HL cT hsz
          have HL := Lib.hid hLM1
          have HN1 := Lib.hid hno1
          clear hno1 hLM1
          have cT := HL.out.1.cell
          have cA := HL.out.2.1.cell
          have fA := HL.out.2.1.froz
          by_cases hlt : j < 1
          · have ne1 : ¬ tb = w.heap.size + 1 := by omega
            obtain rfl : j = 0 := by omega
            have ne2 : ¬ w.heap.size + 1 = tb := by omega
            have hlt' : (0 : Int) < ((1 : Nat) : Int) := by omega
            go_wp2_with fail
            have HS := Lib.hid (HL.out.set htb (0 : Int))
            go_loopw [33] (fun i wr => ∃ r : Nat, r ≤ 1 ∧ i = .int .i64 r ∧ (1 ≤ r → traceB p = false) ∧ LM p A B C a b c w wc wr tb kb1 rb1 kb2 ka2 rb2 kb3 ka3 rb3 kb4 rb4 kb5 ka5 kl5 rb5 (0 : Int)) (fun i _ => 1 - (intOf i).toNat)
            case atStart => exact ⟨0, by omega, rfl, (fun h => absurd h (by decide)), HS.out⟩
            case round =>
              obtain ⟨r, hr, rfl, q0, hLM2⟩ := hrel
              clear HL cT cA fA HS
              have HL := Lib.hid hLM2
              have Q0 := Lib.hid q0
              clear hLM2 q0
              have cT := HL.out.1.cell
              have cA := HL.out.2.1.cell
              have fA := HL.out.2.1.froz
              have cR := (HL.out.2.2.2.2.2.1.get (k := rb4) (.tail _ (.head _))).cell
              have HP := Lib.hid (HL.out.2.2.2.2.2.1.get (k := kb4) (.head _)).cell
              obtain rfl | rfl : r = 0 ∨ r = 1 := by omega
              · go_wp2_with fail
                refine (trace93 p A B C a b c kb4 _ HP.out (HM.out.2.1.below HL.out.2.2.2.2.2.2.2.1) hwn).mono ?_
                rintro e w1 ⟨rfl, hb⟩
                have HL1 := Lib.hid (HL.out.below hb)
                clear hb cT cA fA cR
                have cT := HL1.out.1.cell
                have cA := HL1.out.2.1.cell
                have fA := HL1.out.2.1.froz
                have cR := (HL1.out.2.2.2.2.2.1.get (k := rb4) (.tail _ (.head _))).cell
                cases hq : traceB p
                · have HQ := Lib.hid hq
                  clear hq
                  go_wp2_with fail
                  go_roundw
                  case rel =>
                    repeat (apply Exists.intro)
                    exact ⟨⟨1, by omega, rfl, fun _ => HQ.out, HL1.out⟩, rfl⟩
                  case measure => simp [intOf]
                · have HQ := Lib.hid hq
                  clear hq
                  go_wp2_with fail
                  go_ret
                  exact ⟨retInt (checkS_at p 3 ([if traceB p then (7 : Int) else 0]) (by decide) HN.out (by simp [listErr, firstErr]) 0 (by simp <;> omega) HN1.out 7 (by simp [HQ.out]) (by decide)).symm, HL1.out.2.2.2.2.2.2.2.1⟩
              · go_wp2_with fail
                go_roundw
                case rel =>
                  exact ⟨0 + 1, 0, by omega, by go_num, firstErr_step (by simp <;> omega) HN1.out (by simp [Q0.out (by omega)]), HL.out⟩
                case measure => (first | (simp [intOf]; done) | (simp [intOf]; omega))
          · obtain rfl : j = 1 := by omega
            go_wp2_with fail
            have hL0 : listErr p 3 = 0 := by rw [listErr_take p 3 ([if traceB p then (7 : Int) else 0]) (by simp [listErr, firstErr]) (1) (by simp [])]; exact HN1.out
            have HL0 := Lib.hid hL0
            clear hL0
            go_roundw
            case rel =>
              exact ⟨4, v1, by omega, rfl, fun i hi => by by_cases h : i < 3; exact HN.out i h; (obtain rfl : i = 3 := by omega); exact HL0.out, HL.out⟩
            case measure => simp [intOf]
      · go_wp2_with fail
        go_loopw [25] (fun i wr => ∃ (j : Nat) (v : Int), j ≤ p.chans.length ∧ i = .int .i64 j ∧ firstErr ((chanErrs p).take j) = 0 ∧ LM p A B C a b c w wc wr tb kb1 rb1 kb2 ka2 rb2 kb3 ka3 rb3 kb4 rb4 kb5 ka5 kl5 rb5 v) (fun i _ => p.chans.length - (intOf i).toNat)
        case atStart => exact ⟨0, v, by omega, rfl, rfl, HL.out⟩
        case round =>
          obtain ⟨j, v1, hj, rfl, hno1, hLM1⟩ := hrel
          clear HL cT hsz
          have HL := Lib.hid hLM1
          have HN1 := Lib.hid hno1
          clear hno1 hLM1
          have cT := HL.out.1.cell
          have cA := HL.out.2.1.cell
          have fA := HL.out.2.1.froz
          by_cases hlt : j < p.chans.length
          · have ne1 : ¬ tb = w.heap.size + 1 := by omega
            have ne2 : ¬ w.heap.size + 1 = tb := by omega
            have hlt' : (j : Int) < ((p.chans.length : Nat) : Int) := by omega
            go_wp2_with fail
            have HS := Lib.hid (HL.out.set htb (j : Int))
            go_loopw [33] (fun i wr => ∃ r : Nat, r ≤ 3 ∧ i = .int .i64 r ∧ (1 ≤ r → chanB0 p.chans[j] = false) ∧ (2 ≤ r → chanB1 p.parts.length p.chans[j] = false) ∧ (3 ≤ r → chanB2 p.chans[j] = false) ∧ LM p A B C a b c w wc wr tb kb1 rb1 kb2 ka2 rb2 kb3 ka3 rb3 kb4 rb4 kb5 ka5 kl5 rb5 (j : Int)) (fun i _ => 3 - (intOf i).toNat)
            case atStart => exact ⟨0, by omega, rfl, (fun h => absurd h (by decide)), (fun h => absurd h (by decide)), (fun h => absurd h (by decide)), HS.out⟩
            case round =>
              obtain ⟨r, hr, rfl, q0, q1, q2, hLM2⟩ := hrel
              clear HL cT cA fA HS
              have HL := Lib.hid hLM2
              have Q0 := Lib.hid q0
              have Q1 := Lib.hid q1
              have Q2 := Lib.hid q2
              clear hLM2 q0 q1 q2
              have cT := HL.out.1.cell
              have cA := HL.out.2.1.cell
              have fA := HL.out.2.1.froz
              have cR := (HL.out.2.2.2.2.2.2.1.get (k := rb5) (.tail _ (.tail _ (.tail _ (.head _))))).cell
              have HP := Lib.hid (HL.out.2.2.2.2.2.2.1.get (k := kb5) (.head _)).cell
              have HK : Hid (wr.cell? ⟨ka5, 0, none⟩ = some (.pointer (some ⟨w.heap.size + 1, 0, none⟩))) := ((HL.out.2.2.2.2.2.2.1.get (k := ka5) (.tail _ (.head _))).cell 0).trans rfl
              have HV : Hid (wr.cell? ⟨w.heap.size + 1, 0, none⟩ = some (.int .i64 j)) := (cA 0).trans rfl
              have HJ : Hid (wr.cell? ⟨kl5, 0, none⟩ = some (.int .i64 ((p.parts.length : Int) - 1))) := ((HL.out.2.2.2.2.2.2.1.get (k := kl5) (.tail _ (.tail _ (.head _)))).cell 0).trans rfl
              obtain rfl | rfl | rfl | rfl : r = 0 ∨ r = 1 ∨ r = 2 ∨ r = 3 := by omega
              · go_wp2_with fail
                refine (chan94 p A B C a b c kb5 ka5 _ j _ HP.out HK.out HV.out (HM.out.2.2.below HL.out.2.2.2.2.2.2.2.1) hlt).mono ?_
                rintro e w1 ⟨rfl, hb⟩
                have HL1 := Lib.hid (HL.out.below hb)
                clear hb cT cA fA cR
                have cT := HL1.out.1.cell
                have cA := HL1.out.2.1.cell
                have fA := HL1.out.2.1.froz
                have cR := (HL1.out.2.2.2.2.2.2.1.get (k := rb5) (.tail _ (.tail _ (.tail _ (.head _))))).cell
                cases hq : chanB0 p.chans[j]
                · have HQ := Lib.hid hq
                  clear hq
                  go_wp2_with fail
                  go_roundw
                  case rel =>
                    repeat (apply Exists.intro)
                    exact ⟨⟨1, by omega, rfl, fun _ => HQ.out, fun h => absurd h (by decide), fun h => absurd h (by decide), HL1.out⟩, rfl⟩
                  case measure => simp [intOf]
                · have HQ := Lib.hid hq
                  clear hq
                  go_wp2_with fail
                  go_ret
                  exact ⟨retInt (checkS_at p 4 (chanErrs p) (by decide) HN.out rfl j (by simp [chanErrs, chanErr]; omega) HN1.out 12 (by simp [chanErrs, chanErr, HQ.out]) (by decide)).symm, HL1.out.2.2.2.2.2.2.2.1⟩
              · go_wp2_with fail
                refine (chan95 p A B C a b c kb5 ka5 _ j _ HP.out HK.out HV.out kl5 HJ.out (HM.out.2.2.below HL.out.2.2.2.2.2.2.2.1) hlt).mono ?_
                rintro e w1 ⟨rfl, hb⟩
                have HL1 := Lib.hid (HL.out.below hb)
                clear hb cT cA fA cR
                have cT := HL1.out.1.cell
                have cA := HL1.out.2.1.cell
                have fA := HL1.out.2.1.froz
                have cR := (HL1.out.2.2.2.2.2.2.1.get (k := rb5) (.tail _ (.tail _ (.tail _ (.head _))))).cell
                cases hq : chanB1 p.parts.length p.chans[j]
                · have HQ := Lib.hid hq
                  clear hq
                  go_wp2_with fail
                  go_roundw
                  case rel =>
                    repeat (apply Exists.intro)
                    exact ⟨⟨2, by omega, rfl, fun _ => Q0.out (by omega), fun _ => HQ.out, fun h => absurd h (by decide), HL1.out⟩, rfl⟩
                  case measure => simp [intOf]
                · have HQ := Lib.hid hq
                  clear hq
                  go_wp2_with fail
                  go_ret
                  exact ⟨retInt (checkS_at p 4 (chanErrs p) (by decide) HN.out rfl j (by simp [chanErrs, chanErr]; omega) HN1.out 1 (by simp [chanErrs, chanErr, HQ.out, Q0.out (by omega)]) (by decide)).symm, HL1.out.2.2.2.2.2.2.2.1⟩
              · go_wp2_with fail
                refine (chan96 p A B C a b c kb5 ka5 _ j _ HP.out HK.out HV.out (HM.out.2.2.below HL.out.2.2.2.2.2.2.2.1) hlt).mono ?_
                rintro e w1 ⟨rfl, hb⟩
                have HL1 := Lib.hid (HL.out.below hb)
                clear hb cT cA fA cR
                have cT := HL1.out.1.cell
                have cA := HL1.out.2.1.cell
                have fA := HL1.out.2.1.froz
                have cR := (HL1.out.2.2.2.2.2.2.1.get (k := rb5) (.tail _ (.tail _ (.tail _ (.head _))))).cell
                cases hq : chanB2 p.chans[j]
                · have HQ := Lib.hid hq
                  clear hq
                  go_wp2_with fail
                  go_roundw
                  case rel =>
                    repeat (apply Exists.intro)
                    exact ⟨⟨3, by omega, rfl, fun _ => Q0.out (by omega), fun _ => Q1.out (by omega), fun _ => HQ.out, HL1.out⟩, rfl⟩
                  case measure => simp [intOf]
                · have HQ := Lib.hid hq
                  clear hq
                  go_wp2_with fail
                  go_ret
                  exact ⟨retInt (checkS_at p 4 (chanErrs p) (by decide) HN.out rfl j (by simp [chanErrs, chanErr]; omega) HN1.out 2 (by simp [chanErrs, chanErr, HQ.out, Q0.out (by omega), Q1.out (by omega)]) (by decide)).symm, HL1.out.2.2.2.2.2.2.2.1⟩
              · go_wp2_with fail
                go_roundw
                case rel =>
                  exact ⟨j + 1, j, by omega, by go_num, firstErr_step (by simp [chanErrs, chanErr]; omega) HN1.out (by simp [chanErrs, chanErr, Q0.out (by omega), Q1.out (by omega), Q2.out (by omega)]), HL.out⟩
                case measure => (first | (simp [intOf]; done) | (simp [intOf]; omega))
          · obtain rfl : j = p.chans.length := by omega
            go_wp2_with fail
            have hL0 : listErr p 4 = 0 := by rw [listErr_take p 4 (chanErrs p) rfl (p.chans.length) (by simp [chanErrs])]; exact HN1.out
            have HL0 := Lib.hid hL0
            clear hL0
            go_roundw
            case rel =>
              exact ⟨5, v1, by omega, rfl, fun i hi => by by_cases h : i < 4; exact HN.out i h; (obtain rfl : i = 4 := by omega); exact HL0.out, HL.out⟩
            case measure => simp [intOf]
      · go_wp2_with fail
        go_ret
        exact ⟨retInt (checkS_none p (fun j hj => HN.out j hj)).symm, HL.out.2.2.2.2.2.2.2.1⟩
end Go.Proofs.Ytlegpbookbghbaa
