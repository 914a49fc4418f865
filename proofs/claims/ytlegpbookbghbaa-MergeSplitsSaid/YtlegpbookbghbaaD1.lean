/- Plans in memory; the ticks of a frame; the windows are no more than 100. -/
import Derived.Test.YtlegpbookbghbaaD0
import Derived.Test.YtlegpbookbghbaaA8
set_option linter.unusedVariables false
set_option linter.unusedSimpArgs false
namespace Go.Proofs.Ytlegpbookbghbaa
open Go.RowKit

theorem flat_get {α : Type} (f : α → List Value) (n : Nat) (hf : ∀ a, (f a).length = n) (l : List α) (k : Nat) (hk : k < l.length) (j : Nat) (hj : j < n) : (l.flatMap f)[k * n + j]? = (f l[k])[j]? := by
  induction l generalizing k with
  | nil => simp at hk
  | cons x l ih =>
    rw [List.flatMap_cons]
    cases k with
    | zero =>
      rw [Nat.zero_mul, Nat.zero_add, List.getElem?_append_left (by rw [hf]; exact hj)]
      rfl
    | succ k =>
      have h1 : (k + 1) * n + j = n + (k * n + j) := by rw [Nat.add_mul, Nat.one_mul]; omega
      rw [h1, List.getElem?_append_right (by rw [hf]; omega), hf, Nat.add_sub_cancel_left, ih k (by simpa using hk)]
      rfl
theorem Rd.win {w : World} {A : Option Addr} {l : List WinS} (h : Rd w A (winCells l)) (k : Nat) (hk : k < l.length) : ∃ b o, A = some ⟨b, o, none⟩ ∧
    w.cell? ⟨b, o + k * 2, none⟩ = some (.int .i64 l[k].part) ∧ w.cell? ⟨b, o + k * 2 + 1, none⟩ = some (.int .i64 l[k].ticks) := by
  have key : ∀ j, j < 2 → (winCells l)[k * 2 + j]? = l[k].cells[j]? := fun j hj => flat_get _ 2 (fun _ => rfl) l k hk j hj
  have h0 : (winCells l)[k * 2 + 0]? = some (.int .i64 l[k].part) := by rw [key 0 (by decide)]; rfl
  obtain ⟨b, o, rfl, hc⟩ := h.at_ h0
  have g : ∀ j u, j < 2 → l[k].cells[j]? = some u → w.cell? ⟨b, o + k * 2 + j, none⟩ = some u := fun j u hj hu => by
    have := hc (k * 2 + j) u (by rw [key j hj]; exact hu)
    rwa [← Nat.add_assoc] at this
  exact ⟨b, o, rfl, g 0 _ (by decide) rfl, g 1 _ (by decide) rfl⟩
theorem Rd.part {w : World} {A : Option Addr} {l : List PartS} (h : Rd w A (partCells l)) (k : Nat) (hk : k < l.length) : ∃ b o, A = some ⟨b, o, none⟩ ∧
    w.cell? ⟨b, o + k * 6, none⟩ = some (.int .i64 l[k].base) ∧ w.cell? ⟨b, o + k * 6 + 1, none⟩ = some (.int .i64 l[k].size) ∧ w.cell? ⟨b, o + k * 6 + 2, none⟩ = some (.int .i64 l[k].ring) ∧
    w.cell? ⟨b, o + k * 6 + 3, none⟩ = some (.slice l[k].cA l[k].cl l[k].cc) ∧ w.cell? ⟨b, o + k * 6 + 4, none⟩ = some (.int .i64 l[k].fault) ∧ w.cell? ⟨b, o + k * 6 + 5, none⟩ = some (.int .i64 l[k].again) := by
  have key : ∀ j, j < 6 → (partCells l)[k * 6 + j]? = l[k].cells[j]? := fun j hj => flat_get _ 6 (fun _ => rfl) l k hk j hj
  have h0 : (partCells l)[k * 6 + 0]? = some (.int .i64 l[k].base) := by rw [key 0 (by decide)]; rfl
  obtain ⟨b, o, rfl, hc⟩ := h.at_ h0
  have g : ∀ j u, j < 6 → l[k].cells[j]? = some u → w.cell? ⟨b, o + k * 6 + j, none⟩ = some u := fun j u hj hu => by
    have := hc (k * 6 + j) u (by rw [key j hj]; exact hu)
    rwa [← Nat.add_assoc] at this
  exact ⟨b, o, rfl, g 0 _ (by decide) rfl, g 1 _ (by decide) rfl, g 2 _ (by decide) rfl, g 3 _ (by decide) rfl, g 4 _ (by decide) rfl, g 5 _ (by decide) rfl⟩
theorem Rd.chan {w : World} {A : Option Addr} {l : List ChanS} (h : Rd w A (chanCells l)) (k : Nat) (hk : k < l.length) : ∃ b o, A = some ⟨b, o, none⟩ ∧
    w.cell? ⟨b, o + k * 5, none⟩ = some (.int .i64 l[k].kind) ∧ w.cell? ⟨b, o + k * 5 + 1, none⟩ = some (.int .i64 l[k].from_) ∧ w.cell? ⟨b, o + k * 5 + 2, none⟩ = some (.int .i64 l[k].to_) ∧
    w.cell? ⟨b, o + k * 5 + 3, none⟩ = some (.int .i64 l[k].size) ∧ w.cell? ⟨b, o + k * 5 + 4, none⟩ = some (.int .i64 l[k].depth) := by
  have key : ∀ j, j < 5 → (chanCells l)[k * 5 + j]? = l[k].cells[j]? := fun j hj => flat_get _ 5 (fun _ => rfl) l k hk j hj
  have h0 : (chanCells l)[k * 5 + 0]? = some (.int .i64 l[k].kind) := by rw [key 0 (by decide)]; rfl
  obtain ⟨b, o, rfl, hc⟩ := h.at_ h0
  have g : ∀ j u, j < 5 → l[k].cells[j]? = some u → w.cell? ⟨b, o + k * 5 + j, none⟩ = some u := fun j u hj hu => by
    have := hc (k * 5 + j) u (by rw [key j hj]; exact hu)
    rwa [← Nat.add_assoc] at this
  exact ⟨b, o, rfl, g 0 _ (by decide) rfl, g 1 _ (by decide) rfl, g 2 _ (by decide) rfl, g 3 _ (by decide) rfl, g 4 _ (by decide) rfl⟩

/-- A window's ticks, 0 to 1000. -/
def clampT (x : Int) : Int := if x ≤ 0 then 0 else if x ≤ 1000 then x else 1000
def sumT (f : WinS → Bool) (l : List WinS) : Int := (l.map fun w => if f w then clampT w.ticks else 0).sum
theorem clampT_in (x : Int) : 0 ≤ clampT x ∧ clampT x ≤ 1000 := by unfold clampT; split <;> (try split) <;> omega
theorem sumT_in (f : WinS → Bool) (l : List WinS) : 0 ≤ sumT f l ∧ sumT f l ≤ 1000 * l.length := by
  unfold sumT
  induction l with
  | nil => simp
  | cons x l ih =>
    have := clampT_in x.ticks
    simp only [List.map_cons, List.sum_cons, List.length_cons]
    split <;> omega
theorem sumT_take (f : WinS → Bool) (l : List WinS) (k : Nat) (hk : k < l.length) : sumT f (l.take (k + 1)) = sumT f (l.take k) + if f l[k] then clampT l[k].ticks else 0 := by
  rw [List.take_succ_eq_append_getElem hk]
  unfold sumT
  rw [List.map_append, List.sum_append]
  simp
def allW (_ : WinS) : Bool := true
def drainW (w : WinS) : Bool := decide (w.part = -1)

set_option maxRecDepth 100000 in set_option maxHeartbeats 1000000 in
theorem ticks73 (x : WinS) (w : World) : Calls Try.prog 73 #[.agg #[.int .i64 x.part, .int .i64 x.ticks]] w fun e w' => e = .returned (.int .i64 (clampT x.ticks)) ∧ Below w.heap.size w w' := by
  have hu61 := Try.underlying61
  have hc := clampT_in x.ticks
  go_enter Try.func73, Try.ntmps73
  go_wp2
  all_goals go_ret
  all_goals exact ⟨retInt (by unfold clampT; omega), bAl (Below.refl _ _) _⟩
set_option maxRecDepth 100000 in set_option maxHeartbeats 1000000 in
theorem frame72 (x : WinS) (w : World) : Calls Try.prog 72 #[.agg #[.int .i64 x.part, .int .i64 x.ticks]] w fun e w' => e = .returned (.bool (allW x)) ∧ Below w.heap.size w w' := by
  go_enter Try.func72, Try.ntmps72
  go_wp2
  go_ret
  exact ⟨rfl, bAl (Below.refl _ _) _⟩
set_option maxRecDepth 100000 in set_option maxHeartbeats 1000000 in
theorem drains74 (x : WinS) (w : World) : Calls Try.prog 74 #[.agg #[.int .i64 x.part, .int .i64 x.ticks]] w fun e w' => e = .returned (.bool (drainW x)) ∧ Below w.heap.size w w' := by
  have hu61 := Try.underlying61
  go_enter Try.func74, Try.ntmps74
  go_wp2
  go_ret
  exact ⟨retBool (by unfold drainW; rw [Bool.eq_iff_iff]; simp), bAl (Below.refl _ _) _⟩
set_option maxRecDepth 100000 in set_option maxHeartbeats 1000000 in theorem refFrame34 (p : PlanS) (A B C : Option Addr) (a b c : Nat) (w : World) (hB : Rd w B (winCells p.wins)) (hl : p.wins.length ≤ 100) : Calls Try.prog 34 #[.agg #[.int .i64 p.mem, .slice A p.parts.length a, .slice B p.wins.length b, .slice C p.chans.length c]] w fun e w' => e = .returned (.int .i64 (sumT allW p.wins)) ∧ Below w.heap.size w w' := by
  have hu50 := Try.underlying50
  have HR : Hid (Rd w B (winCells p.wins)) := hB
  clear hB
  go_enter Try.func34, Try.ntmps34
  go_wp2
  go_loopw [3, 4] (fun n i wr => ∃ k : Nat, k ≤ p.wins.length ∧ n = .int .i64 (sumT allW (p.wins.take k)) ∧ i = .int .i64 k ∧ Blk wr w.heap.size #[.int .i64 p.mem, .slice A p.parts.length a, .slice B p.wins.length b, .slice C p.chans.length c] 50 ∧ Below w.heap.size w wr) (fun _ i _ => p.wins.length - (intOf i).toNat)
  case atStart => exact ⟨0, by omega, rfl, rfl, Blk.newAt _ _ _ _ rfl, bAl (Below.refl _ _) _⟩
  case round =>
    obtain ⟨k, hk, rfl, rfl, hBl, hbel⟩ := hrel
    have HB : Hid (Below w.heap.size w wr) := hbel
    have B0 : Hid (Blk wr w.heap.size _ _) := hBl
    have c0 := hBl.cell
    have hz := hbel.size
    by_cases hlt : k < p.wins.length
    · obtain ⟨b', o', rfl, s0, s1⟩ := HR.out.win k hlt
      have d0 : wr.cell? ⟨b', o' + k * 2, none⟩ = some (.int .i64 p.wins[k].part) := (hbel.cell (World.block_lt_of_cell? w _ s0)).trans s0
      have d1 : wr.cell? ⟨b', o' + k * 2 + 1, none⟩ = some (.int .i64 p.wins[k].ticks) := (hbel.cell (World.block_lt_of_cell? w _ s1)).trans s1
      have hlt' : (k : Int) < (p.wins.length : Int) := by omega
      have ht := sumT_take allW p.wins k hlt
      have hi := sumT_in allW (p.wins.take k)
      have hi2 := clampT_in p.wins[k].ticks
      rw [List.length_take] at hi
      simp only [allW, if_true] at ht
      clear hbel hBl s0 s1
      go_wp2_with fail
      refine (ticks73 p.wins[k] _).mono ?_
      rintro e w1 ⟨rfl, hb⟩
      (replace B0 : Hid (Blk w1 (w.heap.size) _ _) := Blk.below (by repeat (first | (with_reducible exact B0.out) | ((with_reducible apply Blk.newAt); (first | (with_reducible rfl) | (simp <;> omega))) | (with_reducible apply Blk.alloc) | (with_reducible apply Blk.drew) | (with_reducible apply Blk.drewN) | (with_reducible apply Blk.set) | ((with_reducible apply Blk.setO); (first | (with_reducible assumption) | omega | (simp <;> omega))))) hb); (replace c0 := (B0.out).cell); (replace f0 := (B0.out).froz); (replace l0 := (B0.out).lt)
      (replace HB : Hid (Below w.heap.size w w1) := bCall (by repeat (first | (with_reducible exact HB.out) | (with_reducible apply bAl) | (with_reducible apply bDr) | (with_reducible apply bDrN) | ((with_reducible refine bSt ?_ ?_ _); (first | (with_reducible assumption) | omega | (simp <;> omega))))) hb); clear hb; (have := HB.out.size)
      go_wp2
      refine ⟨⟨k + 1, by omega, by rw [ht], by go_num, B0.out, HB.out⟩, by simp [intOf]; omega⟩
    · have hkk : k = p.wins.length := by omega
      subst hkk
      rw [List.take_length]
      go_wp2
      go_ret
      exact ⟨rfl, HB.out⟩
end Go.Proofs.Ytlegpbookbghbaa
