/- Lemmas on memory for the walks of this seat: rows of cells that are read, rows that a call owns or that are empty, append onto either; no condition. -/
import Derived.Test.YtlegpbookbghbaaProg
import Derived.WalkKit
import Derived.WalkLawsBesides
import Derived.KernelRfl
import Derived.Lib.Hide
namespace Go.Proofs.Ytlegpbookbghbaa
open Go.RowKit

/-- The cells cs lie behind one another from the address A on. -/
def Rd (w : World) (A : Option Addr) (cs : List Value) : Prop :=
  cs = [] ∨ ∃ b o, A = some ⟨b, o, none⟩ ∧ ∀ j u, cs[j]? = some u → w.cell? ⟨b, o + j, none⟩ = some u

theorem bcell {W w1 : World} (hb : Below W.heap.size W w1) : (∀ b o, b < W.heap.size → w1.cell? ⟨b, o, none⟩ = W.cell? ⟨b, o, none⟩) ∧ (∀ b o, b < W.heap.size → w1.frozen? ⟨b, o, none⟩ = W.frozen? ⟨b, o, none⟩) :=
  ⟨fun b o h => hb.cell (p := ⟨b, o, none⟩) h, fun b o h => hb.frozen (p := ⟨b, o, none⟩) h⟩
theorem belowThen {B : Nat} {w w1 w2 : World} (h : Below B w w1) (hB : B ≤ w1.heap.size) (k : Below w1.heap.size w1 w2) : Below B w w2 :=
  h.trans ⟨k.os, k.tape, k.output, k.size, fun i hi => k.block i (Nat.lt_of_lt_of_le hi hB)⟩
theorem belowAlloc (w : World) (o : Obj) : Below w.heap.size w (w.alloc o) := (Below.refl _ _).alloc (Nat.le_refl _) o
theorem belowTrans {w w1 w2 : World} (h : Below w.heap.size w w1) (k : Below w1.heap.size w1 w2) : Below w.heap.size w w2 := belowThen h h.size k
theorem belowDrew (w : World) : Below w.heap.size w w.drew := (Below.refl _ _).drew

theorem retBool {a b : Bool} (h : a = b) : Ending.returned (.bool a) = .returned (.bool b) := by rw [h]
theorem retInt {k : IntKind} {a b : Int} (h : a = b) : Ending.returned (.int k a) = .returned (.int k b) := by rw [h]
theorem bAl {w W : World} (h : Below w.heap.size w W) (o : Obj) : Below w.heap.size w (W.alloc o) := h.alloc h.size o
theorem bDr {w W : World} (h : Below w.heap.size w W) : Below w.heap.size w W.drew := h.drew
theorem bDrN {w W : World} (h : Below w.heap.size w W) (n : Nat) : Below w.heap.size w (W.drewN n) := ⟨h.os, h.tape, h.output, h.size, h.block⟩
theorem bSt {w W : World} {p : Addr} (hp : w.heap.size ≤ p.block) (h : Below w.heap.size w W) (u : Value) : Below w.heap.size w (W.setCell p u) := h.setCell hp u
theorem bCall {w W w1 : World} (h : Below w.heap.size w W) (k : Below W.heap.size W w1) : Below w.heap.size w w1 := belowTrans h k
theorem Rd.nil (w : World) (A : Option Addr) : Rd w A [] := .inl rfl
theorem Rd.below {w w1 : World} {A : Option Addr} {cs : List Value} (h : Rd w A cs) (hb : Below w.heap.size w w1) : Rd w1 A cs := by
  rcases h with rfl | ⟨b, o, rfl, h⟩
  · exact .inl rfl
  · refine .inr ⟨b, o, rfl, fun j u hu => ?_⟩
    have := h j u hu
    exact (hb.cell (World.block_lt_of_cell? w _ this)).trans this
theorem Rd.at_ {w : World} {A : Option Addr} {cs : List Value} (h : Rd w A cs) {j : Nat} {u : Value} (hu : cs[j]? = some u) : ∃ b o, A = some ⟨b, o, none⟩ ∧ ∀ j u, cs[j]? = some u → w.cell? ⟨b, o + j, none⟩ = some u := by
  rcases h with rfl | h
  · simp at hu
  · exact h
theorem Rd.add {w : World} {A : Option Addr} {cs : List Value} (h : Rd w A cs) (hne : cs ≠ []) : ∃ a : Addr, A = some a ∧ ∀ j u, cs[j]? = some u → w.cell? (a.add j) = some u := by
  rcases h with rfl | ⟨b, o, rfl, h⟩
  · exact absurd rfl hne
  · refine ⟨_, rfl, fun j u hu => ?_⟩
    have := h j u hu
    unfold Addr.add
    split
    · simp_all
    · exact this
/-- A row that begins further on. -/
theorem Rd.drop {w : World} {b o : Nat} {cs : List Value} (h : Rd w (some ⟨b, o, none⟩) cs) (k : Nat) : Rd w (some ⟨b, o + k, none⟩) (cs.drop k) := by
  rcases h with rfl | ⟨b', o', e, h⟩
  · exact .inl (by simp)
  · simp only [Option.some.injEq, Addr.mk.injEq, and_true] at e
    obtain ⟨rfl, rfl⟩ := e
    refine .inr ⟨b, o + k, rfl, fun j u hu => ?_⟩
    rw [List.getElem?_drop] at hu
    have := h (k + j) u hu
    rwa [← Nat.add_assoc] at this
theorem Rd.take {w : World} {A : Option Addr} {cs : List Value} (h : Rd w A cs) (k : Nat) : Rd w A (cs.take k) := by
  rcases h with rfl | ⟨b', o', e, h⟩
  · exact .inl (by simp)
  · refine .inr ⟨b', o', e, fun j u hu => h j u ?_⟩
    rw [List.getElem?_take] at hu
    split at hu
    · exact hu
    · cases hu
/-- New blocks. -/
theorem Rd.new (w : World) (cs : Array Value) (t : TypeId) : Rd (w.alloc (.cells cs t)) (some ⟨w.heap.size, 0, none⟩) cs.toList := by
  refine .inr ⟨_, _, rfl, fun j u hu => ?_⟩
  rw [Nat.zero_add, cell_of_row _ _ j cs t (0, 0) (heap_alloc_new w _)]
  simpa using hu
theorem Rd.newAt (w : World) (k : Nat) (cs : Array Value) (t : TypeId) (hk : k = w.heap.size) : Rd (w.alloc (.cells cs t)) (some ⟨k, 0, none⟩) cs.toList := by
  subst hk
  exact Rd.new w cs t
theorem Rd.ofOwn {w : World} {base : Nat} {e : TypeId} {size n : Nat} {v : Value} {xs : List Value} (h : w.ownsRow base e size v n xs) : ∃ A c, v = .slice A n c ∧ n ≤ c ∧ Rd w A xs := by
  obtain ⟨h1, h2⟩ := h
  rcases h2 with ⟨rfl, rfl⟩ | ⟨g, cap, cur, rfl, hb, hg, hnc, hcm, hcs, htake⟩
  · exact ⟨none, 0, rfl, Nat.le_refl _, .inl (List.eq_nil_of_length_eq_zero (by simpa using h1))⟩
  · refine ⟨_, cap, rfl, hnc, .inr ⟨g, 0, rfl, fun j u hu => ?_⟩⟩
    rw [Nat.zero_add, cell_of_row w g j cur e (0, 0) hg]
    rw [← htake, List.getElem?_take] at hu
    split at hu
    · simpa using hu
    · cases hu

/-- Block k is this row of cells, none of it frozen. -/
def Blk (w : World) (k : Nat) (cs : Array Value) (t : TypeId) : Prop := w.heap[k]? = some (.cells cs t (0, 0))
theorem Blk.lt {w : World} {k : Nat} {cs : Array Value} {t : TypeId} (h : Blk w k cs t) : k < w.heap.size := (Array.getElem?_eq_some_iff.1 h).1
theorem Blk.cell {w : World} {k : Nat} {cs : Array Value} {t : TypeId} (h : Blk w k cs t) : ∀ j, w.cell? ⟨k, j, none⟩ = cs[j]? := fun j => cell_of_row w k j cs t (0, 0) h
theorem Blk.froz {w : World} {k : Nat} {cs : Array Value} {t : TypeId} (h : Blk w k cs t) : ∀ j, w.frozen? ⟨k, j, none⟩ = false := fun j => frozen_of_row w k j cs t h
theorem Blk.below {w w1 : World} {k : Nat} {cs : Array Value} {t : TypeId} (h : Blk w k cs t) (hb : Below w.heap.size w w1) : Blk w1 k cs t := (hb.block k h.lt).trans h
theorem Blk.newAt (w : World) (k : Nat) (cs : Array Value) (t : TypeId) (hk : k = w.heap.size) : Blk (w.alloc (.cells cs t)) k cs t := by
  subst hk
  exact heap_alloc_new w _
theorem Blk.alloc {w : World} {k : Nat} {cs : Array Value} {t : TypeId} (h : Blk w k cs t) (o : Obj) : Blk (w.alloc o) k cs t := h.below (belowAlloc w o)
theorem Blk.cast {w : World} {k : Nat} {cs cs' : Array Value} {t : TypeId} (h : Blk w k cs' t) (e : cs' = cs) : Blk w k cs t := e ▸ h
theorem Blk.drew {w : World} {k : Nat} {cs : Array Value} {t : TypeId} (h : Blk w k cs t) : Blk w.drew k cs t := h
theorem Blk.drewN {w : World} {k : Nat} {cs : Array Value} {t : TypeId} (h : Blk w k cs t) (n : Nat) : Blk (w.drewN n) k cs t := h
theorem Blk.set {w : World} {k : Nat} {cs : Array Value} {t : TypeId} (h : Blk w k cs t) (j : Nat) (u : Value) : Blk (w.setCell ⟨k, j, none⟩ u) k (cs.setIfInBounds j u) t := heap_setCell_same w k j cs t u h
theorem Blk.setO {w : World} {k : Nat} {cs : Array Value} {t : TypeId} {p : Addr} (hp : k ≠ p.block) (h : Blk w k cs t) (u : Value) : Blk (w.setCell p u) k cs t := (Below.heap_setCell w p u k hp).trans h
/-- A row of the call's own, or an empty slice without room. -/
def Own0 (w : World) (base : Nat) (e : TypeId) (size : Nat) (v : Value) (n : Nat) (xs : List Value) : Prop :=
  w.ownsRow base e size v n xs ∨ (n = 0 ∧ xs = [] ∧ ∃ a, v = .slice (some a) 0 0)
/-- Such a row in blocks from B on. -/
def RdN (w : World) (B : Nat) (A : Option Addr) (cs : List Value) : Prop :=
  cs = [] ∨ ∃ b o, A = some ⟨b, o, none⟩ ∧ B ≤ b ∧ ∀ j u, cs[j]? = some u → w.cell? ⟨b, o + j, none⟩ = some u
theorem RdN.rd {w : World} {B : Nat} {A : Option Addr} {cs : List Value} (h : RdN w B A cs) : Rd w A cs := by
  rcases h with rfl | ⟨b, o, h1, h2, h3⟩
  · exact .inl rfl
  · exact .inr ⟨b, o, h1, h3⟩
theorem RdN.mono {w : World} {B B' : Nat} {A : Option Addr} {cs : List Value} (h : RdN w B A cs) (hB : B' ≤ B) : RdN w B' A cs := by
  rcases h with rfl | ⟨b, o, h1, h2, h3⟩
  · exact .inl rfl
  · exact .inr ⟨b, o, h1, Nat.le_trans hB h2, h3⟩
theorem RdN.nil (w : World) (B : Nat) (A : Option Addr) : RdN w B A [] := .inl rfl
theorem RdN.below {w w1 : World} {B : Nat} {A : Option Addr} {cs : List Value} (h : RdN w B A cs) (hb : Below w.heap.size w w1) : RdN w1 B A cs := by
  rcases h with rfl | ⟨b, o, rfl, h2, h3⟩
  · exact .inl rfl
  · refine .inr ⟨b, o, rfl, h2, fun j u hu => ?_⟩
    have := h3 j u hu
    exact (hb.cell (World.block_lt_of_cell? w _ this)).trans this
theorem RdN.set {w : World} {B : Nat} {A : Option Addr} {cs : List Value} {p : Addr} (hp : p.block < B) (h : RdN w B A cs) (u : Value) : RdN (w.setCell p u) B A cs := by
  rcases h with rfl | ⟨b, o, rfl, h2, h3⟩
  · exact .inl rfl
  · refine .inr ⟨b, o, rfl, h2, fun j u hu => ?_⟩
    rw [World.cell?_of_block (w := w) (Below.heap_setCell w p _ b (by omega))]
    exact h3 j u hu
theorem RdN.alloc {w : World} {B : Nat} {A : Option Addr} {cs : List Value} (h : RdN w B A cs) (o : Obj) : RdN (w.alloc o) B A cs := h.below (belowAlloc w o)
theorem RdN.drew {w : World} {B : Nat} {A : Option Addr} {cs : List Value} (h : RdN w B A cs) : RdN w.drew B A cs := h.below (belowDrew w)
/-- Such a row in blocks from lo on, below hi. -/
def RdI (w : World) (lo hi : Nat) (A : Option Addr) (cs : List Value) : Prop :=
  cs = [] ∨ ∃ b o, A = some ⟨b, o, none⟩ ∧ lo ≤ b ∧ b < hi ∧ ∀ j u, cs[j]? = some u → w.cell? ⟨b, o + j, none⟩ = some u
theorem RdN.rdi {w : World} {B : Nat} {A : Option Addr} {cs : List Value} (h : RdN w B A cs) : RdI w B w.heap.size A cs := by
  rcases h with rfl | ⟨b, o, rfl, h2, h3⟩
  · exact .inl rfl
  · cases cs with
    | nil => exact .inl rfl
    | cons c cs =>
      have := h3 0 c rfl
      exact .inr ⟨b, o, rfl, h2, World.block_lt_of_cell? w _ this, h3⟩
theorem RdN.ex {w : World} {B : Nat} {A : Option Addr} {cs : List Value} (h : RdN w B A cs) : ∃ lo, lo = B ∧ RdI w lo w.heap.size A cs := ⟨B, rfl, h.rdi⟩
theorem Rd.rdi {w : World} {A : Option Addr} {cs : List Value} (h : Rd w A cs) : RdI w 0 w.heap.size A cs := by
  rcases h with rfl | ⟨b, o, rfl, h3⟩
  · exact .inl rfl
  · exact RdN.rdi (.inr ⟨b, o, rfl, Nat.zero_le _, h3⟩)
theorem RdI.rdn {w : World} {lo hi : Nat} {A : Option Addr} {cs : List Value} (h : RdI w lo hi A cs) : RdN w lo A cs := by
  rcases h with rfl | ⟨b, o, rfl, h2, _, h3⟩
  · exact .inl rfl
  · exact .inr ⟨b, o, rfl, h2, h3⟩
theorem RdI.rd {w : World} {lo hi : Nat} {A : Option Addr} {cs : List Value} (h : RdI w lo hi A cs) : Rd w A cs := h.rdn.rd
theorem RdI.set {w : World} {lo hi : Nat} {A : Option Addr} {cs : List Value} {p : Addr} (hp : p.block < lo ∨ hi ≤ p.block) (h : RdI w lo hi A cs) (u : Value) : RdI (w.setCell p u) lo hi A cs := by
  rcases h with rfl | ⟨b, o, rfl, h2, hh, h3⟩
  · exact .inl rfl
  · refine .inr ⟨b, o, rfl, h2, hh, fun j u hu => ?_⟩
    rw [World.cell?_of_block (w := w) (Below.heap_setCell w p _ b (by omega))]
    exact h3 j u hu
theorem RdI.below {w w1 : World} {lo hi B : Nat} {A : Option Addr} {cs : List Value} (h : RdI w lo hi A cs) (hb : Below B w w1) (hB : hi ≤ B) : RdI w1 lo hi A cs := by
  rcases h with rfl | ⟨b, o, rfl, h2, hh, h3⟩
  · exact .inl rfl
  · exact .inr ⟨b, o, rfl, h2, hh, fun j u hu => (hb.cell (p := ⟨b, o + j, none⟩) (Nat.lt_of_lt_of_le hh hB)).trans (h3 j u hu)⟩
theorem RdI.alloc {w : World} {lo hi : Nat} {A : Option Addr} {cs : List Value} (h : RdI w lo hi A cs) (o : Obj) : RdI (w.alloc o) lo hi A cs := by
  rcases h with rfl | ⟨b, o', rfl, h2, hh, h3⟩
  · exact .inl rfl
  · refine .inr ⟨b, o', rfl, h2, hh, fun j u hu => ?_⟩
    have := h3 j u hu
    exact ((belowAlloc w o).cell (p := ⟨b, o' + j, none⟩) (World.block_lt_of_cell? w _ this)).trans this
theorem RdI.drew {w : World} {lo hi : Nat} {A : Option Addr} {cs : List Value} (h : RdI w lo hi A cs) : RdI w.drew lo hi A cs := h
theorem RdI.drewN {w : World} {lo hi : Nat} {A : Option Addr} {cs : List Value} (h : RdI w lo hi A cs) (n : Nat) : RdI (w.drewN n) lo hi A cs := h
theorem RdI.lower {w : World} {lo lo' hi : Nat} {A : Option Addr} {cs : List Value} (h : RdI w lo hi A cs) (hl : lo' ≤ lo) : RdI w lo' hi A cs := by
  rcases h with rfl | ⟨b, o, rfl, h2, hh, h3⟩
  · exact .inl rfl
  · exact .inr ⟨b, o, rfl, Nat.le_trans hl h2, hh, h3⟩
theorem RdI.raise {w : World} {lo hi hi' : Nat} {A : Option Addr} {cs : List Value} (h : RdI w lo hi A cs) (hl : hi ≤ hi') : RdI w lo hi' A cs := by
  rcases h with rfl | ⟨b, o, rfl, h2, hh, h3⟩
  · exact .inl rfl
  · exact .inr ⟨b, o, rfl, h2, Nat.lt_of_lt_of_le hh hl, h3⟩
theorem RdN.ofOwn0 {w : World} {base : Nat} {e : TypeId} {size n : Nat} {v : Value} {xs : List Value} (h : Own0 w base e size v n xs) : ∃ A c, v = .slice A n c ∧ n ≤ c ∧ RdN w base A xs := by
  rcases h with h | ⟨rfl, rfl, a, rfl⟩
  · obtain ⟨h1, h2⟩ := h
    rcases h2 with ⟨rfl, rfl⟩ | ⟨g, cap, cur, rfl, hb, hg, hnc, hcm, hcs, htake⟩
    · exact ⟨none, 0, rfl, Nat.le_refl _, .inl (List.eq_nil_of_length_eq_zero (by simpa using h1))⟩
    · refine ⟨_, cap, rfl, hnc, .inr ⟨g, 0, rfl, hb, fun j u hu => ?_⟩⟩
      rw [Nat.zero_add, cell_of_row w g j cur e (0, 0) hg]
      rw [← htake, List.getElem?_take] at hu
      split at hu
      · simpa using hu
      · cases hu
  · exact ⟨_, _, rfl, Nat.le_refl _, .inl rfl⟩
theorem Blk.belowB {w w1 : World} {k B : Nat} {cs : Array Value} {t : TypeId} (h : Blk w k cs t) (hb : Below B w w1) (hk : k < B) : Blk w1 k cs t := (hb.block k hk).trans h
theorem bCallB {w W w1 : World} {B : Nat} (h : Below w.heap.size w W) (k : Below B W w1) (hB : w.heap.size ≤ B) : Below w.heap.size w w1 := h.trans (k.mono hB)
theorem Rd.belowB {w w1 : World} {B b o : Nat} {cs : List Value} (h : Rd w (some ⟨b, o, none⟩) cs) (hb : Below B w w1) (hB : b < B) : Rd w1 (some ⟨b, o, none⟩) cs := by
  rcases h with rfl | ⟨b', o', e, h⟩
  · exact .inl rfl
  · simp only [Option.some.injEq, Addr.mk.injEq, and_true] at e
    obtain ⟨rfl, rfl⟩ := e
    exact .inr ⟨b, o, rfl, fun j u hu => (hb.cell (p := ⟨b, o + j, none⟩) hB).trans (h j u hu)⟩
theorem Own0.set {w : World} {base : Nat} {e : TypeId} {size n : Nat} {v : Value} {xs : List Value} {p : Addr} (hp : p.block < base) (h : Own0 w base e size v n xs) (u : Value) : Own0 (w.setCell p u) base e size v n xs := by
  rcases h with h | h
  · exact .inl (ownsRow_setCell_below h hp u)
  · exact .inr h
theorem Own0.alloc {w : World} {base : Nat} {e : TypeId} {size n : Nat} {v : Value} {xs : List Value} (h : Own0 w base e size v n xs) (o : Obj) : Own0 (w.alloc o) base e size v n xs := by
  rcases h with h | h
  · exact .inl (h.alloc o)
  · exact .inr h
theorem Own0.below {w w1 : World} {base : Nat} {e : TypeId} {size n : Nat} {v : Value} {xs : List Value} (h : Own0 w base e size v n xs) (hb : Below w.heap.size w w1) : Own0 w1 base e size v n xs := by
  rcases h with h | h
  · exact .inl (h.kept (row := none) ⟨hb.os, hb.tape, hb.output, hb.size, fun i hi _ => hb.block i hi⟩ (by cases v.ownBlock <;> simp))
  · exact .inr h
theorem Own0.rdn {w : World} {base : Nat} {e : TypeId} {size n c : Nat} {A : Option Addr} {xs : List Value} (h : Own0 w base e size (.slice A n c) n xs) : RdN w base A xs := by
  obtain ⟨A', c', e, _, hR⟩ := RdN.ofOwn0 h
  simp only [Value.slice.injEq] at e
  obtain ⟨rfl, _, rfl⟩ := e
  exact hR
theorem Rd.ofOwn0 {w : World} {base : Nat} {e : TypeId} {size n : Nat} {v : Value} {xs : List Value} (h : Own0 w base e size v n xs) : ∃ A c, v = .slice A n c ∧ n ≤ c ∧ Rd w A xs := by
  rcases h with h | ⟨rfl, rfl, a, rfl⟩
  · exact Rd.ofOwn h
  · exact ⟨_, _, rfl, Nat.le_refl _, .inl rfl⟩

section
variable {P : Program}
theorem run_append_nothing (w : World) (t ty e : TypeId) (i : TypeInfo) (ht : P.underlying t = some (.slice e)) (hi : P.info? e = some i) (A S : Option Addr) (c : Nat) :
    (Builtin.append_ #[t, t] ty #[.slice A 0 0, .slice S 0 c]).run P w = .ok (.slice A 0 0) w := by
  cases S <;> cases A <;> simp [Builtin.append_, run_underlying ht, sizeOf, typeInfo, hi, Builtin.lenOf, Builtin.firstCells, storeCells, loadCells, loadCellsFrom]
theorem run_append0 (w : World) (base : Nat) (t ty e : TypeId) (i : TypeInfo) (z : Value) (size bytes : Nat) (ht : P.underlying t = some (.slice e)) (hi : P.info? e = some i) (hz : i.zero = some z)
    (hsize : i.size = size) (hby : i.bytes = bytes) (hzs : z.cells.size = size) (hsz : 0 < size)
    (v : Value) (n : Nat) (xs : List Value) (hown : Own0 w base e size v n xs)
    (S : Option Addr) (m c : Nat) (ys : List Value) (hl : ys.length = m * size) (hys : Rd w S ys) (h1 : ∀ u ∈ ys, u.oneCell' = true)
    (h63 : n + m ≤ maxLen) (hbytes : (n + m) * bytes ≤ 140737488355328) (hbase : base ≤ w.heap.size) :
    ∃ v' w', (Builtin.append_ #[t, t] ty #[v, .slice S m c]).run P w = .ok v' w' ∧ Own0 w' base e size v' (n + m) (xs ++ ys) ∧ Below base w w' := by
  subst hsize hby
  by_cases hm : m = 0
  · subst hm
    obtain rfl : ys = [] := List.eq_nil_of_length_eq_zero (by simpa using hl)
    rcases hown with hown | ⟨rfl, rfl, a, rfl⟩
    · cases S with
      | none =>
        rcases hown.2 with ⟨rfl, rfl⟩ | ⟨g, cap, cur, rfl, _, _, hnc, _⟩
        · exact ⟨_, w, run_append_nothing w t ty e i ht hi _ _ _, .inl (by simpa using hown), Below.refl _ _⟩
        · refine ⟨_, w, ?_, .inl (by simpa using hown), Below.refl _ _⟩
          simp [Builtin.append_, run_underlying ht, sizeOf, typeInfo, hi, Builtin.lenOf, Builtin.firstCells, hnc, storeCells]
      | some s =>
        obtain ⟨v', w', hr, ho, hg, _⟩ := run_append_own (P := P) w base t ty e i z i.size i.bytes ht hi hz rfl rfl hzs hsz v n xs hown s 0 c [] (by simp) (by simp) (by simp) h63 hbytes hbase
        refine ⟨v', w', hr, .inl ho, (Below.refl base w).grown hg hbase ?_⟩
        intro k hk
        exact (hown.lt k hk).1
    · exact ⟨_, w, run_append_nothing w t ty e i ht hi _ _ _, .inr ⟨rfl, rfl, a, rfl⟩, Below.refl _ _⟩
  · have hyne : ys ≠ [] := by
      rintro rfl
      rw [List.length_nil] at hl
      have := Nat.mul_pos (Nat.pos_of_ne_zero hm) hsz
      omega
    obtain ⟨s, rfl, hs⟩ := hys.add hyne
    rcases hown with hown | ⟨rfl, rfl, a, rfl⟩
    · obtain ⟨v', w', hr, ho, hg, _⟩ := run_append_own (P := P) w base t ty e i z i.size i.bytes ht hi hz rfl rfl hzs hsz v n xs hown s m c ys hl hs h1 h63 hbytes hbase
      exact ⟨v', w', hr, .inl ho, (Below.refl base w).grown hg hbase (fun k hk => (hown.lt k hk).1)⟩
    · have hr := run_append_grow (P := P) w t ty e i z ht hi hz a 0 0 [] (by simp) (by simp) s m c ys hl hs (by omega) (by simp only [maxLen] at h63; omega) (growslice_fits (by omega) hbytes)
      refine ⟨_, _, hr, .inl ⟨by simp [hl], .inr ⟨w.heap.size, _, _, rfl, hbase, heap_alloc_new w.drew _, grownCap_ge _ _ _ _, grownCap_le_maxLen _ _ _ _ h63, ?_, ?_⟩⟩, ?_⟩
      · have hge := grownCap_ge w (0 + m) 0 e
        simp only [Array.size_append, List.size_toArray, size_zeroCells, hzs, hl, List.length_nil, Nat.zero_add, ← Nat.add_mul]
        congr 1
        simp only [Nat.zero_add] at hge
        omega
      · simp only [Array.toList_append, List.nil_append, Nat.zero_add]
        rw [← hl]
        exact List.take_left
      · exact (((Below.refl base w).drew).alloc (by simpa using hbase) _)

variable {ops : Array Oper} {rest : List Oper} {o : Oper} {a : Act} {Q : Exit → Act → World → Prop}
theorem wpList_append_run {w w' : World} {v u v' : Value} (hgd : o.guard = none) (s x : Operand) (t : TypeId)
    (ho : o.op = .call { callee := .builtin .append, args := #[s, x], argTypes := #[t, t] }) (hs : a.eval s = v) (hx : a.eval x = u)
    (hr : (Builtin.append_ #[t, t] o.type #[v, u]).run P w = .ok v' w') (h : wpList P ops Q rest (a.put o.dst v') w') : wpList P ops Q (o :: rest) a w :=
  wpList_plain hgd fun K hK => by
    unfold Oper.wp execOp
    simp only [ho, resolve, invoke, builtin, Sem.run_bind, Sem.run_pure, Result.andThen_ok, List.map_toArray, List.map_cons, List.map_nil, hs, hx, hr]
    exact hK _ _ h
end
end Go.Proofs.Ytlegpbookbghbaa
