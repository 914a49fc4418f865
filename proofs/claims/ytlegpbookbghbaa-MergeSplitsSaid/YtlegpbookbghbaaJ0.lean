/- Rows of rings in memory: one that is read, one of the call's own; no condition. -/
import Derived.Test.YtlegpbookbghbaaB3
import Derived.Deep.MidRow
set_option linter.unusedVariables false
set_option linter.unusedSimpArgs false
namespace Go.Proofs.Ytlegpbookbghbaa
open Go.RowKit

/-- A ring with the place of its entries. -/
structure RingM where
  r : RingS
  A : Option Addr
  c : Nat
def RingM.cells (p : RingM) : List Value := [.int .i64 p.r.room, .slice p.A p.r.L.length p.c, .int .u64 p.r.gap.st, .int .u64 p.r.gap.e.sq, .int .i64 p.r.gap.e.tk, .int .i64 p.r.gap.e.pt, .int .i64 p.r.gap.e.kd, .int .i64 p.r.gap.e.a, .int .i64 p.r.gap.e.b]
def rgCells (l : List RingM) : List Value := l.flatMap RingM.cells
def rings (l : List RingM) : List RingS := l.map RingM.r
theorem RingM.cells_length (p : RingM) : p.cells.length = 9 := rfl
theorem rgCells_length (l : List RingM) : (rgCells l).length = l.length * 9 := by
  induction l with
  | nil => rfl
  | cons x l ih => rw [rgCells, List.flatMap_cons, List.length_append, RingM.cells_length, ← rgCells, ih, List.length_cons]; omega
theorem rgCells_append (l m : List RingM) : rgCells (l ++ m) = rgCells l ++ rgCells m := by simp [rgCells]
theorem rgCells_one (l : List RingM) : ∀ u ∈ rgCells l, u.oneCell' = true := by
  intro u hu
  obtain ⟨x, _, hx⟩ := List.mem_flatMap.1 hu
  simp only [RingM.cells, List.mem_cons, List.not_mem_nil, or_false] at hx
  rcases hx with rfl | rfl | rfl | rfl | rfl | rfl | rfl | rfl | rfl <;> rfl
theorem rgCells_get (l : List RingM) (i : Nat) (h : i < l.length) (j : Nat) (hj : j < 9) : (rgCells l)[i * 9 + j]? = (l[i]'h).cells[j]? := by
  induction l generalizing i with
  | nil => simp at h
  | cons x l ih =>
    show (x.cells ++ rgCells l)[i * 9 + j]? = _
    cases i with
    | zero => rw [List.getElem?_append_left (by rw [RingM.cells_length]; omega)]; simp
    | succ i =>
      rw [List.getElem?_append_right (by rw [RingM.cells_length]; omega), RingM.cells_length]
      have := ih i (by simpa using h)
      rw [show (i + 1) * 9 + j - 9 = i * 9 + j by omega, this]
      simp
/-- A row of rings that is read. -/
def RingsR (w : World) (A : Option Addr) (l : List RingM) : Prop := Rd w A (rgCells l) ∧ ∀ p ∈ l, p.r.L.length ≤ p.c ∧ Rd w p.A (entCells p.r.L)
theorem RingsR.below {w w1 : World} {A : Option Addr} {l : List RingM} (h : RingsR w A l) (hb : Below w.heap.size w w1) : RingsR w1 A l :=
  ⟨h.1.below hb, fun p hp => ⟨(h.2 p hp).1, (h.2 p hp).2.below hb⟩⟩
theorem RingsR.nil (w : World) (A : Option Addr) : RingsR w A [] := ⟨Rd.nil _ _, fun p hp => by cases hp⟩
/-- The nine cells of ring k. -/
theorem Rd.ring {w : World} {A : Option Addr} {l : List RingM} (h : Rd w A (rgCells l)) (k : Nat) (hk : k < l.length) : ∃ b o, A = some ⟨b, o, none⟩ ∧ ∀ j u, l[k].cells[j]? = some u → w.cell? ⟨b, o + k * 9 + j, none⟩ = some u := by
  have h0 : (rgCells l)[k * 9 + 0]? = some (.int .i64 l[k].r.room) := by rw [rgCells_get l k hk 0 (by decide)]; rfl
  obtain ⟨b, o, rfl, hc⟩ := h.at_ h0
  refine ⟨b, o, rfl, fun j u hu => ?_⟩
  have hj : j < 9 := (List.getElem?_eq_some_iff.1 hu).1
  have := hc (k * 9 + j) u (by rw [rgCells_get l k hk j hj]; exact hu)
  rwa [← Nat.add_assoc] at this
/-- Such cells, not in block g. -/
def RdX (w : World) (g : Nat) (A : Option Addr) (cs : List Value) : Prop :=
  cs = [] ∨ ∃ b o, A = some ⟨b, o, none⟩ ∧ b ≠ g ∧ ∀ j u, cs[j]? = some u → w.cell? ⟨b, o + j, none⟩ = some u
theorem RdX.rd {w : World} {g : Nat} {A : Option Addr} {cs : List Value} (h : RdX w g A cs) : Rd w A cs := by
  rcases h with rfl | ⟨b, o, h1, h2, h3⟩
  · exact .inl rfl
  · exact .inr ⟨b, o, h1, h3⟩
theorem RdX.below {w w1 : World} {g : Nat} {A : Option Addr} {cs : List Value} (h : RdX w g A cs) (hb : Below w.heap.size w w1) : RdX w1 g A cs := by
  rcases h with rfl | ⟨b, o, rfl, h2, h3⟩
  · exact .inl rfl
  · refine .inr ⟨b, o, rfl, h2, fun j u hu => ?_⟩
    have := h3 j u hu
    exact (hb.cell (World.block_lt_of_cell? w _ this)).trans this
theorem RdX.sets {w : World} {g : Nat} {A : Option Addr} {cs : List Value} (h : RdX w g A cs) (o' : Nat) (vs : List Value) : RdX (w.setCells g o' vs) g A cs := by
  rcases h with rfl | ⟨b, o, rfl, h2, h3⟩
  · exact .inl rfl
  · exact .inr ⟨b, o, rfl, h2, fun j u hu => by rw [World.cell?_setCells_out g vs o' w _ (fun hb => absurd hb h2)]; exact h3 j u hu⟩
theorem RdX.set {w : World} {g : Nat} {A : Option Addr} {cs : List Value} (h : RdX w g A cs) (o' : Nat) (v : Value) : RdX (w.setCell ⟨g, o', none⟩ v) g A cs := h.sets o' [v]
theorem RdN.rdx {w : World} {B g : Nat} {A : Option Addr} {cs : List Value} (h : RdN w B A cs) (hg : g < B) : RdX w g A cs := by
  rcases h with rfl | ⟨b, o, h1, h2, h3⟩
  · exact .inl rfl
  · exact .inr ⟨b, o, h1, by omega, h3⟩
theorem Rd.rdx {w : World} {g : Nat} {A : Option Addr} {cs : List Value} (h : Rd w A cs) (hg : w.heap.size ≤ g) : RdX w g A cs := by
  rcases h with rfl | ⟨b, o, h1, h3⟩
  · exact .inl rfl
  · cases cs with
    | nil => exact .inl rfl
    | cons c cs => exact .inr ⟨b, o, h1, by have := World.block_lt_of_cell? w _ (h3 0 c rfl); exact fun e => by subst e; exact absurd this (Nat.not_lt.2 hg), h3⟩
/-- Block g bears these rings, and may be written; their entries lie elsewhere. -/
def OwnG (w : World) (g : Nat) (l : List RingM) : Prop :=
  (∀ j u, (rgCells l)[j]? = some u → w.cell? ⟨g, j, none⟩ = some u) ∧ (∀ j, w.frozen? ⟨g, j, none⟩ = false) ∧ g < w.heap.size ∧ ∀ p ∈ l, p.r.L.length ≤ p.c ∧ RdX w g p.A (entCells p.r.L)
theorem OwnG.below {w w1 : World} {g : Nat} {l : List RingM} (h : OwnG w g l) (hb : Below w.heap.size w w1) : OwnG w1 g l :=
  ⟨fun j u hu => (hb.cell (p := ⟨g, j, none⟩) h.2.2.1).trans (h.1 j u hu), fun j => (hb.frozen (p := ⟨g, j, none⟩) h.2.2.1).trans (h.2.1 j), Nat.lt_of_lt_of_le h.2.2.1 hb.size, fun p hp => ⟨(h.2.2.2 p hp).1, (h.2.2.2 p hp).2.below hb⟩⟩
theorem OwnG.rings {w : World} {g : Nat} {l : List RingM} (h : OwnG w g l) : RingsR w (some ⟨g, 0, none⟩) l :=
  ⟨.inr ⟨g, 0, rfl, fun j u hu => by rw [Nat.zero_add]; exact h.1 j u hu⟩, fun p hp => ⟨(h.2.2.2 p hp).1, (h.2.2.2 p hp).2.rd⟩⟩
theorem OwnG.cell {w : World} {g : Nat} {l : List RingM} (h : OwnG w g l) (k : Nat) (hk : k < l.length) : ∀ j u, l[k].cells[j]? = some u → w.cell? ⟨g, k * 9 + j, none⟩ = some u := fun j u hu => by
  have hj : j < 9 := (List.getElem?_eq_some_iff.1 hu).1
  exact h.1 _ _ (by rw [rgCells_get l k hk j hj]; exact hu)
theorem OwnG.there {w : World} {g : Nat} {l : List RingM} (h : OwnG w g l) (k : Nat) (hk : k < l.length) : w.there g (k * 9) 9 := fun j hj => by
  obtain ⟨u, hu⟩ : ∃ u, l[k].cells[j]? = some u := ⟨_, List.getElem?_eq_getElem (show j < (l[k].cells).length from hj)⟩
  exact ⟨by rw [h.cell k hk j u hu]; rfl, h.2.1 _⟩
theorem rgCells_set_get (l : List RingM) (k : Nat) (hk : k < l.length) (p : RingM) (j : Nat) : (rgCells (l.set k p))[j]? = if k * 9 ≤ j ∧ j < k * 9 + 9 then p.cells[j - k * 9]? else (rgCells l)[j]? := by
  by_cases hj : j < l.length * 9
  · have hj2 : j / 9 < l.length := by omega
    have hj3 : j % 9 < 9 := Nat.mod_lt _ (by decide)
    have e : j = j / 9 * 9 + j % 9 := by omega
    have h1 := rgCells_get (l.set k p) (j / 9) (by simpa using hj2) (j % 9) hj3
    have h2 := rgCells_get l (j / 9) hj2 (j % 9) hj3
    rw [← e] at h1 h2
    rw [h1, h2]
    by_cases hkj : k = j / 9
    · rw [if_pos (by omega)]
      simp only [List.getElem_set, hkj, if_true]
      congr 1
      omega
    · rw [if_neg (by omega)]
      simp only [List.getElem_set, hkj, if_false]
  · rw [if_neg (by omega), List.getElem?_eq_none (by rw [rgCells_length, List.length_set]; omega), List.getElem?_eq_none (by rw [rgCells_length]; omega)]
theorem setCells_size (g : Nat) : ∀ (vs : List Value) (o : Nat) (w : World), (w.setCells g o vs).heap.size = w.heap.size
  | [], _, _ => rfl
  | v :: r, o, w => by rw [World.setCells, setCells_size g r]; simp
/-- A ring is stored. -/
theorem OwnG.store {w : World} {g : Nat} {l : List RingM} (h : OwnG w g l) (k : Nat) (hk : k < l.length) (p : RingM) (hp : p.r.L.length ≤ p.c ∧ RdX w g p.A (entCells p.r.L)) : OwnG (w.setCells g (k * 9) p.cells) g (l.set k p) := by
  have ht := h.there k hk
  refine ⟨fun j u hu => ?_, fun j => by rw [World.frozen?_setCells]; exact h.2.1 j, by rw [setCells_size]; exact h.2.2.1, fun q hq => ?_⟩
  · rw [rgCells_set_get l k hk] at hu
    split at hu
    · rename_i hr
      have hj9 : j - k * 9 < 9 := by omega
      have e := World.cell?_setCells_in g p.cells (k * 9) w (fun i hi => (ht i hi).1) (j - k * 9) (by rw [RingM.cells_length]; exact hj9)
      rw [show k * 9 + (j - k * 9) = j by omega] at e
      rw [e, ← hu, List.getElem?_eq_getElem]
    · rename_i hr
      rw [World.cell?_setCells_out g _ _ w ⟨g, j, none⟩ (fun _ _ => by
        rw [RingM.cells_length]
        show j < k * 9 ∨ k * 9 + 9 ≤ j
        omega)]
      exact h.1 j u hu
  · rcases List.mem_or_eq_of_mem_set hq with hq | rfl
    · exact ⟨(h.2.2.2 q hq).1, (h.2.2.2 q hq).2.sets _ _⟩
    · exact ⟨hp.1, hp.2.sets _ _⟩
theorem setCells_one (w : World) (g o : Nat) (v : Value) : w.setCells g o [v] = w.setCell ⟨g, o, none⟩ v := rfl
/-- The place of a ring's entries is stored. -/
theorem OwnG.setL {w : World} {g : Nat} {l : List RingM} (h : OwnG w g l) (k : Nat) (hk : k < l.length) (A : Option Addr) (c : Nat) (hp : l[k].r.L.length ≤ c ∧ RdX w g A (entCells l[k].r.L)) : OwnG (w.setCell ⟨g, k * 9 + 1, none⟩ (.slice A l[k].r.L.length c)) g (l.set k ⟨l[k].r, A, c⟩) := by
  have h0 := h.cell k hk 1 _ rfl
  refine ⟨fun j u hu => ?_, fun j => by have := World.frozen?_setCells g [.slice A l[k].r.L.length c] (k * 9 + 1) w ⟨g, j, none⟩; rw [setCells_one] at this; rw [this]; exact h.2.1 j, by have := setCells_size g [.slice A l[k].r.L.length c] (k * 9 + 1) w; rw [setCells_one] at this; rw [this]; exact h.2.2.1, fun q hq => ?_⟩
  · rw [rgCells_set_get l k hk] at hu
    by_cases hj1 : j = k * 9 + 1
    · subst hj1
      rw [if_pos (by omega)] at hu
      rw [show k * 9 + 1 - k * 9 = 1 by omega] at hu
      have hu' : Value.slice A l[k].r.L.length c = u := by simpa [RingM.cells] using hu
      rw [World.cell?_setCell_same _ _ _ h0, hu']
    · have hold : w.cell? ⟨g, j, none⟩ = some u := by
        split at hu
        · rename_i hr
          have hk9 : (rgCells l)[j]? = l[k].cells[j - k * 9]? := by
            have := rgCells_get l k hk (j - k * 9) (by omega)
            rwa [show k * 9 + (j - k * 9) = j by omega] at this
          refine h.1 j u ?_
          rw [hk9, ← hu]
          have hj9 : j - k * 9 < 9 := by omega
          have hne : j - k * 9 ≠ 1 := by omega
          generalize j - k * 9 = i at hj9 hne
          match i, hj9, hne with
          | 0, _, _ | 2, _, _ | 3, _, _ | 4, _, _ | 5, _, _ | 6, _, _ | 7, _, _ | 8, _, _ => rfl
        · exact h.1 j u hu
      rw [World.cell?_setCell_other _ _ _ _ (fun e => hj1 (Addr.mk.inj e).2.1.symm)]
      exact hold
  · rcases List.mem_or_eq_of_mem_set hq with hq | rfl
    · exact ⟨(h.2.2.2 q hq).1, (h.2.2.2 q hq).2.set _ _⟩
    · exact ⟨hp.1, hp.2.set _ _⟩
/-- A row of the call's own, or none. -/
def RingsO (w : World) (B : Nat) (A : Option Addr) (l : List RingM) : Prop := l = [] ∨ ∃ g, A = some ⟨g, 0, none⟩ ∧ B ≤ g ∧ OwnG w g l
theorem RingsO.below {w w1 : World} {B : Nat} {A : Option Addr} {l : List RingM} (h : RingsO w B A l) (hb : Below w.heap.size w w1) : RingsO w1 B A l := by
  rcases h with rfl | ⟨g, rfl, h1, h2⟩
  · exact .inl rfl
  · exact .inr ⟨g, rfl, h1, h2.below hb⟩
theorem RingsO.rings {w : World} {B : Nat} {A : Option Addr} {l : List RingM} (h : RingsO w B A l) : RingsR w A l := by
  rcases h with rfl | ⟨g, rfl, h1, h2⟩
  · exact RingsR.nil _ _
  · exact h2.rings
end Go.Proofs.Ytlegpbookbghbaa
