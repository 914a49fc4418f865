/- The rings' plain functions (no program in sight): entries, gaps, rings, put, take, all; no condition. -/
import Derived.Below
namespace Go.Proofs.Ytlegpbookbghbaa

def inB (n lo hi : Int) : Bool := decide (lo ≤ n) && decide (n ≤ hi)
structure Ev where
  sq : Int
  tk : Int
  pt : Int
  kd : Int
  a : Int
  b : Int
deriving DecidableEq
structure Ent where
  st : Int
  e : Ev
deriving DecidableEq
structure RingS where
  room : Int
  L : List Ent
  gap : Ent
deriving DecidableEq
def ev0 : Ev := ⟨0, 0, 0, 0, 0, 0⟩
def ent0 : Ent := ⟨0, ev0⟩
def ring0 : RingS := ⟨0, [], ent0⟩
def Ent.cells (x : Ent) : List Value := [.int .u64 x.st, .int .u64 x.e.sq, .int .i64 x.e.tk, .int .i64 x.e.pt, .int .i64 x.e.kd, .int .i64 x.e.a, .int .i64 x.e.b]
def entCells (l : List Ent) : List Value := l.flatMap Ent.cells
theorem Ent.cells_length (x : Ent) : x.cells.length = 7 := rfl
theorem entCells_length (l : List Ent) : (entCells l).length = l.length * 7 := by
  induction l with
  | nil => rfl
  | cons x l ih => rw [entCells, List.flatMap_cons, List.length_append, Ent.cells_length, ← entCells, ih, List.length_cons]; omega
theorem entCells_append (l m : List Ent) : entCells (l ++ m) = entCells l ++ entCells m := by simp [entCells]
theorem entCells_one (l : List Ent) : ∀ u ∈ entCells l, u.oneCell' = true := by
  intro u hu
  obtain ⟨x, _, hx⟩ := List.mem_flatMap.1 hu
  simp only [Ent.cells, List.mem_cons, List.not_mem_nil, or_false] at hx
  rcases hx with rfl | rfl | rfl | rfl | rfl | rfl | rfl <;> rfl
theorem entCells_get (l : List Ent) (i : Nat) (h : i < l.length) (j : Nat) (hj : j < 7) : (entCells l)[i * 7 + j]? = (l[i]'h).cells[j]? := by
  induction l generalizing i with
  | nil => simp at h
  | cons x l ih =>
    show (x.cells ++ entCells l)[i * 7 + j]? = _
    cases i with
    | zero => rw [List.getElem?_append_left (by rw [Ent.cells_length]; omega)]; simp
    | succ i =>
      rw [List.getElem?_append_right (by rw [Ent.cells_length]; omega), Ent.cells_length]
      have := ih i (by simpa using h)
      rw [show (i + 1) * 7 + j - 7 = i * 7 + j by omega, this]
      simp
theorem entCells_drop (l : List Ent) (k : Nat) : (entCells l).drop (k * 7) = entCells (l.drop k) := by
  induction k generalizing l with
  | zero => simp
  | succ k ih =>
    cases l with
    | nil => simp [entCells]
    | cons x l =>
      show (x.cells ++ entCells l).drop ((k + 1) * 7) = entCells (l.drop k)
      rw [← ih l, List.drop_append, Ent.cells_length, List.drop_eq_nil_of_le (by rw [Ent.cells_length]; omega), show (k + 1) * 7 - 7 = k * 7 by omega, List.nil_append]

def ringVal (A : Option Addr) (c : Nat) (r : RingS) : Value := .agg #[.int .i64 r.room, .slice A r.L.length c, .int .u64 r.gap.st, .int .u64 r.gap.e.sq, .int .i64 r.gap.e.tk, .int .i64 r.gap.e.pt, .int .i64 r.gap.e.kd, .int .i64 r.gap.e.a, .int .i64 r.gap.e.b]
def entVal (x : Ent) : Value := .agg #[.int .u64 x.st, .int .u64 x.e.sq, .int .i64 x.e.tk, .int .i64 x.e.pt, .int .i64 x.e.kd, .int .i64 x.e.a, .int .i64 x.e.b]
def evIs (e : Ev) : Bool := inB e.kd 1 8 && (inB e.tk 0 1099511627776 && (inB e.pt (-1) 31 && (inB e.a 0 4294967295 && inB e.b 0 4294967295)))
def gapB (x : Ent) : Bool := evIs x.e && (x.e.kd == 7 && (decide (1 ≤ x.e.a) && (x.e.sq == 0 && x.e.b == 0)))
def isGap (x : Ent) : Bool := decide (x = ent0) || gapB x
def roomB (n : Int) : Bool := inB n 2 64
def ringIsN (room : Int) (n : Nat) (gap : Ent) : Bool := roomB room && (decide ((n : Int) ≤ room) && isGap gap)
def ringIs (r : RingS) : Bool := ringIsN r.room r.L.length r.gap
def hasGap (r : RingS) : Bool := r.gap.e.a != 0

def newS (room : Int) : RingS × Int := if roomB room then (⟨room, [], ent0⟩, 0) else (ring0, 2)
def newGap (x : Ent) : Ent := ⟨x.st, ⟨0, x.e.tk, x.e.pt, 7, 1, 0⟩⟩
def bump (g : Ent) : Ent := ⟨g.st, ⟨g.e.sq, g.e.tk, g.e.pt, g.e.kd, min (g.e.a + 1) 4294967295, g.e.b⟩⟩
def putS (r : RingS) (x : Ent) : RingS × Int :=
  if ringIs r && evIs x.e then
    if hasGap r then
      if (r.L.length : Int) + 2 ≤ r.room then (⟨r.room, r.L ++ [r.gap, x], ent0⟩, 0) else (⟨r.room, r.L, bump r.gap⟩, 0)
    else if (r.L.length : Int) + 1 ≤ r.room then (⟨r.room, r.L ++ [x], r.gap⟩, 0) else (⟨r.room, r.L, newGap x⟩, 0)
  else (ring0, 1)
def headS (r : RingS) : Int × Bool :=
  if ringIs r then
    match r.L with
    | x :: _ => (x.st, true)
    | [] => if hasGap r then (r.gap.st, true) else (0, false)
  else (0, false)
def takeS (r : RingS) : Ent × RingS × Bool :=
  if ringIs r then
    match r.L with
    | x :: l => (x, ⟨r.room, l, r.gap⟩, true)
    | [] => if hasGap r then (r.gap, ⟨r.room, [], ent0⟩, true) else (ent0, r, false)
  else (ent0, r, false)
def allS (r : RingS) : List Ent := if ringIs r then (if hasGap r then r.L ++ [r.gap] else r.L) else []

def entEq (x0 y0 x1 y1 x2 y2 x3 y3 x4 y4 x5 y5 x6 y6 : Int) : Bool := x0 == y0 && (x1 == y1 && (x2 == y2 && (x3 == y3 && (x4 == y4 && (x5 == y5 && x6 == y6)))))
def evEq (x1 y1 x2 y2 x3 y3 x4 y4 x5 y5 x6 y6 : Int) : Bool := (x1 == y1 && (x2 == y2 && (x3 == y3 && (x4 == y4 && (x5 == y5 && x6 == y6)))))
theorem entEq_iff (x0 y0 x1 y1 x2 y2 x3 y3 x4 y4 x5 y5 x6 y6 : Int) :
    entEq x0 y0 x1 y1 x2 y2 x3 y3 x4 y4 x5 y5 x6 y6 = decide ((⟨x0, ⟨x1, x2, x3, x4, x5, x6⟩⟩ : Ent) = ⟨y0, ⟨y1, y2, y3, y4, y5, y6⟩⟩) := by
  rw [Bool.eq_iff_iff]
  simp [entEq]
end Go.Proofs.Ytlegpbookbghbaa
