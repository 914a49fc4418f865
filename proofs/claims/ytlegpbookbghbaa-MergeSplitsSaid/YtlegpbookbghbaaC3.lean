/- The reader of a row of rings; no condition. -/
import Derived.Test.YtlegpbookbghbaaE3
import Derived.Test.YtlegpbookbghbaaJ0
set_option linter.unusedVariables false
set_option linter.unusedSimpArgs false
namespace Go.Proofs.Ytlegpbookbghbaa
open Go.RowKit Go.ChangeShapes Go.WideShapes Go.ChangeAt Go.Deep
set_option maxRecDepth 100000 in
theorem openRings {H : Type} {enc : TypeId × Value → H} {w : World} {base : Nat} {spare : Nat → Bool} {held : Bool} {r : Reach} {b0 : Nat} {v : Value} {d : DataW H} {ps : List MemPlace}
    (hv : Value.okWide Try.prog w r b0 80 v) (h : DataW.Trod enc Try.prog w base spare held 80 v d ps) :
    ∃ A c, ∃ l : List RingM, v = .slice A l.length c ∧ RingsR w A l := by
  obtain ⟨a, len, cap, rfl⟩ := okWide_slice Try.underlying80 hv
  obtain ⟨fuel, hf⟩ := h
  have c29 : Try.prog.cellsOf 29 = 9 := by kernel_rfl
  obtain ⟨A, c, l, he, -, h1, h2⟩ := readRow 80 29 9 RingM.cells ⟨⟨0, [], ent0⟩, none, 0⟩ Try.underlying80 c29 (by decide) (fun _ => rfl) (fun p => p.r.L.length ≤ p.c ∧ Rd w p.A (entCells p.r.L)) (fun _ _ _ h => by
    obtain ⟨A, c, r, e, k1, k2⟩ := readRing h
    exact ⟨⟨r, A, c⟩, e, k1, k2⟩) hf
  simp [Value.cells] at he
  obtain ⟨rfl, rfl, rfl⟩ := he
  exact ⟨a, cap, l, rfl, h1, h2⟩
end Go.Proofs.Ytlegpbookbghbaa
