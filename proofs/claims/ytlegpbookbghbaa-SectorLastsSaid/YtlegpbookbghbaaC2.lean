/- The readers of a row of whole numbers and of a row of bools; no condition. -/
import Derived.Test.YtlegpbookbghbaaA0
import Derived.ProofKit
import Derived.OpenShut
import Derived.Deep.Slices
import Derived.ChangeOld
set_option linter.unusedVariables false
set_option linter.unusedSimpArgs false
namespace Go.Proofs.Ytlegpbookbghbaa
open Go.RowKit Go.ChangeShapes Go.WideShapes Go.ChangeAt Go.Deep
theorem spotNoneG {w : World} {a : Addr} {v : Value} (h : w.cell? a = some v) : a.spot = none := by
  unfold World.cell? at h
  split at h
  · split at h
    · cases h
    · rename_i hs
      simpa using hs
  · cases h
set_option maxRecDepth 100000 in
theorem openIntsG {H : Type} {enc : TypeId × Value → H} {w : World} {base : Nat} {spare : Nat → Bool} {held : Bool} {r : Reach} {b0 : Nat} {v : Value} {d : DataW H} {ps : List MemPlace}
    (hv : Value.okWide Try.prog w r b0 38 v) (h : DataW.Trod enc Try.prog w base spare held 38 v d ps) :
    ∃ A c, ∃ l : List Int, v = .slice A l.length c ∧ l.length ≤ c ∧ c ≤ maxLen ∧ Rd w A (l.map (Value.int .i64)) ∧ ∀ n ∈ l, (Lit.int .i64 n).wf = true := by
  obtain ⟨a, len, cap, rfl⟩ := okWide_slice Try.underlying38 hv
  obtain ⟨fuel, hf⟩ := h
  rcases open_ints Try.underlying38 Try.underlying3 (by kernel_rfl) hf with ⟨hcs, _⟩ | ⟨x, n, m, zs, hcs, _, hl, hm, hz, _, hcell, hwz⟩
  · simp [Value.cells] at hcs
    obtain ⟨rfl, rfl, rfl⟩ := hcs
    exact ⟨none, 0, [], rfl, Nat.le_refl _, by decide, Rd.nil _ _, fun n hn => by cases hn⟩
  · simp [Value.cells] at hcs
    obtain ⟨rfl, rfl, rfl⟩ := hcs
    have hzl : len ≤ zs.length := by rw [hz]; split <;> omega
    have hlen : (zs.take len).length = len := by rw [List.length_take]; omega
    refine ⟨some x, cap, zs.take len, by rw [hlen], by rw [hlen]; exact hl, hm, ?_, fun n hn => hwz n (List.mem_of_mem_take hn)⟩
    by_cases h0 : len = 0
    · subst h0
      exact .inl rfl
    · have hz0 := hcell 0 (by omega)
      have hs : x.spot = none := by
        have := spotNoneG hz0
        simpa [Addr.add] using this
      obtain ⟨b, o, sp⟩ := x
      simp only at hs
      subst hs
      refine .inr ⟨b, o, rfl, fun j u hu => ?_⟩
      have hj : j < ((zs.take len).map (Value.int .i64)).length := (List.getElem?_eq_some_iff.1 hu).1
      rw [List.length_map, hlen] at hj
      have hc := hcell j (by omega)
      have hu' : u = .int .i64 (zs.getD j 0) := by
        rw [List.getElem?_map, List.getElem?_take, if_pos hj, List.getElem?_eq_getElem (by omega)] at hu
        simp only [Option.map_some, Option.some.injEq] at hu
        rw [← hu, List.getD_eq_getElem?_getD, List.getElem?_eq_getElem (by omega)]
        rfl
      rw [hu', ← hc]
      unfold Addr.add
      by_cases h1 : j = 0 <;> simp [h1]
set_option maxRecDepth 100000 in
theorem openBoolsG {H : Type} {enc : TypeId × Value → H} {w : World} {base : Nat} {spare : Nat → Bool} {held : Bool} {r : Reach} {b0 : Nat} {v : Value} {d : DataW H} {ps : List MemPlace}
    (hv : Value.okWide Try.prog w r b0 64 v) (h : DataW.Trod enc Try.prog w base spare held 64 v d ps) :
    ∃ A c, ∃ l : List Bool, v = .slice A l.length c ∧ l.length ≤ c ∧ c ≤ maxLen ∧ Rd w A (l.map Value.bool) := by
  obtain ⟨a, len, cap, rfl⟩ := okWide_slice Try.underlying64 hv
  obtain ⟨fuel, hf⟩ := h
  rcases open_slice1 Try.underlying64 (by kernel_rfl) hf with ⟨hcs, _⟩ | ⟨x, n, m, k, z, V, D, Pl, hcs, _, hl, hm, hmm, _, hel⟩
  · simp [Value.cells] at hcs
    obtain ⟨rfl, rfl, rfl⟩ := hcs
    exact ⟨none, 0, [], rfl, Nat.le_refl _, by decide, Rd.nil _ _⟩
  · simp [Value.cells] at hcs
    obtain ⟨rfl, rfl, rfl⟩ := hcs
    have hlm : len ≤ k := by rw [hmm]; split <;> omega
    have hex : ∀ i, i < len → ∃ q : Bool, w.cell? (x.add i) = some (.bool q) := fun i hi => by
      obtain ⟨h1, h2⟩ := hel i (by omega)
      obtain ⟨q, hq, _⟩ := DataW.trod_bool Try.underlying4 h2
      simp only [List.cons.injEq, and_true] at hq
      exact ⟨q, by rw [h1, hq]⟩
    classical
    let f : Nat → Bool := fun i => if hi : i < len then Classical.choose (hex i hi) else false
    have hf' : ∀ i, i < len → w.cell? (x.add i) = some (.bool (f i)) := fun i hi => by
      show _ = some (Value.bool (if hi : i < len then Classical.choose (hex i hi) else false))
      rw [dif_pos hi]
      exact Classical.choose_spec (hex i hi)
    refine ⟨some x, cap, (List.range len).map f, by simp, by simpa using hl, hm, ?_⟩
    by_cases h0 : len = 0
    · subst h0
      exact .inl rfl
    · have hz := hf' 0 (by omega)
      have hs : x.spot = none := by
        have := spotNoneG hz
        unfold Addr.add at this
        rw [if_pos rfl] at this
        exact this
      obtain ⟨b, o, sp⟩ := x
      simp only at hs
      subst hs
      refine .inr ⟨b, o, rfl, fun j u hu => ?_⟩
      have hj : j < (((List.range len).map f).map Value.bool).length := (List.getElem?_eq_some_iff.1 hu).1
      have hj2 : j < len := by simpa using hj
      have hc := hf' j hj2
      have hu' : u = Value.bool (f j) := by
        simp [hj2] at hu
        exact hu.symm
      rw [hu', ← hc]
      unfold Addr.add
      by_cases h1 : j = 0 <;> simp [h1]
end Go.Proofs.Ytlegpbookbghbaa
