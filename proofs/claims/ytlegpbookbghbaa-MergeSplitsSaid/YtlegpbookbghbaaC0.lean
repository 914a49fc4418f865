/- The readers: what cells that read as an entry, a row of entries or a ring look like; no condition. -/
import Derived.Test.YtlegpbookbghbaaA0
import Derived.Test.YtlegpbookbghbaaA1
import Derived.ProofKit
import Derived.OpenShut
import Derived.Deep.Slices
import Derived.ChangeOld
set_option linter.unusedVariables false
set_option linter.unusedSimpArgs false
namespace Go.Proofs.Ytlegpbookbghbaa
open Go.RowKit Go.ChangeShapes Go.WideShapes Go.Deep

theorem cellAt1 {cs : List Value} {i : Nat} {v : Value} (h : (cs.drop i).take 1 = [v]) : cs[i]? = some v := by
  have : ((cs.drop i).take 1)[0]? = some v := by rw [h]; rfl
  simpa [List.getElem?_take, List.getElem?_drop] using this

theorem len6 {cs : List Value} (h : cs.length = 6) : ∃ a0 a1 a2 a3 a4 a5, cs = [a0, a1, a2, a3, a4, a5] := by
  match cs, h with
  | [a0, a1, a2, a3, a4, a5], _ => exact ⟨_, _, _, _, _, _, rfl⟩
theorem len7 {cs : List Value} (h : cs.length = 7) : ∃ a0 a1 a2 a3 a4 a5 a6, cs = [a0, a1, a2, a3, a4, a5, a6] := by
  match cs, h with
  | [a0, a1, a2, a3, a4, a5, a6], _ => exact ⟨_, _, _, _, _, _, _, rfl⟩
theorem len9 {cs : List Value} (h : cs.length = 9) : ∃ a0 a1 a2 a3 a4 a5 a6 a7 a8, cs = [a0, a1, a2, a3, a4, a5, a6, a7, a8] := by
  match cs, h with
  | [a0, a1, a2, a3, a4, a5, a6, a7, a8], _ => exact ⟨_, _, _, _, _, _, _, _, _, rfl⟩
section
variable {H : Type} {enc : TypeId × Value → H} {w : World} {base : Nat} {spare : Nat → Bool} {held : Bool}

theorem readEv {fuel : Nat} {cs : List Value} {x : DataW H × List MemPlace} (h : DataW.trod enc Try.prog w base spare held fuel 25 cs = some x) :
    ∃ e : Ev, cs = [.int .u64 e.sq, .int .i64 e.tk, .int .i64 e.pt, .int .i64 e.kd, .int .i64 e.a, .int .i64 e.b] := by
  obtain ⟨xs, n, -, -, hlen, hx, hf⟩ := DataW.trod_struct Try.underlying25 h
  have c25 : Try.prog.cellsOf 25 = 6 := by kernel_rfl
  have c23 : Try.prog.cellsOf 23 = 1 := by kernel_rfl
  have c3 : Try.prog.cellsOf 3 = 1 := by kernel_rfl
  rw [c25] at hlen
  have hx6 : xs.length = 6 := hx
  obtain ⟨x0, h0⟩ : ∃ y, xs[0]? = some y := ⟨_, List.getElem?_eq_getElem (by omega)⟩
  obtain ⟨x1, h1⟩ : ∃ y, xs[1]? = some y := ⟨_, List.getElem?_eq_getElem (by omega)⟩
  obtain ⟨x2, h2⟩ : ∃ y, xs[2]? = some y := ⟨_, List.getElem?_eq_getElem (by omega)⟩
  obtain ⟨x3, h3⟩ : ∃ y, xs[3]? = some y := ⟨_, List.getElem?_eq_getElem (by omega)⟩
  obtain ⟨x4, h4⟩ : ∃ y, xs[4]? = some y := ⟨_, List.getElem?_eq_getElem (by omega)⟩
  obtain ⟨x5, h5⟩ : ∃ y, xs[5]? = some y := ⟨_, List.getElem?_eq_getElem (by omega)⟩
  have f0 : DataW.trod enc Try.prog w base spare held n 23 ((cs.drop 0).take (Try.prog.cellsOf 23)) = xs[0]? := hf 0 _ rfl
  have f1 : DataW.trod enc Try.prog w base spare held n 3 ((cs.drop 1).take (Try.prog.cellsOf 3)) = xs[1]? := hf 1 _ rfl
  have f2 : DataW.trod enc Try.prog w base spare held n 3 ((cs.drop 2).take (Try.prog.cellsOf 3)) = xs[2]? := hf 2 _ rfl
  have f3 : DataW.trod enc Try.prog w base spare held n 3 ((cs.drop 3).take (Try.prog.cellsOf 3)) = xs[3]? := hf 3 _ rfl
  have f4 : DataW.trod enc Try.prog w base spare held n 3 ((cs.drop 4).take (Try.prog.cellsOf 3)) = xs[4]? := hf 4 _ rfl
  have f5 : DataW.trod enc Try.prog w base spare held n 3 ((cs.drop 5).take (Try.prog.cellsOf 3)) = xs[5]? := hf 5 _ rfl
  rw [c23] at f0
  rw [c3] at f1 f2 f3 f4 f5
  rw [h0] at f0
  rw [h1] at f1
  rw [h2] at f2
  rw [h3] at f3
  rw [h4] at f4
  rw [h5] at f5
  obtain ⟨n0, e0, -, -⟩ := DataW.trod_int Try.underlying23 f0
  obtain ⟨n1, e1, -, -⟩ := DataW.trod_int Try.underlying3 f1
  obtain ⟨n2, e2, -, -⟩ := DataW.trod_int Try.underlying3 f2
  obtain ⟨n3, e3, -, -⟩ := DataW.trod_int Try.underlying3 f3
  obtain ⟨n4, e4, -, -⟩ := DataW.trod_int Try.underlying3 f4
  obtain ⟨n5, e5, -, -⟩ := DataW.trod_int Try.underlying3 f5
  refine ⟨⟨n0, n1, n2, n3, n4, n5⟩, ?_⟩
  have g0 := cellAt1 e0
  have g1 := cellAt1 e1
  have g2 := cellAt1 e2
  have g3 := cellAt1 e3
  have g4 := cellAt1 e4
  have g5 := cellAt1 e5
  obtain ⟨a0, a1, a2, a3, a4, a5, rfl⟩ := len6 hlen
  simp at g0 g1 g2 g3 g4 g5
  simp [g0, g1, g2, g3, g4, g5]

theorem readEnt {fuel : Nat} {cs : List Value} {x : DataW H × List MemPlace} (h : DataW.trod enc Try.prog w base spare held fuel 27 cs = some x) : ∃ e : Ent, cs = e.cells := by
  obtain ⟨xs, n, -, -, hlen, hx, hf⟩ := DataW.trod_struct Try.underlying27 h
  have c27 : Try.prog.cellsOf 27 = 7 := by kernel_rfl
  have c25 : Try.prog.cellsOf 25 = 6 := by kernel_rfl
  have c23 : Try.prog.cellsOf 23 = 1 := by kernel_rfl
  rw [c27] at hlen
  have hx2 : xs.length = 2 := hx
  obtain ⟨x0, h0⟩ : ∃ y, xs[0]? = some y := ⟨_, List.getElem?_eq_getElem (by omega)⟩
  obtain ⟨x1, h1⟩ : ∃ y, xs[1]? = some y := ⟨_, List.getElem?_eq_getElem (by omega)⟩
  have f0 : DataW.trod enc Try.prog w base spare held n 23 ((cs.drop 0).take (Try.prog.cellsOf 23)) = xs[0]? := hf 0 _ rfl
  have f1 : DataW.trod enc Try.prog w base spare held n 25 ((cs.drop 1).take (Try.prog.cellsOf 25)) = xs[1]? := hf 1 _ rfl
  rw [c23] at f0
  rw [c25] at f1
  rw [h0] at f0
  rw [h1] at f1
  obtain ⟨n0, e0, -, -⟩ := DataW.trod_int Try.underlying23 f0
  obtain ⟨ev, e1⟩ := readEv f1
  refine ⟨⟨n0, ev⟩, ?_⟩
  have g0 := cellAt1 e0
  obtain ⟨a0, a1, a2, a3, a4, a5, a6, rfl⟩ := len7 hlen
  simp at g0 e1
  simp [g0, e1, Ent.cells]

theorem spotNone {a : Addr} {v : Value} (h : w.cell? a = some v) : a.spot = none := by
  unfold World.cell? at h
  split at h
  · split at h
    · cases h
    · rename_i hs
      simpa using hs
  · cases h

theorem readEnts {fuel : Nat} {cs : List Value} {x : DataW H × List MemPlace} (h : DataW.trod enc Try.prog w base spare held fuel 22 cs = some x) :
    ∃ A c, ∃ es : List Ent, cs = [.slice A es.length c] ∧ es.length ≤ c ∧ Rd w A (entCells es) := by
  have c27 : Try.prog.cellsOf 27 = 7 := by kernel_rfl
  rcases open_slice Try.underlying22 h with ⟨rfl, _⟩ | ⟨a, len, cap, m, n, D, Pl, rfl, hb, hl, hm, hmm, -, hel⟩
  · exact ⟨none, 0, [], rfl, Nat.le_refl _, Rd.nil _ _⟩
  · rw [c27] at hel
    have hlm : len ≤ m := by rw [hmm]; split <;> omega
    have hex : ∀ i, i < len → ∃ e : Ent, w.cells? base (a.add (i * 7)) 7 = some e.cells := fun i hi => by
      obtain ⟨cs', h1, h2⟩ := hel i (by omega)
      obtain ⟨e, rfl⟩ := readEnt h2
      exact ⟨e, h1⟩
    classical
    let f : Nat → Ent := fun i => if hi : i < len then Classical.choose (hex i hi) else ent0
    have hf : ∀ i, i < len → w.cells? base (a.add (i * 7)) 7 = some (f i).cells := fun i hi => by
      show _ = some (if hi : i < len then Classical.choose (hex i hi) else ent0).cells
      rw [dif_pos hi]
      exact Classical.choose_spec (hex i hi)
    refine ⟨some a, cap, (List.range len).map f, by simp, by simpa using hl, ?_⟩
    by_cases h0 : len = 0
    · subst h0
      exact .inl rfl
    · have hz := (World.cells?_some (hf 0 (by omega))).2.2 0 (by omega)
      have hz' : w.cell? (a.add 0) = some (.int .u64 (f 0).st) := by simpa [Addr.add, Ent.cells] using hz
      have hs : a.spot = none := by
        have := spotNone hz'
        simpa [Addr.add] using this
      obtain ⟨b, o, sp⟩ := a
      simp only at hs
      subst hs
      refine .inr ⟨b, o, rfl, fun j u hu => ?_⟩
      have hj : j < (entCells ((List.range len).map f)).length := (List.getElem?_eq_some_iff.1 hu).1
      rw [entCells_length] at hj
      have hj2 : j / 7 < len := by simp at hj; omega
      have hj3 : j % 7 < 7 := Nat.mod_lt _ (by decide)
      have hjj : j = j / 7 * 7 + j % 7 := by omega
      rw [hjj, entCells_get _ (j / 7) (by simpa using hj2) (j % 7) hj3] at hu
      have := (World.cells?_some (hf (j / 7) hj2)).2.2 (j % 7) hj3
      have hu' : (f (j / 7)).cells[j % 7]? = some u := by simpa using hu
      rw [hu'] at this
      have ha : ((⟨b, o, none⟩ : Addr).add (j / 7 * 7)).add (j % 7) = ⟨b, o + j, none⟩ := by
        unfold Addr.add
        by_cases h1 : j / 7 * 7 = 0 <;> by_cases h2 : j % 7 = 0 <;> simp [h1, h2] <;> omega
      rwa [ha] at this

theorem readRing {fuel : Nat} {cs : List Value} {x : DataW H × List MemPlace} (h : DataW.trod enc Try.prog w base spare held fuel 29 cs = some x) :
    ∃ A c, ∃ r : RingS, cs = [.int .i64 r.room, .slice A r.L.length c, .int .u64 r.gap.st, .int .u64 r.gap.e.sq, .int .i64 r.gap.e.tk, .int .i64 r.gap.e.pt, .int .i64 r.gap.e.kd, .int .i64 r.gap.e.a, .int .i64 r.gap.e.b] ∧ r.L.length ≤ c ∧ Rd w A (entCells r.L) := by
  obtain ⟨xs, n, -, -, hlen, hx, hf⟩ := DataW.trod_struct Try.underlying29 h
  have c29 : Try.prog.cellsOf 29 = 9 := by kernel_rfl
  have c27 : Try.prog.cellsOf 27 = 7 := by kernel_rfl
  have c22 : Try.prog.cellsOf 22 = 1 := by kernel_rfl
  have c3 : Try.prog.cellsOf 3 = 1 := by kernel_rfl
  rw [c29] at hlen
  have hx3 : xs.length = 3 := hx
  obtain ⟨x0, h0⟩ : ∃ y, xs[0]? = some y := ⟨_, List.getElem?_eq_getElem (by omega)⟩
  obtain ⟨x1, h1⟩ : ∃ y, xs[1]? = some y := ⟨_, List.getElem?_eq_getElem (by omega)⟩
  obtain ⟨x2, h2⟩ : ∃ y, xs[2]? = some y := ⟨_, List.getElem?_eq_getElem (by omega)⟩
  have f0 : DataW.trod enc Try.prog w base spare held n 3 ((cs.drop 0).take (Try.prog.cellsOf 3)) = xs[0]? := hf 0 _ rfl
  have f1 : DataW.trod enc Try.prog w base spare held n 22 ((cs.drop 1).take (Try.prog.cellsOf 22)) = xs[1]? := hf 1 _ rfl
  have f2 : DataW.trod enc Try.prog w base spare held n 27 ((cs.drop 2).take (Try.prog.cellsOf 27)) = xs[2]? := hf 2 _ rfl
  rw [c3] at f0
  rw [c22] at f1
  rw [c27] at f2
  rw [h0] at f0
  rw [h1] at f1
  rw [h2] at f2
  obtain ⟨n0, e0, -, -⟩ := DataW.trod_int Try.underlying3 f0
  obtain ⟨A, c, es, e1, hc, hR⟩ := readEnts f1
  obtain ⟨g, e2⟩ := readEnt f2
  refine ⟨A, c, ⟨n0, es, g⟩, ?_, hc, hR⟩
  have g0 := cellAt1 e0
  have g1 := cellAt1 e1
  obtain ⟨a0, a1, a2, a3, a4, a5, a6, a7, a8, rfl⟩ := len9 hlen
  simp [Ent.cells] at g0 g1 e2
  simp [g0, g1, e2]

set_option maxRecDepth 100000 in
theorem openEnt {r : Reach} {b0 : Nat} {v : Value} {d : DataW H} {ps : List MemPlace} (hv : Value.okWide Try.prog w r b0 27 v) (h : DataW.Trod enc Try.prog w base spare held 27 v d ps) : ∃ e : Ent, v = entVal e := by
  obtain ⟨cs, rfl, hsz⟩ := okWide_struct Try.underlying27 hv
  obtain ⟨fuel, hf⟩ := h
  obtain ⟨e, he⟩ := readEnt hf
  refine ⟨e, ?_⟩
  have : cs.toList = e.cells := he
  show Value.agg cs = .agg e.cells.toArray
  rw [← this]
set_option maxRecDepth 100000 in
theorem openRing {r : Reach} {b0 : Nat} {v : Value} {d : DataW H} {ps : List MemPlace} (hv : Value.okWide Try.prog w r b0 29 v) (h : DataW.Trod enc Try.prog w base spare held 29 v d ps) :
    ∃ A c, ∃ r : RingS, v = ringVal A c r ∧ r.L.length ≤ c ∧ Rd w A (entCells r.L) := by
  obtain ⟨cs, rfl, hsz⟩ := okWide_struct Try.underlying29 hv
  obtain ⟨fuel, hf⟩ := h
  obtain ⟨A, c, r, he, h1, h2⟩ := readRing hf
  refine ⟨A, c, r, ?_, h1, h2⟩
  have : cs.toList = _ := he
  show Value.agg cs = .agg (List.toArray _)
  rw [← this]
end
end Go.Proofs.Ytlegpbookbghbaa
