/- The readers: what cells that read as a plan, a partition, a window or a channel look like; no condition. -/
import Derived.Test.YtlegpbookbghbaaC0
import Derived.Test.YtlegpbookbghbaaD1
set_option linter.unusedVariables false
set_option linter.unusedSimpArgs false
namespace Go.Proofs.Ytlegpbookbghbaa
open Go.RowKit Go.ChangeShapes Go.WideShapes Go.Deep
theorem len2 {cs : List Value} (h : cs.length = 2) : ∃ a0 a1, cs = [a0, a1] := by
  match cs, h with
  | [a0, a1], _ => exact ⟨_, _, rfl⟩
theorem len4 {cs : List Value} (h : cs.length = 4) : ∃ a0 a1 a2 a3, cs = [a0, a1, a2, a3] := by
  match cs, h with
  | [a0, a1, a2, a3], _ => exact ⟨_, _, _, _, rfl⟩
theorem len5 {cs : List Value} (h : cs.length = 5) : ∃ a0 a1 a2 a3 a4, cs = [a0, a1, a2, a3, a4] := by
  match cs, h with
  | [a0, a1, a2, a3, a4], _ => exact ⟨_, _, _, _, _, rfl⟩
theorem i64Of {n : Int} (h : (Lit.int .i64 n).wf = true) : I64 n := by
  simp only [Lit.wf, Bool.and_eq_true, decide_eq_true_eq] at h
  exact h
theorem flat_len {α : Type} (f : α → List Value) (n : Nat) (hf : ∀ a, (f a).length = n) (l : List α) : (l.flatMap f).length = l.length * n := by
  induction l with
  | nil => simp
  | cons a l ih => rw [List.flatMap_cons, List.length_append, hf, ih, List.length_cons, Nat.succ_mul]; omega
section
variable {H : Type} {enc : TypeId × Value → H} {w : World} {base : Nat} {spare : Nat → Bool} {held : Bool}
theorem readRow {α : Type} (s t : TypeId) (n : Nat) (f : α → List Value) (a0 : α) (hs : Try.prog.underlying s = some (.slice t)) (hc : Try.prog.cellsOf t = n) (hn : 0 < n) (hf : ∀ a, (f a).length = n) (Q : α → Prop)
    (hread : ∀ (fuel : Nat) (cs : List Value) (x : DataW H × List MemPlace), DataW.trod enc Try.prog w base spare held fuel t cs = some x → ∃ e, cs = f e ∧ Q e)
    {fuel : Nat} {cs : List Value} {x : DataW H × List MemPlace} (h : DataW.trod enc Try.prog w base spare held fuel s cs = some x) :
    ∃ A c, ∃ es : List α, cs = [.slice A es.length c] ∧ es.length ≤ c ∧ Rd w A (es.flatMap f) ∧ ∀ e ∈ es, Q e := by
  rcases open_slice hs h with ⟨rfl, _⟩ | ⟨a, len, cap, m, n', D, Pl, rfl, hb, hl, hm, hmm, -, hel⟩
  · exact ⟨none, 0, [], rfl, Nat.le_refl _, Rd.nil _ _, fun e he => by cases he⟩
  · rw [hc] at hel
    have hlm : len ≤ m := by rw [hmm]; split <;> omega
    have hex : ∀ i, i < len → ∃ e : α, w.cells? base (a.add (i * n)) n = some (f e) ∧ Q e := fun i hi => by
      obtain ⟨cs', h1, h2⟩ := hel i (by omega)
      obtain ⟨e, rfl, hq⟩ := hread _ _ _ h2
      exact ⟨e, h1, hq⟩
    classical
    let g : Nat → α := fun i => if hi : i < len then Classical.choose (hex i hi) else a0
    have hg : ∀ i, i < len → w.cells? base (a.add (i * n)) n = some (f (g i)) ∧ Q (g i) := fun i hi => by
      show _ = some (f (if hi : i < len then Classical.choose (hex i hi) else a0)) ∧ Q (if hi : i < len then Classical.choose (hex i hi) else a0)
      rw [dif_pos hi]
      exact Classical.choose_spec (hex i hi)
    refine ⟨some a, cap, (List.range len).map g, by simp, by simpa using hl, ?_, ?_⟩
    · by_cases h0 : len = 0
      · subst h0
        exact .inl rfl
      · have hz := (World.cells?_some (hg 0 (by omega)).1).2.2 0 hn
        have hl0 : 0 < (f (g 0)).length := by rw [hf]; exact hn
        obtain ⟨v0, h00⟩ : ∃ v0, (f (g 0))[0]? = some v0 := ⟨_, List.getElem?_eq_getElem hl0⟩
        have hz' : w.cell? (a.add 0) = some v0 := by
          have e : (a.add (0 * n)).add 0 = a.add 0 := by
            rw [Nat.zero_mul]
            unfold Addr.add
            simp
          rw [← e, hz, h00]
        have hsp : a.spot = none := by
          have := spotNone hz'
          unfold Addr.add at this
          rw [if_pos rfl] at this
          exact this
        obtain ⟨b, o, sp⟩ := a
        simp only at hsp
        subst hsp
        refine .inr ⟨b, o, rfl, fun j u hu => ?_⟩
        have hj : j < (((List.range len).map g).flatMap f).length := (List.getElem?_eq_some_iff.1 hu).1
        have hlen : (((List.range len).map g).flatMap f).length = len * n := by
          rw [flat_len f n hf]
          simp
        rw [hlen] at hj
        have hj2 : j / n < len := by
          rw [Nat.div_lt_iff_lt_mul hn]
          exact hj
        have hj3 : j % n < n := Nat.mod_lt _ hn
        have hjj : j = j / n * n + j % n := by
          have := Nat.div_add_mod j n
          rw [Nat.mul_comm] at this
          exact this.symm
        rw [hjj, flat_get f n hf _ (j / n) (by simpa using hj2) (j % n) hj3] at hu
        have := (World.cells?_some (hg (j / n) hj2).1).2.2 (j % n) hj3
        have hu' : (f (g (j / n)))[j % n]? = some u := by simpa using hu
        rw [hu'] at this
        have ha : ((⟨b, o, none⟩ : Addr).add (j / n * n)).add (j % n) = ⟨b, o + j, none⟩ := by
          have hoo : o + j / n * n + j % n = o + j := by omega
          unfold Addr.add
          by_cases h1 : j / n * n = 0 <;> by_cases h2 : j % n = 0 <;> simp [h1, h2] <;> omega
        rwa [ha] at this
    · intro e he
      obtain ⟨i, hi, rfl⟩ := List.mem_map.1 he
      exact (hg i (List.mem_range.1 hi)).2
theorem readWin {fuel : Nat} {cs : List Value} {x : DataW H × List MemPlace} (h : DataW.trod enc Try.prog w base spare held fuel 61 cs = some x) : ∃ e : WinS, cs = e.cells ∧ True := by
  obtain ⟨xs, n, -, -, hlen, hx, hf⟩ := DataW.trod_struct Try.underlying61 h
  have cT : Try.prog.cellsOf 61 = 2 := by kernel_rfl
  have c3 : Try.prog.cellsOf 3 = 1 := by kernel_rfl
  rw [cT] at hlen
  have hxn : xs.length = 2 := hx
  obtain ⟨x0, h0⟩ : ∃ y, xs[0]? = some y := ⟨_, List.getElem?_eq_getElem (by omega)⟩
  obtain ⟨x1, h1⟩ : ∃ y, xs[1]? = some y := ⟨_, List.getElem?_eq_getElem (by omega)⟩
  have f0 : DataW.trod enc Try.prog w base spare held n 3 ((cs.drop 0).take (Try.prog.cellsOf 3)) = xs[0]? := hf 0 _ rfl
  rw [c3, h0] at f0
  have f1 : DataW.trod enc Try.prog w base spare held n 3 ((cs.drop 1).take (Try.prog.cellsOf 3)) = xs[1]? := hf 1 _ rfl
  rw [c3, h1] at f1
  obtain ⟨n0, e0, -, w0⟩ := DataW.trod_int Try.underlying3 f0
  obtain ⟨n1, e1, -, w1⟩ := DataW.trod_int Try.underlying3 f1
  refine ⟨⟨n0, n1⟩, ?_, trivial⟩
  have g0 := cellAt1 e0
  have g1 := cellAt1 e1
  obtain ⟨a0, a1, rfl⟩ := len2 hlen
  simp at g0 g1
  simp [g0, g1, WinS.cells]
theorem readChan {fuel : Nat} {cs : List Value} {x : DataW H × List MemPlace} (h : DataW.trod enc Try.prog w base spare held fuel 63 cs = some x) : ∃ e : ChanS, cs = e.cells ∧ True := by
  obtain ⟨xs, n, -, -, hlen, hx, hf⟩ := DataW.trod_struct Try.underlying63 h
  have cT : Try.prog.cellsOf 63 = 5 := by kernel_rfl
  have c3 : Try.prog.cellsOf 3 = 1 := by kernel_rfl
  rw [cT] at hlen
  have hxn : xs.length = 5 := hx
  obtain ⟨x0, h0⟩ : ∃ y, xs[0]? = some y := ⟨_, List.getElem?_eq_getElem (by omega)⟩
  obtain ⟨x1, h1⟩ : ∃ y, xs[1]? = some y := ⟨_, List.getElem?_eq_getElem (by omega)⟩
  obtain ⟨x2, h2⟩ : ∃ y, xs[2]? = some y := ⟨_, List.getElem?_eq_getElem (by omega)⟩
  obtain ⟨x3, h3⟩ : ∃ y, xs[3]? = some y := ⟨_, List.getElem?_eq_getElem (by omega)⟩
  obtain ⟨x4, h4⟩ : ∃ y, xs[4]? = some y := ⟨_, List.getElem?_eq_getElem (by omega)⟩
  have f0 : DataW.trod enc Try.prog w base spare held n 3 ((cs.drop 0).take (Try.prog.cellsOf 3)) = xs[0]? := hf 0 _ rfl
  rw [c3, h0] at f0
  have f1 : DataW.trod enc Try.prog w base spare held n 3 ((cs.drop 1).take (Try.prog.cellsOf 3)) = xs[1]? := hf 1 _ rfl
  rw [c3, h1] at f1
  have f2 : DataW.trod enc Try.prog w base spare held n 3 ((cs.drop 2).take (Try.prog.cellsOf 3)) = xs[2]? := hf 2 _ rfl
  rw [c3, h2] at f2
  have f3 : DataW.trod enc Try.prog w base spare held n 3 ((cs.drop 3).take (Try.prog.cellsOf 3)) = xs[3]? := hf 3 _ rfl
  rw [c3, h3] at f3
  have f4 : DataW.trod enc Try.prog w base spare held n 3 ((cs.drop 4).take (Try.prog.cellsOf 3)) = xs[4]? := hf 4 _ rfl
  rw [c3, h4] at f4
  obtain ⟨n0, e0, -, w0⟩ := DataW.trod_int Try.underlying3 f0
  obtain ⟨n1, e1, -, w1⟩ := DataW.trod_int Try.underlying3 f1
  obtain ⟨n2, e2, -, w2⟩ := DataW.trod_int Try.underlying3 f2
  obtain ⟨n3, e3, -, w3⟩ := DataW.trod_int Try.underlying3 f3
  obtain ⟨n4, e4, -, w4⟩ := DataW.trod_int Try.underlying3 f4
  refine ⟨⟨n0, n1, n2, n3, n4⟩, ?_, trivial⟩
  have g0 := cellAt1 e0
  have g1 := cellAt1 e1
  have g2 := cellAt1 e2
  have g3 := cellAt1 e3
  have g4 := cellAt1 e4
  obtain ⟨a0, a1, a2, a3, a4, rfl⟩ := len5 hlen
  simp at g0 g1 g2 g3 g4
  simp [g0, g1, g2, g3, g4, ChanS.cells]
theorem readPart {fuel : Nat} {cs : List Value} {x : DataW H × List MemPlace} (h : DataW.trod enc Try.prog w base spare held fuel 55 cs = some x) : ∃ e : PartS, cs = e.cells ∧ e.Ok := by
  obtain ⟨xs, n, -, -, hlen, hx, hf⟩ := DataW.trod_struct Try.underlying55 h
  have cT : Try.prog.cellsOf 55 = 6 := by kernel_rfl
  have c3 : Try.prog.cellsOf 3 = 1 := by kernel_rfl
  have c53 : Try.prog.cellsOf 53 = 1 := by kernel_rfl
  rw [cT] at hlen
  have hxn : xs.length = 6 := hx
  obtain ⟨x0, h0⟩ : ∃ y, xs[0]? = some y := ⟨_, List.getElem?_eq_getElem (by omega)⟩
  obtain ⟨x1, h1⟩ : ∃ y, xs[1]? = some y := ⟨_, List.getElem?_eq_getElem (by omega)⟩
  obtain ⟨x2, h2⟩ : ∃ y, xs[2]? = some y := ⟨_, List.getElem?_eq_getElem (by omega)⟩
  obtain ⟨x3, h3⟩ : ∃ y, xs[3]? = some y := ⟨_, List.getElem?_eq_getElem (by omega)⟩
  obtain ⟨x4, h4⟩ : ∃ y, xs[4]? = some y := ⟨_, List.getElem?_eq_getElem (by omega)⟩
  obtain ⟨x5, h5⟩ : ∃ y, xs[5]? = some y := ⟨_, List.getElem?_eq_getElem (by omega)⟩
  have f0 : DataW.trod enc Try.prog w base spare held n 3 ((cs.drop 0).take (Try.prog.cellsOf 3)) = xs[0]? := hf 0 _ rfl
  rw [c3, h0] at f0
  have f1 : DataW.trod enc Try.prog w base spare held n 3 ((cs.drop 1).take (Try.prog.cellsOf 3)) = xs[1]? := hf 1 _ rfl
  rw [c3, h1] at f1
  have f2 : DataW.trod enc Try.prog w base spare held n 3 ((cs.drop 2).take (Try.prog.cellsOf 3)) = xs[2]? := hf 2 _ rfl
  rw [c3, h2] at f2
  have f3 : DataW.trod enc Try.prog w base spare held n 53 ((cs.drop 3).take (Try.prog.cellsOf 53)) = xs[3]? := hf 3 _ rfl
  rw [c53, h3] at f3
  have f4 : DataW.trod enc Try.prog w base spare held n 3 ((cs.drop 4).take (Try.prog.cellsOf 3)) = xs[4]? := hf 4 _ rfl
  rw [c3, h4] at f4
  have f5 : DataW.trod enc Try.prog w base spare held n 3 ((cs.drop 5).take (Try.prog.cellsOf 3)) = xs[5]? := hf 5 _ rfl
  rw [c3, h5] at f5
  obtain ⟨n0, e0, -, w0⟩ := DataW.trod_int Try.underlying3 f0
  obtain ⟨n1, e1, -, w1⟩ := DataW.trod_int Try.underlying3 f1
  obtain ⟨n2, e2, -, w2⟩ := DataW.trod_int Try.underlying3 f2
  obtain ⟨sA, sl, sc, e3⟩ : ∃ A l c, (cs.drop 3).take 1 = [.slice A l c] := by
    rcases open_slice Try.underlying53 f3 with ⟨e, _⟩ | ⟨a, len, cap, m, n', D, Pl, e, _⟩
    · exact ⟨_, _, _, e⟩
    · exact ⟨_, _, _, e⟩
  obtain ⟨n4, e4, -, w4⟩ := DataW.trod_int Try.underlying3 f4
  obtain ⟨n5, e5, -, w5⟩ := DataW.trod_int Try.underlying3 f5
  refine ⟨⟨n0, n1, n2, sA, sl, sc, n4, n5⟩, ?_, ⟨i64Of w0, i64Of w1⟩⟩
  have g0 := cellAt1 e0
  have g1 := cellAt1 e1
  have g2 := cellAt1 e2
  have g3 := cellAt1 e3
  have g4 := cellAt1 e4
  have g5 := cellAt1 e5
  obtain ⟨a0, a1, a2, a3, a4, a5, rfl⟩ := len6 hlen
  simp at g0 g1 g2 g3 g4 g5
  simp [g0, g1, g2, g3, g4, g5, PartS.cells]
theorem readPlan {fuel : Nat} {cs : List Value} {x : DataW H × List MemPlace} (h : DataW.trod enc Try.prog w base spare held fuel 50 cs = some x) :
    ∃ A B C a b c, ∃ p : PlanS, cs = [.int .i64 p.mem, .slice A p.parts.length a, .slice B p.wins.length b, .slice C p.chans.length c] ∧ Rd w A (partCells p.parts) ∧ Rd w B (winCells p.wins) ∧ Rd w C (chanCells p.chans) ∧ (∀ x ∈ p.parts, x.Ok) ∧ I64 p.mem ∧ p.parts.length ≤ a ∧ p.wins.length ≤ b ∧ p.chans.length ≤ c := by
  obtain ⟨xs, n, -, -, hlen, hx, hf⟩ := DataW.trod_struct Try.underlying50 h
  have cT : Try.prog.cellsOf 50 = 4 := by kernel_rfl
  have c46 : Try.prog.cellsOf 46 = 1 := by kernel_rfl
  have c47 : Try.prog.cellsOf 47 = 1 := by kernel_rfl
  have c48 : Try.prog.cellsOf 48 = 1 := by kernel_rfl
  have c55 : Try.prog.cellsOf 55 = 6 := by kernel_rfl
  have c61 : Try.prog.cellsOf 61 = 2 := by kernel_rfl
  have c63 : Try.prog.cellsOf 63 = 5 := by kernel_rfl
  have c3 : Try.prog.cellsOf 3 = 1 := by kernel_rfl
  rw [cT] at hlen
  have hx4 : xs.length = 4 := hx
  obtain ⟨x0, h0⟩ : ∃ y, xs[0]? = some y := ⟨_, List.getElem?_eq_getElem (by omega)⟩
  obtain ⟨x1, h1⟩ : ∃ y, xs[1]? = some y := ⟨_, List.getElem?_eq_getElem (by omega)⟩
  obtain ⟨x2, h2⟩ : ∃ y, xs[2]? = some y := ⟨_, List.getElem?_eq_getElem (by omega)⟩
  obtain ⟨x3, h3⟩ : ∃ y, xs[3]? = some y := ⟨_, List.getElem?_eq_getElem (by omega)⟩
  have f0 : DataW.trod enc Try.prog w base spare held n 3 ((cs.drop 0).take (Try.prog.cellsOf 3)) = xs[0]? := hf 0 _ rfl
  have f1 : DataW.trod enc Try.prog w base spare held n 46 ((cs.drop 1).take (Try.prog.cellsOf 46)) = xs[1]? := hf 1 _ rfl
  have f2 : DataW.trod enc Try.prog w base spare held n 47 ((cs.drop 2).take (Try.prog.cellsOf 47)) = xs[2]? := hf 2 _ rfl
  have f3 : DataW.trod enc Try.prog w base spare held n 48 ((cs.drop 3).take (Try.prog.cellsOf 48)) = xs[3]? := hf 3 _ rfl
  rw [c3, h0] at f0
  rw [c46, h1] at f1
  rw [c47, h2] at f2
  rw [c48, h3] at f3
  obtain ⟨n0, e0, -, w0⟩ := DataW.trod_int Try.underlying3 f0
  obtain ⟨A, a, l1, e1, k1, r1, q1⟩ := readRow 46 55 6 PartS.cells ⟨0, 0, 0, none, 0, 0, 0, 0⟩ Try.underlying46 c55 (by decide) (fun _ => rfl) PartS.Ok (fun _ _ _ h => readPart h) f1
  obtain ⟨B, b, l2, e2, k2, r2, -⟩ := readRow 47 61 2 WinS.cells ⟨0, 0⟩ Try.underlying47 c61 (by decide) (fun _ => rfl) (fun _ => True) (fun _ _ _ h => readWin h) f2
  obtain ⟨C, c, l3, e3, k3, r3, -⟩ := readRow 48 63 5 ChanS.cells ⟨0, 0, 0, 0, 0⟩ Try.underlying48 c63 (by decide) (fun _ => rfl) (fun _ => True) (fun _ _ _ h => readChan h) f3
  refine ⟨A, B, C, a, b, c, ⟨n0, l1, l2, l3⟩, ?_, r1, r2, r3, q1, i64Of w0, k1, k2, k3⟩
  have g0 := cellAt1 e0
  have g1 := cellAt1 e1
  have g2 := cellAt1 e2
  have g3 := cellAt1 e3
  obtain ⟨a0, a1, a2, a3, rfl⟩ := len4 hlen
  simp at g0 g1 g2 g3
  simp [g0, g1, g2, g3]
set_option maxRecDepth 100000 in
theorem openPlan {r : Reach} {b0 : Nat} {v : Value} {d : DataW H} {ps : List MemPlace} (hv : Value.okWide Try.prog w r b0 50 v) (h : DataW.Trod enc Try.prog w base spare held 50 v d ps) :
    ∃ A B C a b c, ∃ p : PlanS, v = .agg #[.int .i64 p.mem, .slice A p.parts.length a, .slice B p.wins.length b, .slice C p.chans.length c] ∧ Rd w A (partCells p.parts) ∧ Rd w B (winCells p.wins) ∧ Rd w C (chanCells p.chans) ∧ (∀ x ∈ p.parts, x.Ok) ∧ I64 p.mem ∧ p.parts.length ≤ a ∧ p.wins.length ≤ b ∧ p.chans.length ≤ c := by
  obtain ⟨cs, rfl, hsz⟩ := okWide_struct Try.underlying50 hv
  obtain ⟨fuel, hf⟩ := h
  obtain ⟨A, B, C, a, b, c, p, he, h1⟩ := readPlan hf
  refine ⟨A, B, C, a, b, c, p, ?_, h1⟩
  have : cs.toList = _ := he
  show Value.agg cs = .agg (List.toArray _)
  rw [← this]
set_option maxRecDepth 100000 in
theorem openPart {r : Reach} {b0 : Nat} {v : Value} {d : DataW H} {ps : List MemPlace} (hv : Value.okWide Try.prog w r b0 55 v) (h : DataW.Trod enc Try.prog w base spare held 55 v d ps) :
    ∃ x : PartS, v = .agg #[.int .i64 x.base, .int .i64 x.size, .int .i64 x.ring, .slice x.cA x.cl x.cc, .int .i64 x.fault, .int .i64 x.again] ∧ x.Ok := by
  obtain ⟨cs, rfl, hsz⟩ := okWide_struct Try.underlying55 hv
  obtain ⟨fuel, hf⟩ := h
  obtain ⟨p, he, h1⟩ := readPart hf
  refine ⟨p, ?_, h1⟩
  have : cs.toList = p.cells := he
  show Value.agg cs = .agg p.cells.toArray
  rw [← this]
end
end Go.Proofs.Ytlegpbookbghbaa
