/- Rings drained: the walk; the rings lie in memory, no more than 100 of them, their entries are no more than 1000 each. -/
import Derived.Test.YtlegpbookbghbaaJ5
import Derived.Laws.Cover1
import Derived.ArgAppend
set_option linter.unusedVariables false
set_option linter.unusedSimpArgs false
namespace Go.Proofs.Ytlegpbookbghbaa
open Go.RowKit

/-- A row of entries with room for R of them, in block g. -/
def RowE (w : World) (g R : Nat) (l : List Ent) : Prop := (∀ j u, (entCells l)[j]? = some u → w.cell? ⟨g, j, none⟩ = some u) ∧ w.there g 0 (R * 7) ∧ g < w.heap.size
theorem RowE.below {w w1 : World} {g R : Nat} {l : List Ent} (h : RowE w g R l) (hb : Below w.heap.size w w1) : RowE w1 g R l :=
  ⟨fun j u hu => (hb.cell (p := ⟨g, j, none⟩) h.2.2).trans (h.1 j u hu), fun j hj => by
    have := h.2.1 j hj
    rw [hb.cell (p := ⟨g, 0 + j, none⟩) h.2.2, hb.frozen (p := ⟨g, 0 + j, none⟩) h.2.2]
    exact this, Nat.lt_of_lt_of_le h.2.2 hb.size⟩
theorem RowE.sets {w : World} {g R : Nat} {l : List Ent} (h : RowE w g R l) {g' : Nat} (hg : g' ≠ g) (o : Nat) (vs : List Value) : RowE (w.setCells g' o vs) g R l :=
  ⟨fun j u hu => by rw [World.cell?_setCells_out g' vs o w _ (fun e => absurd e (fun e => hg e.symm))]; exact h.1 j u hu, World.there_setCells h.2.1 _ _ _, by rw [setCells_size]; exact h.2.2⟩
theorem RowE.push {w : World} {g R : Nat} {l : List Ent} (h : RowE w g R l) (x : Ent) (hl : l.length < R) : RowE (w.setCells g (l.length * 7) x.cells) g R (l ++ [x]) := by
  have ht : ∀ i, i < x.cells.length → (w.cell? ⟨g, l.length * 7 + i, none⟩).isSome = true := fun i hi => by
    have hi7 : i < 7 := hi
    have := (h.2.1 (l.length * 7 + i) (by omega)).1
    rwa [Nat.zero_add] at this
  refine ⟨fun j u hu => ?_, World.there_setCells h.2.1 _ _ _, by rw [setCells_size]; exact h.2.2⟩
  rw [entCells_append] at hu
  by_cases hj : j < (entCells l).length
  · rw [List.getElem?_append_left hj] at hu
    rw [World.cell?_setCells_out g _ _ w ⟨g, j, none⟩ (fun _ _ => .inl (by rw [entCells_length] at hj; exact hj))]
    exact h.1 j u hu
  · rw [List.getElem?_append_right (by omega), entCells_length] at hu
    have hj2 : l.length * 7 ≤ j := by rw [entCells_length] at hj; omega
    have hu' : x.cells[j - l.length * 7]? = some u := by simpa [entCells] using hu
    have hx := (List.getElem?_eq_some_iff.1 hu').1
    have e := World.cell?_setCells_in g x.cells (l.length * 7) w ht (j - l.length * 7) hx
    rw [show l.length * 7 + (j - l.length * 7) = j by omega] at e
    rw [e, ← hu', List.getElem?_eq_getElem hx]
theorem RowE.rdn {w : World} {g R B : Nat} {l : List Ent} (h : RowE w g R l) (hB : B ≤ g) : RdN w B (some ⟨g, 0, none⟩) (entCells l) :=
  .inr ⟨g, 0, rfl, hB, fun j u hu => by rw [Nat.zero_add]; exact h.1 j u hu⟩
theorem RowE.made (w : World) (R : Nat) (cs : Array Value) (hs : cs.size = R * 7) : RowE (w.alloc (.cells cs 27)) w.heap.size R [] := by
  have hb := heap_alloc_new w (.cells cs 27)
  refine ⟨fun j u hu => by simp [entCells] at hu, fun j hj => ?_, by simp⟩
  rw [Nat.zero_add, cell_of_row _ _ j cs 27 (0, 0) hb, frozen_of_row _ _ j cs 27 hb]
  exact ⟨by simp; omega, rfl⟩
/-- append into the room. -/
theorem RowE.app {w : World} {g R : Nat} {l : List Ent} (h : RowE w g R l) (x : Ent) (hl : l.length < R) (S : Option Addr) (c : Nat) (hS : Rd w S (entCells [x])) :
    (Builtin.append_ #[22, 22] 22 #[.slice (some ⟨g, 0, none⟩) l.length R, .slice S 1 c]).run Try.prog w = .ok (.slice (some ⟨g, 0, none⟩) (l.length + 1) R) (w.setCells g (l.length * 7) x.cells) := by
  obtain ⟨i0, hi, hzz⟩ := Option.map_eq_some_iff.1 info27
  simp only [Prod.mk.injEq] at hzz
  obtain ⟨hz, hs, hb⟩ := hzz
  obtain ⟨s, rfl, hc⟩ := hS.add (by simp [entCells, Ent.cells])
  have e1 : entCells [x] = x.cells := by simp [entCells]
  rw [e1] at hc
  have h0 : 0 + l.length * i0.size = l.length * 7 := by rw [hs]; omega
  have := run_append_room_cells (P := Try.prog) w 22 22 27 i0 Try.underlying22 hi g 0 l.length R s 1 c x.cells (by rw [hs]; rfl) hc (fun u hu => entCells_one [x] u (by rw [e1]; exact hu)) (by omega)
    (fun j hj => by
      have hj7 : j < 7 := hj
      have := (h.2.1 (l.length * 7 + j) (by omega)).1
      rw [h0]
      rwa [Nat.zero_add] at this)
    (fun j hj => by
      have hj7 : j < 7 := hj
      have := (h.2.1 (l.length * 7 + j) (by omega)).2
      rw [h0]
      rwa [Nat.zero_add] at this)
  rw [h0] at this
  exact this
theorem OwnG.setsO {w : World} {g : Nat} {l : List RingM} (h : OwnG w g l) {g' : Nat} (hg : g' ≠ g) (o : Nat) (vs : List Value) (hE : ∀ p ∈ l, RdX w g' p.A (entCells p.r.L)) : OwnG (w.setCells g' o vs) g l := by
  refine ⟨fun j u hu => by rw [World.cell?_setCells_out g' vs o w _ (fun e => absurd e (fun e => hg e.symm))]; exact h.1 j u hu, fun j => by rw [World.frozen?_setCells]; exact h.2.1 j, by rw [setCells_size]; exact h.2.2.1, fun p hp => ⟨(h.2.2.2 p hp).1, ?_⟩⟩
  rcases (h.2.2.2 p hp).2 with h1 | ⟨b, o1, e1, h2, h3⟩
  · exact .inl h1
  · rcases hE p hp with k1 | ⟨b', o1', e1', k2, k3⟩
    · exact .inl k1
    · rw [e1] at e1'
      simp only [Option.some.injEq, Addr.mk.injEq, and_true] at e1'
      obtain ⟨rfl, rfl⟩ := e1'
      exact .inr ⟨b, o1, e1, h2, fun j u hu => by rw [World.cell?_setCells_out g' vs o w _ (fun e => absurd e k2)]; exact h3 j u hu⟩
theorem RdX.setsO {w : World} {g g' : Nat} {A : Option Addr} {cs : List Value} (h : RdX w g A cs) (k : RdX w g' A cs) (o' : Nat) (vs : List Value) : RdX (w.setCells g' o' vs) g A cs := by
  rcases h with rfl | ⟨b, o, rfl, h2, h3⟩
  · exact .inl rfl
  · rcases k with rfl | ⟨b', o1', e1', k2, k3⟩
    · exact .inl rfl
    · simp only [Option.some.injEq, Addr.mk.injEq, and_true] at e1'
      obtain ⟨rfl, rfl⟩ := e1'
      exact .inr ⟨b, o, rfl, h2, fun j u hu => by rw [World.cell?_setCells_out g' vs o' w _ (fun e => absurd e k2)]; exact h3 j u hu⟩
theorem wpList_min3 {ops : Array Oper} {rest : List Oper} {o : Oper} {a : Act} {Q : Exit → Act → World → Prop} {w : World} {x y z : Int} {r : Value} (hgd : o.guard = none) (s t p : Operand)
    (ho : o.op = .call { callee := .builtin .min, args := #[s, t, p], argTypes := #[3, 3, 3] }) (hs : a.eval s = .int .i64 x) (ht : a.eval t = .int .i64 y) (hp : a.eval p = .int .i64 z)
    (hr : r = .int .i64 (if z < (if y < x then y else x) then z else (if y < x then y else x))) (h : wpList Try.prog ops Q rest (a.put o.dst r) w) : wpList Try.prog ops Q (o :: rest) a w :=
  wpList_plain hgd fun K hK => by
    subst hr
    unfold Oper.wp execOp
    simp only [ho, resolve, invoke, builtin, Sem.run_bind, Sem.run_pure, Result.andThen_ok, List.map_toArray, List.map_cons, List.map_nil, hs, ht, hp, run_min_int3]
    exact hK _ _ h
theorem wpList_max2 {ops : Array Oper} {rest : List Oper} {o : Oper} {a : Act} {Q : Exit → Act → World → Prop} {w : World} {x y : Int} {r : Value} (hgd : o.guard = none) (s t : Operand)
    (ho : o.op = .call { callee := .builtin .max, args := #[s, t], argTypes := #[3, 3] }) (hs : a.eval s = .int .i64 x) (ht : a.eval t = .int .i64 y)
    (hr : r = .int .i64 (if y > x then y else x)) (h : wpList Try.prog ops Q rest (a.put o.dst r) w) : wpList Try.prog ops Q (o :: rest) a w :=
  wpList_plain hgd fun K hK => by
    subst hr
    unfold Oper.wp execOp
    simp only [ho, resolve, invoke, builtin, Sem.run_bind, Sem.run_pure, Result.andThen_ok, List.map_toArray, List.map_cons, List.map_nil, hs, ht, run_max_int2]
    exact hK _ _ h
theorem madeE (R : Nat) (hR : R ≤ 1000) : ∃ cs : Array Value, cs.size = R * 7 ∧ ∀ W : World, (Instr.makeSlice 22 (.int .i64 R) (.int .i64 R)).run Try.prog W = .ok (.slice (some ⟨W.heap.size, 0, none⟩) R R) (W.alloc (.cells cs 27)) := by
  obtain ⟨i0, hi, hzz⟩ := Option.map_eq_some_iff.1 info27
  simp only [Prod.mk.injEq] at hzz
  obtain ⟨hz, hs, hb⟩ := hzz
  refine ⟨_, ?_, fun W => by
    have := run_make (P := Try.prog) W 22 27 i0 _ Try.underlying22 hi hz .i64 .i64 R R (by omega) (Int.le_refl _) (by rw [hb]; omega) (by omega)
    rw [Int.toNat_natCast, hs] at this
    exact this⟩
  rw [size_madeCells]
theorem cutE (R b : Nat) (W : World) : (Instr.slice 22 (.slice (some ⟨b, 0, none⟩) R R) (some (.int .i64 0)) (some (.int .i64 0)) (some (.int .i64 R))).run Try.prog W = .ok (.slice (some ⟨b, 0, none⟩) 0 R) W := by
  by_cases h : R = 0
  · subst h
    simp [go_sem, Try.underlying22]
  · simp [go_sem, Try.underlying22, h]
theorem bSts {w : World} (g : Nat) (hg : w.heap.size ≤ g) : ∀ (vs : List Value) (o : Nat) (W : World), Below w.heap.size w W → Below w.heap.size w (W.setCells g o vs)
  | [], _, _, h => h
  | v :: r, o, W, h => by rw [World.setCells]; exact bSts g hg r (o + 1) _ (bSt hg h v)
theorem size29 : (Try.prog.info? 29).map (·.size) = some 9 := by
  obtain ⟨i0, hi, hzz⟩ := Option.map_eq_some_iff.1 info29
  simp only [Prod.mk.injEq] at hzz
  rw [hi, Option.map_some, hzz.2.1]
theorem wpList_here {P : Program} {ops : Array Oper} {rest : List Oper} {o : Oper} {a : Act} {Q : Exit → Act → World → Prop} {w : World} (t : TypeId) (x y : Operand) (ho : o.op = .store t x y) (h : Hid (wpList P ops Q (o :: rest) a w)) : wpList P ops Q (o :: rest) a w := h
theorem wpList_store29 {ops : Array Oper} {rest : List Oper} {o : Oper} {a : Act} {Q : Exit → Act → World → Prop} {w : World} (hgd : o.guard = none) (x y : Operand) (ho : o.op = .store 29 x y) (g o' : Nat) (p : RingM)
    (hx : a.eval x = .pointer (some ⟨g, o', none⟩)) (hy : a.eval y = .agg p.cells.toArray) (ht : w.there g o' 9) (h : wpList Try.prog ops Q rest (a.put o.dst undef) (w.setCells g o' p.cells)) : wpList Try.prog ops Q (o :: rest) a w := by
  refine wpList_store_mid hgd 29 x y ho g o' p.cells.toArray hx hy ?_ ?_ ?_ ?_
  · exact ht
  · exact size29
  · exact all_oneCell_toArray (fun v hv => rgCells_one [p] v (by simpa [rgCells] using hv))
  · exact h
theorem rings_set (l : List RingM) (k : Nat) (p : RingM) : rings (l.set k p) = (rings l).set k p.r := by
  unfold rings
  rw [List.map_set]
def lenV : Value → Nat
  | .slice _ n _ => n
  | _ => 0
def DrainPost (w : World) (q : List Ent × List RingS) (e : Ending) (w' : World) : Prop :=
  ∃ A1 c1 A2 c2 ps, e = .returned (.tuple #[.slice A1 q.1.length c1, .slice A2 ps.length c2]) ∧ rings ps = q.2 ∧ q.1.length ≤ c1 ∧ RdN w' w.heap.size A1 (entCells q.1) ∧ ps.length ≤ c2 ∧ RingsO w' w.heap.size A2 ps ∧ Below w.heap.size w w'
set_option maxRecDepth 100000 in set_option maxHeartbeats 4000000 in
theorem drain50 (A : Option Addr) (c : Nat) (l : List RingM) (most : Nat) (w : World) (hA : RingsR w A l) (hn : l.length ≤ 100) (hl : ∀ p ∈ l, p.r.L.length ≤ 1000) :
    Calls Try.prog 50 #[.slice A l.length c, .int .i64 most] w (DrainPost w (drainM (rings l) most)) := by
  have hu29 := Try.underlying29; have hu27 := Try.underlying27; have hu25 := Try.underlying25
  have hu80 := Try.underlying80
  have hu22 := Try.underlying22
  have HA := Lib.hid hA
  have HL := Lib.hid hl
  clear hA hl
  obtain ⟨R, hR⟩ : ∃ R, R = min (min most 1000) (heldL (rings l)) := ⟨_, rfl⟩
  have hq : drainM (rings l) most = drainN (rings l) R := by rw [hR]; rfl
  rw [hq]
  have HQ := Lib.hid hR
  clear hq hR
  go_enter Try.func50, Try.ntmps50
  go_wp2_with fail
  refine (copied83 A c l _ HA.out (by omega) HL.out).mono ?_
  rintro e w1 ⟨A1, c1, l1, rfl, hr1, hc1, hO1, hb1⟩
  have HB := Lib.hid hb1
  have HO1 := Lib.hid hO1
  have HC1 := Lib.hid hc1
  have HR1 := Lib.hid hr1
  have hz1 := hb1.size
  clear hb1 hO1 hc1 hr1
  go_wp2_with fail
  refine (held52 A c l _ (HA.out.below HB.out) hn).mono ?_
  rintro e w2 ⟨rfl, hb⟩
  have HO2 := Lib.hid (HO1.out.below hb)
  (replace HB : Hid (Below w.heap.size w w2) := bCall (by repeat (first | (with_reducible exact HB.out) | (with_reducible apply bAl) | (with_reducible apply bDr) | (with_reducible apply bDrN) | ((with_reducible refine bSt ?_ ?_ _); (first | (with_reducible assumption) | omega | (simp <;> omega))))) hb); clear hb; (have := HB.out.size)
  have hR : R ≤ 1000 := by have := HQ.out; omega
  have hM : (.int .i64 R : Value) = .int .i64 (if ((heldL (rings l) : Nat) : Int) < (if (1000 : Int) < (most : Int) then 1000 else (most : Int)) then ((heldL (rings l) : Nat) : Int) else (if (1000 : Int) < (most : Int) then 1000 else (most : Int))) := by
    congr 1
    have := HQ.out
    split <;> split at * <;> omega
  have hX : (.int .i64 R : Value) = .int .i64 (if (R : Int) > 0 then (R : Int) else 0) := by
    congr 1
    split <;> omega
  have HM := Lib.hid hM
  have HX := Lib.hid hX
  clear hM hX
  obtain ⟨cs, hcs, hmk⟩ := madeE R hR
  have hct := fun b W => cutE R b W
  have HCS := Lib.hid hcs
  go_wp2_with (first | (refine wpList_min3 (by rfl) (.tmp 15) (.const (.int .i64 1000)) (.tmp 17) (by rfl) (by rfl) (by rfl) (by rfl) HM.out ?_) | (refine wpList_max2 (by rfl) (.const (.int .i64 0)) (.tmp 18) (by rfl) (by rfl) (by rfl) HX.out ?_))
  rcases HO2.out with rfl | ⟨g, rfl, hg, hO⟩
  · have h0 : rings l = [] := by rw [← HR1.out]; rfl
    have hR0 : R = 0 := by
      have := HQ.out
      rw [h0] at this
      simp only [heldL] at this
      omega
    subst hR0
    go_loopw [8] (fun row wr => row = .slice (some ⟨w2.heap.size, 0, none⟩) 0 0 ∧ Below w.heap.size w wr) (fun row _ => 0 - lenV row)
    case atStart => exact ⟨rfl, bAl HB.out _⟩
    case round =>
      obtain ⟨rfl, hbel⟩ := hrel
      have HB := Lib.hid hbel
      clear hbel
      go_wp2
      go_ret2
      refine ⟨_, 0, A1, c1, [], rfl, ?_, Nat.le_refl _, RdN.nil _ _ _, HC1.out, .inl rfl, HB.out⟩
      rw [h0]
      rfl
  · have hgl := hO.2.2.1
    have hz2 := HB.out.size
    go_loopw [8] (fun row wr => ∃ (k : Nat) (ps : List RingM), k ≤ R ∧ row = .slice (some ⟨w2.heap.size, 0, none⟩) k R ∧ rings ps = (drainN (rings l) k).2 ∧ OwnG wr g ps ∧ (∀ p ∈ ps, RdX wr w2.heap.size p.A (entCells p.r.L)) ∧ RowE wr w2.heap.size R (drainN (rings l) k).1 ∧ Below w.heap.size w wr) (fun row _ => R - lenV row)
    case atStart => exact ⟨0, l1, Nat.zero_le _, rfl, HR1.out, hO.below (bAl (Below.refl _ _) _), fun p hp => ((hO.rings.2 p hp).2.rdx (Nat.le_refl _)).below (bAl (Below.refl _ _) _), RowE.made w2 R cs hcs, bAl HB.out _⟩
    case round =>
      clear HB HO2 hO
      obtain ⟨k, ps, hk, rfl, hps, hO, hE, hW, hbel⟩ := hrel
      have HB := Lib.hid hbel
      have HO := Lib.hid hO
      have HE := Lib.hid hE
      have HW := Lib.hid hW
      have HPS := Lib.hid hps
      have hzr := hbel.size
      have hgl2 := hW.2.2
      have hpl : ps.length = l1.length := by
        have h1 := congrArg List.length hps
        have h2 := congrArg List.length HR1.out
        rw [drainN_len] at h1
        simp only [rings, List.length_map] at h1 h2
        omega
      have hpn : ps.length ≤ 1000 := by
        have h2 := congrArg List.length HR1.out
        simp only [rings, List.length_map] at h2
        omega
      have hall : ∀ p ∈ ps, p.r.L.length ≤ 1000 := fun p hp => by
        refine drainN_all (rings l) 1000 (fun r hr => ?_) k p.r (by rw [← hps]; exact List.mem_map_of_mem hp)
        obtain ⟨q, hq, rfl⟩ := List.mem_map.1 hr
        exact HL.out q hq
      have HALL := Lib.hid hall
      clear hbel hO hE hW hps hall
      by_cases hlt : k < R
      · have hlt' : (k : Int) < (R : Int) := by omega
        obtain ⟨hk1, hk2⟩ := drainN_ok (rings l) k (by have := HQ.out; omega)
        have hp0 : 0 < heldL (drainN (rings l) k).2 := by have := HQ.out; omega
        obtain ⟨hi, he, hh⟩ := stepD_pos (s := drainN (rings l) k) (firstL_pos hp0)
        obtain ⟨i, hif⟩ := Int.eq_ofNat_of_zero_le (firstL_pos hp0)
        have hF : ∀ W, RingsR W (some ⟨g, 0, none⟩) ps → Calls Try.prog 82 #[.slice (some ⟨g, 0, none⟩) l1.length c1] W fun e w' => e = .returned (.int .i64 (i : Int)) ∧ Below W.heap.size W w' := fun W hW => by
          have := first82 _ c1 ps W hW hpn HALL.out
          rw [hpl, HPS.out, hif] at this
          exact this
        simp only [hif, Int.toNat_natCast] at hi he hh
        have hi2 : i < ps.length := by rw [← HPS.out] at hi; simpa [rings] using hi
        have hir : (drainN (rings l) k).2[i]'hi = ps[i].r := by
          simp only [← HPS.out]
          exact rings_get ps i hi2
        rw [hir] at he hh
        obtain ⟨ht1, -, ht3⟩ := head_take hh
        have hstep : drainN (rings l) (k + 1) = ((drainN (rings l) k).1 ++ [(takeS ps[i].r).1], (drainN (rings l) k).2.set i (takeS ps[i].r).2.1) := he
        have HST := Lib.hid hstep
        have HK1 := Lib.hid hk1
        have HF := Lib.hid hF
        have hi' : (i : Int) < (l1.length : Int) := by omega
        clear he hh hir hstep hF hk1 hk2 hp0 hi hif
        go_wp2_with fail
        refine (HF.out _ HO.out.rings).mono ?_
        rintro e w3 ⟨rfl, hb⟩
        have HO3 := Lib.hid (HO.out.below hb)
        have HE3 : Hid (∀ p ∈ ps, RdX w3 w2.heap.size p.A (entCells p.r.L)) := fun p hp => (HE.out p hp).below hb
        have HW3 := Lib.hid (HW.out.below hb)
        (replace HB : Hid (Below w.heap.size w w3) := bCall (by repeat (first | (with_reducible exact HB.out) | (with_reducible apply bAl) | (with_reducible apply bDr) | (with_reducible apply bDrN) | ((with_reducible refine bSt ?_ ?_ _); (first | (with_reducible assumption) | omega | (simp <;> omega))))) hb); clear hb; (have := HB.out.size)
        have s0 := HO3.out.cell i hi2 0 _ rfl
        have s1 := HO3.out.cell i hi2 1 _ rfl
        have s2 := HO3.out.cell i hi2 2 _ rfl
        have s3 := HO3.out.cell i hi2 3 _ rfl
        have s4 := HO3.out.cell i hi2 4 _ rfl
        have s5 := HO3.out.cell i hi2 5 _ rfl
        have s6 := HO3.out.cell i hi2 6 _ rfl
        have s7 := HO3.out.cell i hi2 7 _ rfl
        have s8 := HO3.out.cell i hi2 8 _ rfl
        simp only [Nat.add_zero] at s0
        obtain ⟨hpc, hpR⟩ := HO3.out.rings.2 _ (List.getElem_mem hi2)
        have hp1000 := HALL.out _ (List.getElem_mem hi2)
        obtain ⟨p, hp⟩ : ∃ p, p = ps[i] := ⟨_, rfl⟩
        rw [← hp] at s0 s1 s2 s3 s4 s5 s6 s7 s8 hpR hp1000 hpc ht1 ht3 HST
        have HP := Lib.hid hp
        have HPR := Lib.hid hpR
        clear hp hpR
        go_wp2_with fail
        refine (takeR p.r p.A p.c _ HPR.out hpc hp1000).mono ?_
        generalize takeS p.r = t at *
        obtain ⟨x, r', has⟩ := t
        dsimp only at ht1 ht3 HST
        subst ht1
        rintro e w4 ⟨A', c', rfl, hc', hR', hb⟩
        dsimp only [entVal, ringVal] at *
        have HO4 := Lib.hid (HO3.out.below hb)
        have HE4 : Hid (∀ p ∈ ps, RdX w4 w2.heap.size p.A (entCells p.r.L)) := fun p hp => (HE3.out p hp).below hb
        have HW4 := Lib.hid (HW3.out.below hb)
        have HXg : Hid (r'.L.length ≤ c' ∧ RdX w4 g A' (entCells r'.L)) := ⟨hc', hR'.rdx HO3.out.2.2.1⟩
        have HXr : Hid (RdX w4 w2.heap.size A' (entCells r'.L)) := hR'.rdx HW3.out.2.2
        clear hc' hR'
        (replace HB : Hid (Below w.heap.size w w4) := bCall (by repeat (first | (with_reducible exact HB.out) | (with_reducible apply bAl) | (with_reducible apply bDr) | (with_reducible apply bDrN) | ((with_reducible refine bSt ?_ ?_ _); (first | (with_reducible assumption) | omega | (simp <;> omega))))) hb); clear hb; (have := HB.out.size)
        have hth := HO4.out.there i hi2
        have HTH := Lib.hid hth
        clear hth s0 s1 s2 s3 s4 s5 s6 s7 s8
        go_wp2_with (with_reducible refine wpList_here 29 (.tmp 46) (.tmp 45) (by rfl) ?_)
        refine Lib.hid ?_
        refine wpList_store29 (by rfl) (.tmp 46) (.tmp 45) (by rfl) g (i * 9) ⟨r', A', c'⟩ (by rfl) (by rfl) (World.there_alloc (World.there_alloc HTH.out _) _) ?_
        generalize hWW : (w4.alloc (.cells #[.int .u64 x.st, .int .u64 x.e.sq, .int .i64 x.e.tk, .int .i64 x.e.pt, .int .i64 x.e.kd, .int .i64 x.e.a, .int .i64 x.e.b] 27)) = wx
        have hb1 : Below w4.heap.size w4 wx := by rw [← hWW]; exact bAl (Below.refl _ _) _
        have hbx : Blk wx w4.heap.size #[.int .u64 x.st, .int .u64 x.e.sq, .int .i64 x.e.tk, .int .i64 x.e.pt, .int .i64 x.e.kd, .int .i64 x.e.a, .int .i64 x.e.b] 27 := by rw [← hWW]; exact Blk.newAt _ _ _ _ rfl
        generalize hWY : wx.alloc _ = wy
        have hb2 : Below wx.heap.size wx wy := by rw [← hWY]; exact bAl (Below.refl _ _) _
        have hb3 := bCall hb1 hb2
        have hby := hbx.below hb2
        clear hWW hWY hb1 hb2 hbx
        have hgl4 := HO4.out.2.2.1
        have hrl4 := HW4.out.2.2
        have HO5 := Lib.hid ((HO4.out.below hb3).store i hi2 ⟨r', A', c'⟩ ⟨HXg.out.1, HXg.out.2.below hb3⟩)
        have HW5 := Lib.hid ((HW4.out.below hb3).sets (g' := g) (by omega) (i * 9) (RingM.cells ⟨r', A', c'⟩))
        have HE5 : Hid (∀ q ∈ ps.set i ⟨r', A', c'⟩, RdX (wy.setCells g (i * 9) (RingM.cells ⟨r', A', c'⟩)) w2.heap.size q.A (entCells q.r.L)) := fun q hq => by
          rcases List.mem_or_eq_of_mem_set hq with hq | rfl
          · exact ((HE4.out q hq).below hb3).setsO (((HO4.out.2.2.2 q hq).2).below hb3) _ _
          · exact (HXr.out.below hb3).setsO (HXg.out.2.below hb3) _ _
        have HB5 : Hid (Below w.heap.size w (wy.setCells g (i * 9) (RingM.cells ⟨r', A', c'⟩))) := bSts g (by omega) _ _ _ (bCall HB.out hb3)
        have hcx : ∀ j, (wy.setCells g (i * 9) (RingM.cells ⟨r', A', c'⟩)).cell? ⟨w4.heap.size, j, none⟩ = (#[.int .u64 x.st, .int .u64 x.e.sq, .int .i64 x.e.tk, .int .i64 x.e.pt, .int .i64 x.e.kd, .int .i64 x.e.a, .int .i64 x.e.b] : Array Value)[j]? := fun j => by
          rw [World.cell?_setCells_out g _ _ wy ⟨w4.heap.size, j, none⟩ (fun (e : w4.heap.size = g) => by omega)]
          exact hby.cell j
        clear hby HO4 HW4 HE4 HXg HXr HTH HB hb3
        generalize World.setCells wy g (i * 9) _ = w5 at *
        have d0 := hcx 0
        have d1 := hcx 1
        have d2 := hcx 2
        have d3 := hcx 3
        have d4 := hcx 4
        have d5 := hcx 5
        have d6 := hcx 6
        clear hcx
        simp at d0 d1 d2 d3 d4 d5 d6
        have r1 := RowE.app (HW5.out.below (bAl (Below.refl _ _) (.cells #[.int .u64 x.st, .int .u64 x.e.sq, .int .i64 x.e.tk, .int .i64 x.e.pt, .int .i64 x.e.kd, .int .i64 x.e.a, .int .i64 x.e.b] 27))) x (by rw [HK1.out]; exact hlt) (some ⟨w5.heap.size, 0, none⟩) 1 (by rw [show entCells [x] = (#[.int .u64 x.st, .int .u64 x.e.sq, .int .i64 x.e.tk, .int .i64 x.e.pt, .int .i64 x.e.kd, .int .i64 x.e.a, .int .i64 x.e.b] : Array Value).toList from rfl]; exact Rd.newAt _ _ _ _ rfl)
        rw [HK1.out] at r1
        have R1 := Lib.hid r1
        clear r1
        go_wp2_with (at_builtin; refine wpList_append_run (v := .slice (some ⟨w2.heap.size, 0, none⟩) k R) (u := .slice (some ⟨w5.heap.size, 0, none⟩) 1 1) (by rfl) (.tmp 47) (.tmp 49) 22 (by rfl) (by rfl) (by rfl) R1.out ?_)
        have hbz := fun o => bAl (Below.refl w5.heap.size w5) o
        refine ⟨⟨k + 1, ps.set i ⟨r', A', c'⟩, by omega, rfl, ?_, (HO5.out.below (hbz _)).setsO (g' := w2.heap.size) (by omega) _ _ (fun q hq => (HE5.out q hq).below (hbz _)), fun q hq => ((HE5.out q hq).below (hbz _)).sets _ _, ?_, bSts _ (by omega) _ _ _ (bAl HB5.out _)⟩, by simp [lenV]; omega⟩
        · rw [rings_set, HPS.out, HST.out]
        · have := (HW5.out.below (hbz (.cells #[.int .u64 x.st, .int .u64 x.e.sq, .int .i64 x.e.tk, .int .i64 x.e.pt, .int .i64 x.e.kd, .int .i64 x.e.a, .int .i64 x.e.b] 27))).push x (by rw [HK1.out]; exact hlt)
          rw [HK1.out] at this
          rw [HST.out]
          exact this
      · have hkk : k = R := by omega
        subst hkk
        obtain ⟨hk1, hk2⟩ := drainN_ok (rings l) k (by have := HQ.out; omega)
        go_wp2
        go_ret2
        refine ⟨some ⟨w2.heap.size, 0, none⟩, k, some ⟨g, 0, none⟩, c1, ps, ?_, HPS.out, by omega, HW.out.rdn (by omega), by rw [hpl]; exact HC1.out, .inr ⟨g, rfl, hg, HO.out⟩, HB.out⟩
        rw [hk1, hpl]
        rfl
end Go.Proofs.Ytlegpbookbghbaa
