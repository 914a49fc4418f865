/- RingKeeps answers true, its cases joined; the entries lie in memory. -/
import Derived.Test.YtlegpbookbghbaaB4
set_option linter.unusedVariables false
set_option linter.unusedSimpArgs false
namespace Go.Proofs.Ytlegpbookbghbaa
open Go.RowKit

theorem takeS_len (r : RingS) : (takeS r).2.1.L.length ≤ r.L.length := by
  unfold takeS
  split
  · split
    · rename_i h; rw [h]; simp
    · split <;> simp
  · exact Nat.le_refl _
theorem ringKeeps5long (r : RingS) (A : Option Addr) (c : Nat) (x y : Ent) (w : World) (hs : ¬ r.L.length ≤ 200) :
    Calls Try.prog 5 #[.agg #[.int .i64 r.room, .slice A r.L.length c, .int .u64 r.gap.st, .int .u64 r.gap.e.sq, .int .i64 r.gap.e.tk, .int .i64 r.gap.e.pt, .int .i64 r.gap.e.kd, .int .i64 r.gap.e.a, .int .i64 r.gap.e.b], .agg #[.int .u64 x.st, .int .u64 x.e.sq, .int .i64 x.e.tk, .int .i64 x.e.pt, .int .i64 x.e.kd, .int .i64 x.e.a, .int .i64 x.e.b], .agg #[.int .u64 y.st, .int .u64 y.e.sq, .int .i64 y.e.tk, .int .i64 y.e.pt, .int .i64 y.e.kd, .int .i64 y.e.a, .int .i64 y.e.b]] w fun e w' => e = .returned (.bool true) ∧ Below w.heap.size w w' := by
  have hu29 := Try.underlying29
  have hu27 := Try.underlying27
  have hl1 : (200 : Int) < (r.L.length : Int) := by omega
  go_enter Try.func5, Try.ntmps5
  go_wp2
  go_ret
  refine ⟨rfl, ?_⟩
  repeat (first | (with_reducible exact Below.refl _ _) | (with_reducible apply bAl))
theorem ringKeeps5 (r : RingS) (A : Option Addr) (c : Nat) (x y : Ent) (w : World) (hA : Rd w A (entCells r.L)) (hl : r.L.length ≤ c) :
    Calls Try.prog 5 #[.agg #[.int .i64 r.room, .slice A r.L.length c, .int .u64 r.gap.st, .int .u64 r.gap.e.sq, .int .i64 r.gap.e.tk, .int .i64 r.gap.e.pt, .int .i64 r.gap.e.kd, .int .i64 r.gap.e.a, .int .i64 r.gap.e.b], .agg #[.int .u64 x.st, .int .u64 x.e.sq, .int .i64 x.e.tk, .int .i64 x.e.pt, .int .i64 x.e.kd, .int .i64 x.e.a, .int .i64 x.e.b], .agg #[.int .u64 y.st, .int .u64 y.e.sq, .int .i64 y.e.tk, .int .i64 y.e.pt, .int .i64 y.e.kd, .int .i64 y.e.a, .int .i64 y.e.b]] w fun e w' => e = .returned (.bool true) ∧ Below w.heap.size w w' := by
  by_cases hs : r.L.length ≤ 200
  · have lx := putS_len r x
    have ly := putS_len r y
    have lt := takeS_len r
    have hK : KeepsIn r x y (allS r) (allS (putS r x).1) (allS (putS r y).1) (allS (takeS r).2.1) (putS r x).1 (putS r y).1 (takeS r).2.1 (putS r x).2 (putS r y).2 (takeS r).1 (takeS r).2.2 :=
      { all_ := fun w A c h hc => allR r A c w h hc (by omega)
        putx := fun w A c h => putR r x A c w h (by omega)
        puty := fun w A c h => putR r y A c w h (by omega)
        allx := fun w A c h hc => allR _ A c w h hc (by omega)
        ally := fun w A c h hc => allR _ A c w h hc (by omega)
        take_ := fun w A c h hc => takeR r A c w h hc (by omega)
        alls := fun w A c h hc => allR _ A c w h hc (by omega)
        selfx := fun w A c S d h h' => entriesSelf A c _ S d w h h' (by have := allS_len (putS r x).1; omega)
        selfr := fun w A c S d h h' => entriesSelf A c _ S d w h h' (by have := allS_len r; omega)
        selft := fun w A c S d h h' => entriesSelf A c _ S d w h h' (by have := allS_len (takeS r).2.1; omega) }
    have ex := putS_err r x
    have ey := putS_err r y
    have px := fun h => allS_put (r := r) (x := x) h
    have py := fun h => allS_put (r := r) (x := y) h
    have tn := fun h => takeS_no (r := r) h
    have ty := fun h => takeS_yes (r := r) h
    generalize allS r = was at hK px py tn ty
    generalize putS r x = qx at hK px ex
    generalize putS r y = qy at hK py ey
    generalize takeS r = t at hK tn ty
    obtain ⟨qx, ex'⟩ := qx
    obtain ⟨qy, ey'⟩ := qy
    obtain ⟨first, s, ok⟩ := t
    simp only at hK px py tn ty ex ey
    cases ok with
    | false =>
      obtain rfl := tn rfl
      rcases ex with rfl | rfl
      · rcases ey with rfl | rfl
        · have h1 := (px rfl).1
          have h2 := (py rfl).1
          exact keepsNo00 r A c x y w hA hl hs _ _ _ qx qy s first hK (by rw [h1, h2]; simp) (by omega)
        · exact keepsNo01 r A c x y w hA hl hs _ _ _ qx qy s first hK
      · exact keepsNo1 r A c x y w hA hl hs _ _ _ qx qy s ey' first hK
    | true =>
      obtain rfl := ty rfl
      rcases ex with rfl | rfl
      · rcases ey with rfl | rfl
        · have h1 := (px rfl).1
          have h2 := (py rfl).1
          have h3 := (px rfl).2
          have h4 : (allS s).length + 1 ≤ putLen r := h3
          exact keepsYes00 r A c x y w hA hl hs _ _ _ qx qy s first hK (by rw [h1, h2]; simp) (by omega)
        · exact keepsYes01 r A c x y w hA hl hs _ _ _ qx qy s first hK
      · exact keepsYes1 r A c x y w hA hl hs _ _ _ qx qy s ey' first hK
  · exact ringKeeps5long r A c x y w hs
end Go.Proofs.Ytlegpbookbghbaa
