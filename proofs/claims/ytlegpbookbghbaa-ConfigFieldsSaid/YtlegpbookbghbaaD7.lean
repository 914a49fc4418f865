/- Blocks that are held, many at once; the lists of rules by them. -/
import Derived.Test.YtlegpbookbghbaaD6
set_option linter.unusedVariables false
set_option linter.unusedSimpArgs false
namespace Go.Proofs.Ytlegpbookbghbaa
open Go.RowKit

/-- Each of these blocks is just this row of cells; its number is from lo on, below hi. -/
def Held (W : World) (lo hi : Nat) (l : List (Nat × Array Value × TypeId)) : Prop := ∀ x ∈ l, Blk W x.1 x.2.1 x.2.2 ∧ lo ≤ x.1 ∧ x.1 < hi
theorem Held.below {W W1 : World} {lo hi : Nat} {l : List (Nat × Array Value × TypeId)} (h : Held W lo hi l) (hb : Below W.heap.size W W1) : Held W1 lo hi l :=
  fun x hx => ⟨(h x hx).1.below hb, (h x hx).2⟩
theorem Held.belowB {W W1 : World} {lo hi B : Nat} {l : List (Nat × Array Value × TypeId)} (h : Held W lo hi l) (hb : Below B W W1) (hB : hi ≤ B) : Held W1 lo hi l :=
  fun x hx => ⟨(h x hx).1.belowB hb (Nat.lt_of_lt_of_le (h x hx).2.2 hB), (h x hx).2⟩
theorem Held.alloc {W : World} {lo hi : Nat} {l : List (Nat × Array Value × TypeId)} (h : Held W lo hi l) (o : Obj) : Held (W.alloc o) lo hi l := h.below (belowAlloc W o)
theorem Held.drew {W : World} {lo hi : Nat} {l : List (Nat × Array Value × TypeId)} (h : Held W lo hi l) : Held W.drew lo hi l := h.below (belowDrew W)
theorem Held.setO {W : World} {lo hi : Nat} {l : List (Nat × Array Value × TypeId)} {p : Addr} (hp : p.block < lo ∨ hi ≤ p.block) (h : Held W lo hi l) (u : Value) : Held (W.setCell p u) lo hi l :=
  fun x hx => ⟨Blk.setO (by have := (h x hx).2; omega) (h x hx).1 u, (h x hx).2⟩
theorem Held.mono {W : World} {lo hi lo' hi' : Nat} {l : List (Nat × Array Value × TypeId)} (h : Held W lo hi l) (h1 : lo' ≤ lo) (h2 : hi ≤ hi') : Held W lo' hi' l :=
  fun x hx => ⟨(h x hx).1, by have := (h x hx).2; omega, by have := (h x hx).2; omega⟩
theorem Held.append {W : World} {lo hi : Nat} {l m : List (Nat × Array Value × TypeId)} (h : Held W lo hi l) (k : Held W lo hi m) : Held W lo hi (l ++ m) :=
  fun x hx => (List.mem_append.1 hx).elim (h x) (k x)
theorem Held.nil (W : World) (lo hi : Nat) : Held W lo hi [] := fun x hx => by cases hx
theorem Held.cons {W : World} {lo hi k : Nat} {cs : Array Value} {t : TypeId} {l : List (Nat × Array Value × TypeId)} (hb : Blk W k cs t) (h1 : lo ≤ k) (h2 : k < hi) (h : Held W lo hi l) : Held W lo hi ((k, cs, t) :: l) :=
  fun x hx => (List.mem_cons.1 hx).elim (fun e => by rw [e]; exact ⟨hb, h1, h2⟩) (h x)
theorem Held.get {W : World} {lo hi k : Nat} {cs : Array Value} {t : TypeId} {l : List (Nat × Array Value × TypeId)} (h : Held W lo hi l) (hm : (k, cs, t) ∈ l) : Blk W k cs t := (h _ hm).1

theorem numbers62h (p : PlanS) (A B C : Option Addr) (a b c : Nat) (w : World) :
    Calls Try.prog 62 #[.agg #[.int .i64 p.mem, .slice A p.parts.length a, .slice B p.wins.length b, .slice C p.chans.length c]] w fun e w' => ∃ kb rb, e = .returned (.agg #[.int .i64 1, .slice (some ⟨rb, 0, none⟩) 1 1]) ∧
      Held w' w.heap.size w'.heap.size [(kb, #[.int .i64 p.mem, .slice A p.parts.length a, .slice B p.wins.length b, .slice C p.chans.length c], 50), (rb, #[.int .i64 2, .func (.func 85) #[] #[.pointer (some ⟨kb, 0, none⟩)]], 102)] ∧ Below w.heap.size w w' := by
  refine (numbers62 p A B C a b c w).mono ?_
  rintro e w' ⟨kb, rb, rfl, h1, h2, h3, h4, hb⟩
  exact ⟨kb, rb, rfl, .cons h3 h1 h3.lt (.cons h4 h2 h4.lt (.nil _ _ _)), hb⟩
theorem parts63h (p : PlanS) (A B C : Option Addr) (a b c : Nat) (at_ : Nat) (w : World) :
    Calls Try.prog 63 #[.agg #[.int .i64 p.mem, .slice A p.parts.length a, .slice B p.wins.length b, .slice C p.chans.length c], .pointer (some ⟨at_, 0, none⟩)] w fun e w' => ∃ kb ka rb, e = .returned (.agg #[.int .i64 p.parts.length, .slice (some ⟨rb, 0, none⟩) 4 4]) ∧
      Held w' w.heap.size w'.heap.size [(kb, #[.int .i64 p.mem, .slice A p.parts.length a, .slice B p.wins.length b, .slice C p.chans.length c], 50), (ka, #[.pointer (some ⟨at_, 0, none⟩)], 99), (rb, #[.int .i64 6, .func (.func 87) #[] #[.pointer (some ⟨kb, 0, none⟩), .pointer (some ⟨ka, 0, none⟩)], .int .i64 14, .func (.func 88) #[] #[.pointer (some ⟨ka, 0, none⟩), .pointer (some ⟨kb, 0, none⟩)], .int .i64 2, .func (.func 89) #[] #[.pointer (some ⟨kb, 0, none⟩), .pointer (some ⟨ka, 0, none⟩)], .int .i64 12, .func (.func 90) #[] #[.pointer (some ⟨kb, 0, none⟩), .pointer (some ⟨ka, 0, none⟩)]], 102)] ∧ Below w.heap.size w w' := by
  refine (parts63 p A B C a b c at_ w).mono ?_
  rintro e w' ⟨kb, ka, rb, rfl, h1, h2, h3, h4, h5, h6, hb⟩
  exact ⟨kb, ka, rb, rfl, .cons h4 h1 h4.lt (.cons h5 h2 h5.lt (.cons h6 h3 h6.lt (.nil _ _ _))), hb⟩
theorem windows64h (p : PlanS) (A B C : Option Addr) (a b c : Nat) (at_ : Nat) (w : World) :
    Calls Try.prog 64 #[.agg #[.int .i64 p.mem, .slice A p.parts.length a, .slice B p.wins.length b, .slice C p.chans.length c], .pointer (some ⟨at_, 0, none⟩)] w fun e w' => ∃ kb ka rb, e = .returned (.agg #[.int .i64 p.wins.length, .slice (some ⟨rb, 0, none⟩) 2 2]) ∧
      Held w' w.heap.size w'.heap.size [(kb, #[.int .i64 p.mem, .slice A p.parts.length a, .slice B p.wins.length b, .slice C p.chans.length c], 50), (ka, #[.pointer (some ⟨at_, 0, none⟩)], 99), (rb, #[.int .i64 1, .func (.func 91) #[] #[.pointer (some ⟨kb, 0, none⟩), .pointer (some ⟨ka, 0, none⟩)], .int .i64 2, .func (.func 92) #[] #[.pointer (some ⟨kb, 0, none⟩), .pointer (some ⟨ka, 0, none⟩)]], 102)] ∧ Below w.heap.size w w' := by
  refine (windows64 p A B C a b c at_ w).mono ?_
  rintro e w' ⟨kb, ka, rb, rfl, h1, h2, h3, h4, h5, h6, hb⟩
  exact ⟨kb, ka, rb, rfl, .cons h4 h1 h4.lt (.cons h5 h2 h5.lt (.cons h6 h3 h6.lt (.nil _ _ _))), hb⟩
theorem trace65h (p : PlanS) (A B C : Option Addr) (a b c : Nat) (w : World) :
    Calls Try.prog 65 #[.agg #[.int .i64 p.mem, .slice A p.parts.length a, .slice B p.wins.length b, .slice C p.chans.length c]] w fun e w' => ∃ kb rb, e = .returned (.agg #[.int .i64 1, .slice (some ⟨rb, 0, none⟩) 1 1]) ∧
      Held w' w.heap.size w'.heap.size [(kb, #[.int .i64 p.mem, .slice A p.parts.length a, .slice B p.wins.length b, .slice C p.chans.length c], 50), (rb, #[.int .i64 7, .func (.func 93) #[] #[.pointer (some ⟨kb, 0, none⟩)]], 102)] ∧ Below w.heap.size w w' := by
  refine (trace65 p A B C a b c w).mono ?_
  rintro e w' ⟨kb, rb, rfl, h1, h2, h3, h4, hb⟩
  exact ⟨kb, rb, rfl, .cons h3 h1 h3.lt (.cons h4 h2 h4.lt (.nil _ _ _)), hb⟩
theorem channels66h (p : PlanS) (A B C : Option Addr) (a b c : Nat) (at_ : Nat) (w : World) (hn : p.parts.length ≤ 20) :
    Calls Try.prog 66 #[.agg #[.int .i64 p.mem, .slice A p.parts.length a, .slice B p.wins.length b, .slice C p.chans.length c], .pointer (some ⟨at_, 0, none⟩)] w fun e w' => ∃ kb ka kl rb, e = .returned (.agg #[.int .i64 p.chans.length, .slice (some ⟨rb, 0, none⟩) 3 3]) ∧
      Held w' w.heap.size w'.heap.size [(kb, #[.int .i64 p.mem, .slice A p.parts.length a, .slice B p.wins.length b, .slice C p.chans.length c], 50), (ka, #[.pointer (some ⟨at_, 0, none⟩)], 99), (kl, #[.int .i64 ((p.parts.length : Int) - 1)], 3), (rb, #[.int .i64 12, .func (.func 94) #[] #[.pointer (some ⟨kb, 0, none⟩), .pointer (some ⟨ka, 0, none⟩)], .int .i64 1, .func (.func 95) #[] #[.pointer (some ⟨kb, 0, none⟩), .pointer (some ⟨ka, 0, none⟩), .pointer (some ⟨kl, 0, none⟩)], .int .i64 2, .func (.func 96) #[] #[.pointer (some ⟨kb, 0, none⟩), .pointer (some ⟨ka, 0, none⟩)]], 102)] ∧ Below w.heap.size w w' := by
  refine (channels66 p A B C a b c at_ w hn).mono ?_
  rintro e w' ⟨kb, ka, kl, rb, rfl, h1, h2, h3, h4, h5, h6, h7, h8, hb⟩
  exact ⟨kb, ka, kl, rb, rfl, .cons h5 h1 h5.lt (.cons h6 h2 h6.lt (.cons h7 h3 h7.lt (.cons h8 h4 h8.lt (.nil _ _ _)))), hb⟩
end Go.Proofs.Ytlegpbookbghbaa
