/- Disks in memory: the whole of one, and what keeps it; the disk lies in blocks of its own. -/
import Derived.Test.YtlegpbookbghbaaG4
set_option linter.unusedVariables false
set_option linter.unusedSimpArgs false
namespace Go.Proofs.Ytlegpbookbghbaa
open Go.RowKit

theorem info114 : (Try.prog.info? 114).map (fun i => (i.zero, i.size, i.bytes)) = some (some .nilFunc, 1, 8) := by kernel_rfl
theorem info3 : (Try.prog.info? 3).map (fun i => (i.zero, i.size, i.bytes)) = some (some (.int .i64 0), 1, 8) := by kernel_rfl
/-- The newest write of each place. -/
def mapS (l : List (Nat × List UInt8)) : DataW Unit := l.zipIdx.foldl (fun M p => M.put (.int .i64 (p.1.1 : Int)) (.lit (.int .i64 (p.2 : Int)))) (.map [])
theorem mapS_snoc (l : List (Nat × List UInt8)) (x : Nat × List UInt8) : mapS (l ++ [x]) = (mapS l).put (.int .i64 (x.1 : Int)) (.lit (.int .i64 (l.length : Int))) := by
  unfold mapS
  rw [List.zipIdx_append, List.foldl_append]
  simp
def funOf (k : Nat) : Value := .func (.func 79) #[] #[.pointer (some ⟨k, 0, none⟩)]
def OwnLt (v : Value) (hi : Nat) : Prop := ∀ g, v.ownBlock = some g → g < hi
/-- A disk in blocks from lo on, below hi. -/
structure DiskB (w : World) (lo hi kd kl km : Nat) (pA wA : Option Addr) (pc wc : Nat) (ks : List Nat) (D : DiskS) : Prop where
  blk : Blk w kd #[.int .i64 D.many, .int .i64 D.size, .slice (some ⟨kl, 0, none⟩) (D.many * D.size) (D.many * D.size), .slice pA D.pend.length pc, .slice wA D.pend.length wc, .map (some km), .bool D.down, .bool D.breaks, .int .i64 D.left] 113
  last : Blk w kl (bcells D.last).toArray 5
  map : MapAt w km D.pend.length (mapS D.pend)
  pend : w.ownsRow lo 114 1 (.slice pA D.pend.length pc) D.pend.length (ks.map funOf)
  plt : OwnLt (.slice pA D.pend.length pc) hi
  wher : w.ownsRow lo 3 1 (.slice wA D.pend.length wc) D.pend.length (D.pend.map fun p => .int .i64 (p.1 : Int))
  wlt : OwnLt (.slice wA D.pend.length wc) hi
  kslen : ks.length = D.pend.length
  strs : ∀ i (h1 : i < ks.length) (h2 : i < D.pend.length), lo ≤ ks[i] ∧ ks[i] < hi ∧ Blk w ks[i] #[.string (bstr D.pend[i].2)] 9
  bd : lo ≤ kd ∧ kd < hi ∧ lo ≤ kl ∧ kl < hi ∧ lo ≤ km ∧ km < hi
structure DOk (D : DiskS) : Prop where
  many : 1 ≤ D.many ∧ D.many ≤ 4096
  size : 64 ≤ D.size ∧ D.size ≤ 1024
  last : D.last.length = D.many * D.size
  pend : ∀ p ∈ D.pend, p.1 < D.many ∧ p.2.length = D.size
  few : D.pend.length ≤ 1000
  left : D.breaks = true → 1 ≤ D.left ∧ D.left ≤ 9223372036854775807
theorem ownsOnly {S : Nat → Prop} {w w1 : World} {base : Nat} {e : TypeId} {size n : Nat} {v : Value} {xs : List Value} (h : w.ownsRow base e size v n xs) (ho : Only S w w1) (hs : ∀ g, v.ownBlock = some g → ¬ S g) : w1.ownsRow base e size v n xs := by
  refine ⟨h.1, ?_⟩
  rcases h.2 with h2 | ⟨g, cap, cur, rfl, hb, hh, hc, hm, hz, ht⟩
  · exact .inl h2
  · exact .inr ⟨g, cap, cur, rfl, hb, (ho.block g (Array.getElem?_eq_some_iff.1 hh).1 (hs g rfl)).trans hh, hc, hm, hz, ht⟩
theorem mapOnly {S : Nat → Prop} {w w1 : World} {km n : Nat} {M : DataW Unit} (h : MapAt w km n M) (ho : Only S w w1) (hs : ¬ S km) : MapAt w1 km n M := by
  have hlt := World.ownsMap.lt h
  obtain ⟨es, clock, hb, F, hz, hD⟩ := h
  exact ⟨es, clock, (ho.block km hlt hs).trans hb, F, hz, hD⟩
theorem ownsLo {w : World} {base : Nat} {e : TypeId} {size n : Nat} {v : Value} {xs : List Value} (h : w.ownsRow base e size v n xs) : ∀ g, v.ownBlock = some g → base ≤ g := by
  intro g hg
  rcases h.2 with ⟨rfl, _⟩ | ⟨g', cap, cur, rfl, hb, _⟩
  · cases hg
  · simp only [Value.ownBlock, Option.some.injEq] at hg
    omega
theorem DiskB.only {w : World} {lo hi kd kl km : Nat} {pA wA : Option Addr} {pc wc : Nat} {ks : List Nat} {D : DiskS} {S : Nat → Prop} {w1 : World} (h : DiskB w lo hi kd kl km pA wA pc wc ks D) (ho : Only S w w1) (hs : ∀ k, lo ≤ k → k < hi → ¬ S k) : DiskB w1 lo hi kd kl km pA wA pc wc ks D where
  blk := ho.blk h.blk (hs _ h.bd.1 h.bd.2.1)
  last := ho.blk h.last (hs _ h.bd.2.2.1 h.bd.2.2.2.1)
  map := mapOnly h.map ho (hs _ h.bd.2.2.2.2.1 h.bd.2.2.2.2.2)
  pend := ownsOnly h.pend ho fun g hg => hs g (ownsLo h.pend g hg) (h.plt g hg)
  plt := h.plt
  wher := ownsOnly h.wher ho fun g hg => hs g (ownsLo h.wher g hg) (h.wlt g hg)
  wlt := h.wlt
  kslen := h.kslen
  strs := fun i h1 h2 => ⟨(h.strs i h1 h2).1, (h.strs i h1 h2).2.1, ho.blk (h.strs i h1 h2).2.2 (hs _ (h.strs i h1 h2).1 (h.strs i h1 h2).2.1)⟩
  bd := h.bd
theorem DiskB.below {w : World} {lo hi kd kl km : Nat} {pA wA : Option Addr} {pc wc : Nat} {ks : List Nat} {D : DiskS} {w1 : World} (h : DiskB w lo hi kd kl km pA wA pc wc ks D) (hb : Below w.heap.size w w1) : DiskB w1 lo hi kd kl km pA wA pc wc ks D := h.only (S := fun _ => False) (Only.ofBelow hb) (fun _ _ _ h => h)
theorem DiskB.mono {w : World} {lo hi kd kl km : Nat} {pA wA : Option Addr} {pc wc : Nat} {ks : List Nat} {D : DiskS} {hi' : Nat} (h : DiskB w lo hi kd kl km pA wA pc wc ks D) (hh : hi ≤ hi') : DiskB w lo hi' kd kl km pA wA pc wc ks D :=
  ⟨h.blk, h.last, h.map, h.pend, fun g hg => Nat.lt_of_lt_of_le (h.plt g hg) hh, h.wher, fun g hg => Nat.lt_of_lt_of_le (h.wlt g hg) hh, h.kslen, fun i h1 h2 => ⟨(h.strs i h1 h2).1, Nat.lt_of_lt_of_le (h.strs i h1 h2).2.1 hh, (h.strs i h1 h2).2.2⟩, by have := h.bd; omega⟩
/-- Some disk at block kd. -/
def DiskAt (w : World) (lo hi kd : Nat) (D : DiskS) : Prop := ∃ kl km pA wA pc wc ks, DiskB w lo hi kd kl km pA wA pc wc ks D
theorem DiskAt.only {w w1 : World} {lo hi kd : Nat} {D : DiskS} {S : Nat → Prop} (h : DiskAt w lo hi kd D) (ho : Only S w w1) (hs : ∀ k, lo ≤ k → k < hi → ¬ S k) : DiskAt w1 lo hi kd D := by
  obtain ⟨kl, km, pA, wA, pc, wc, ks, h⟩ := h
  exact ⟨kl, km, pA, wA, pc, wc, ks, h.only ho hs⟩
theorem DiskAt.below {w w1 : World} {lo hi kd : Nat} {D : DiskS} (h : DiskAt w lo hi kd D) (hb : Below w.heap.size w w1) : DiskAt w1 lo hi kd D :=
  h.only (S := fun _ => False) (Only.ofBelow hb) (fun _ _ _ h => h)
theorem DiskAt.mono {w : World} {lo hi hi' kd : Nat} {D : DiskS} (h : DiskAt w lo hi kd D) (hh : hi ≤ hi') : DiskAt w lo hi' kd D := by
  obtain ⟨kl, km, pA, wA, pc, wc, ks, h⟩ := h
  exact ⟨kl, km, pA, wA, pc, wc, ks, h.mono hh⟩
/-- The blocks from lo on, below hi. -/
def In (lo hi : Nat) : Nat → Prop := fun k => lo ≤ k ∧ k < hi
theorem newDisk (m s : Nat) (w : World) (hm1 : 1 ≤ m) (hm2 : m ≤ 4096) (hs1 : 64 ≤ s) (hs2 : s ≤ 1024) :
    Calls Try.prog 45 #[.int .i64 m, .int .i64 s] w fun e w' => ∃ kd, e = .returned (.tuple #[.pointer (some ⟨kd, 0, none⟩), .int .i64 0]) ∧ DiskAt w' w.heap.size w'.heap.size kd (newS m s) ∧ Below w.heap.size w w' := by
  refine (new45 m s w hm1 hm2 hs1 hs2).mono ?_
  rintro e w' ⟨rfl, h1, h2, h3, h4, hb⟩
  refine ⟨_, rfl, ⟨w.heap.size, w.heap.size + 1, none, none, 0, 0, [], h1, h2, h3, World.ownsRow_nil _ _ _ _, fun g hg => (by cases hg), World.ownsRow_nil _ _ _ _, fun g hg => (by cases hg), rfl, fun i h1 _ => absurd h1 (Nat.not_lt_zero _), by omega⟩, hb⟩
theorem newOk (m s : Nat) (hm1 : 1 ≤ m) (hm2 : m ≤ 4096) (hs1 : 64 ≤ s) (hs2 : s ≤ 1024) : DOk (newS m s) :=
  ⟨⟨hm1, hm2⟩, ⟨hs1, hs2⟩, by simp [newS], fun p hp => (by cases hp), Nat.zero_le _, fun h => (by cases h)⟩
end Go.Proofs.Ytlegpbookbghbaa
