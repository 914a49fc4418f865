/- Disks: their shape, and the small walks of sector; the disk lies in blocks of its own. -/
import Derived.Test.YtlegpbookbghbaaA0
import Derived.Maps.OwnSet
import Derived.Lib.BufferWrite
import Derived.Lib.SlBytesRow
set_option linter.unusedVariables false
set_option linter.unusedSimpArgs false
namespace Go.Proofs.Ytlegpbookbghbaa
open Go.RowKit

def bcells (l : List UInt8) : List Value := l.map fun b => .int .u8 (b.toNat : Int)
def bstr (l : List UInt8) : ByteArray := ⟨l.toArray⟩
theorem bcells_len (l : List UInt8) : (bcells l).length = l.length := by simp [bcells]
theorem bcells_one (l : List UInt8) : ∀ v ∈ bcells l, v.oneCell' = true := by
  intro v hv
  simp only [bcells, List.mem_map] at hv
  obtain ⟨b, _, rfl⟩ := hv
  rfl
theorem bstr_size (l : List UInt8) : (bstr l).size = l.length := by simp [bstr, ByteArray.size]
structure DiskS where
  many : Nat
  size : Nat
  last : List UInt8
  pend : List (Nat × List UInt8)
  down : Bool
  breaks : Bool
  left : Int
/-- Only blocks of S have turned. -/
structure Only (S : Nat → Prop) (w w' : World) : Prop where
  os : w'.os = w.os
  tape : w'.tape = w.tape
  output : w'.output = w.output
  size : w.heap.size ≤ w'.heap.size
  block : ∀ k, k < w.heap.size → ¬ S k → w'.heap[k]? = w.heap[k]?
theorem Only.refl (S : Nat → Prop) (w : World) : Only S w w := ⟨rfl, rfl, rfl, Nat.le_refl _, fun _ _ _ => rfl⟩
theorem Only.trans {S : Nat → Prop} {w w1 w2 : World} (h : Only S w w1) (k : Only S w1 w2) : Only S w w2 :=
  ⟨k.os.trans h.os, k.tape.trans h.tape, k.output.trans h.output, Nat.le_trans h.size k.size, fun i hi hs => (k.block i (Nat.lt_of_lt_of_le hi h.size) hs).trans (h.block i hi hs)⟩
theorem Only.mono {S T : Nat → Prop} {w w1 : World} (h : Only S w w1) (hst : ∀ k, k < w.heap.size → S k → T k) : Only T w w1 :=
  ⟨h.os, h.tape, h.output, h.size, fun i hi hs => h.block i hi fun hn => hs (hst i hi hn)⟩
theorem Only.ofGrown {w w1 : World} {g : Nat} (h : w.grownBy w1 (some g)) : Only (fun k => k = g) w w1 :=
  ⟨h.os, h.tape, h.output, h.size, fun k hk hs => h.block k hk fun e => hs (by simpa using e)⟩
theorem Only.ofBelow {S : Nat → Prop} {w w1 : World} (h : Below w.heap.size w w1) : Only S w w1 :=
  ⟨h.os, h.tape, h.output, h.size, fun k hk _ => h.block k hk⟩
theorem Only.alloc {S : Nat → Prop} {w w1 : World} (h : Only S w w1) (o : Obj) : Only S w (w1.alloc o) := h.trans (Only.ofBelow (belowAlloc w1 o))
theorem Only.drew {S : Nat → Prop} {w w1 : World} (h : Only S w w1) : Only S w w1.drew := h.trans (Only.ofBelow (belowDrew w1))
theorem Only.set {S : Nat → Prop} {w w1 : World} {p : Addr} (hp : S p.block ∨ w.heap.size ≤ p.block) (h : Only S w w1) (u : Value) : Only S w (w1.setCell p u) :=
  ⟨h.os, h.tape, h.output, by simpa using h.size, fun k hk hs => (Below.heap_setCell w1 p u k (fun e => by
    subst e
    rcases hp with hp | hp
    · exact hs hp
    · omega)).trans (h.block k hk hs)⟩
theorem Only.below {S : Nat → Prop} {w0 w w1 : World} (hb : Below w0.heap.size w0 w) (h : Only S w w1) (hs : ∀ k, k < w0.heap.size → ¬ S k) : Below w0.heap.size w0 w1 :=
  ⟨h.os.trans hb.os, h.tape.trans hb.tape, h.output.trans hb.output, Nat.le_trans hb.size h.size, fun k hk => (h.block k (Nat.lt_of_lt_of_le hk hb.size) (hs k hk)).trans (hb.block k hk)⟩
theorem Only.blk {S : Nat → Prop} {w w1 : World} {k : Nat} {cs : Array Value} {t : TypeId} (h : Only S w w1) (hB : Blk w k cs t) (hs : ¬ S k) : Blk w1 k cs t := (h.block k hB.lt hs).trans hB

/-- copy of a string into a row of bytes: as much as there is room for. -/
theorem run_copyB {P : Program} (w : World) (dT sT ty elem : TypeId) (g o dLen dCap : Nat) (l : List UInt8) (cur : Array Value) (t : TypeId)
    (hu : P.underlying dT = some (.slice elem)) (hs : (P.info? elem).map (·.size) = some 1) (hg : w.heap[g]? = some (.cells cur t (0, 0))) (hfit : o + dLen ≤ cur.size) (hle : dLen ≤ l.length) :
    (Builtin.copy_ #[dT, sT] ty #[.slice (some ⟨g, o, none⟩) dLen dCap, .string (bstr l)]).run P w =
      .ok (goInt dLen) (w.setRow g (cur.toList.take o ++ bcells (l.take dLen) ++ cur.toList.drop (o + dLen)).toArray) := by
  have hlen : (bcells (l.take dLen)).length = dLen := by rw [bcells_len, List.length_take]; omega
  have hst := run_storeCells_at P g o t (bcells (l.take dLen)) 0 cur w hg (by rw [hlen]; simpa using hfit) (bcells_one _)
  have hmin : Nat.min (bstr l).size dLen = dLen := by rw [bstr_size]; exact Nat.min_eq_right hle
  have htk : List.take dLen (List.map (fun b : UInt8 => Value.int IntKind.u8 (b.toNat : Int)) (bstr l).data.toList) = bcells (l.take dLen) := by
    simp [bstr, bcells, List.map_take]
  rw [hlen] at hst
  simp only [Nat.add_zero] at hst
  cases hq : P.info? elem with
  | none => simp [hq] at hs
  | some i =>
    simp [Builtin.copy_, run_underlying hu, Builtin.lenOf, Builtin.firstCells, sizeOf, typeInfo, hq, hmin]
    rw [htk, hst]
    simp [Result.andThen]
theorem info5 : (Try.prog.info? 5).map (fun i => (i.zero, i.size, i.bytes)) = some (some (.int .u8 0), 1, 1) := by kernel_rfl
theorem size5 : (Try.prog.info? 5).map (·.size) = some 1 := by kernel_rfl
/-- b over the bytes of l from place o on. -/
def putB (l : List UInt8) (o : Nat) (b : List UInt8) : List UInt8 := l.take o ++ b ++ l.drop (o + b.length)
theorem putB_len {l : List UInt8} {o : Nat} {b : List UInt8} (h : o + b.length ≤ l.length) : (putB l o b).length = l.length := by
  simp [putB, List.length_take, List.length_drop]
  omega
theorem Blk.setRow {w : World} {g : Nat} {cur cs : Array Value} {t : TypeId} (h : Blk w g cur t) : Blk (w.setRow g cs) g cs t := setRow_heap w g cur cs t (0, 0) h
theorem grownSetRow (w : World) (g : Nat) (cs : Array Value) : w.grownBy (w.setRow g cs) (some g) := ⟨rfl, rfl, rfl, by simp, fun k _ hk => setRow_other w g k cs fun e => hk (by rw [e])⟩
theorem bcells_putB (l b : List UInt8) (o m : Nat) (h : m ≤ b.length) : bcells (putB l o (b.take m)) = (bcells l).take o ++ bcells (b.take m) ++ (bcells l).drop (o + m) := by
  have : (b.take m).length = m := by rw [List.length_take]; omega
  simp [bcells, putB, List.map_take, List.map_drop, this]
set_option maxRecDepth 100000 in set_option maxHeartbeats 2000000 in
theorem doIt79 (l b : List UInt8) (g o n c kb most : Nat) (w : World) (hB : Blk w kb #[.string (bstr b)] 9) (hl : Blk w g (bcells l).toArray 5) (hn : most ≤ n) (hc : n ≤ c) (ho : o + n ≤ l.length) (hb : most ≤ b.length) (hlb : l.length ≤ 1000000000) :
    Calls Try.prog 79 #[.slice (some ⟨g, o, none⟩) n c, .int .i64 most, .pointer (some ⟨kb, 0, none⟩)] w fun e w' => (∃ v, e = .returned v) ∧ Blk w' g (bcells (putB l o (b.take most))).toArray 5 ∧ Only (fun k => k = g) w w' := by
  have hu109 := Try.underlying109
  have hcp := fun (W : World) (hW : W.heap[g]? = some (.cells (bcells l).toArray 5 (0, 0))) (ty : TypeId) => run_copyB (P := Try.prog) W 109 9 ty 5 g o most c b (bcells l).toArray 5 Try.underlying109 size5 hW (by simp [bcells_len]; omega) hb
  have h1 := hcp w hl 3
  have h2 := hcp w.drew hl 3
  have cb : w.cell? ⟨kb, 0, none⟩ = some (.string (bstr b)) := hB.cell 0
  have i1 : (most : Int) ≤ (n : Int) := by omega
  have i2 : (most : Int) ≤ (c : Int) := by omega
  have HL := Lib.hid hl
  have HB := Lib.hid hB
  clear hcp hl hB
  go_enter Try.func79, Try.ntmps79
  go_wp2_with fail
  go_region
  refine bodyPost_end (v := .tuple #[]) (by simp [results, Try.results79, go_sem]) rfl ?_
  refine ⟨⟨_, rfl⟩, (Blk.setRow (w := w.drew) HL.out).cast ?_, (Only.ofBelow (belowDrew w)).trans (Only.ofGrown (grownSetRow _ _ _))⟩
  rw [bcells_putB l b o most hb, List.append_assoc]
end Go.Proofs.Ytlegpbookbghbaa
