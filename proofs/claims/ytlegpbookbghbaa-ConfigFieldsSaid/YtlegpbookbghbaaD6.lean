/- The lists of rules: what they lay in memory. -/
import Derived.Test.YtlegpbookbghbaaD5
set_option linter.unusedVariables false
set_option linter.unusedSimpArgs false
namespace Go.Proofs.Ytlegpbookbghbaa
open Go.RowKit

theorem hmf : ∀ (fn : Fn) (first cap : Array Value) (w : World), (Instr.makeFunc fn first cap).run Try.prog w = .ok (.func fn first cap) w := fun _ _ _ _ => rfl
set_option maxRecDepth 100000 in set_option maxHeartbeats 1000000 in
theorem numbers62 (p : PlanS) (A B C : Option Addr) (a b c : Nat) (w : World) :
    Calls Try.prog 62 #[.agg #[.int .i64 p.mem, .slice A p.parts.length a, .slice B p.wins.length b, .slice C p.chans.length c]] w fun e w' => ∃ kb rb, e = .returned (.agg #[.int .i64 1, .slice (some ⟨rb, 0, none⟩) 1 1]) ∧ w.heap.size ≤ kb ∧ w.heap.size ≤ rb ∧
      Blk w' kb #[.int .i64 p.mem, .slice A p.parts.length a, .slice B p.wins.length b, .slice C p.chans.length c] 50 ∧ Blk w' rb #[.int .i64 2, .func (.func 85) #[] #[.pointer (some ⟨kb, 0, none⟩)]] 102 ∧ Below w.heap.size w w' := by
  have hu50 := Try.underlying50
  have hu96 := Try.underlying96
  have hu102 := Try.underlying102
  have hmf := hmf
  go_enter Try.func62, Try.ntmps62
  go_wp2
  refine bodyPost_ret (v := .agg #[.int .i64 1, .slice (some ⟨w.heap.size + 1 + 1, 0, none⟩) 1 1]) (by simp [results, Try.results62, go_sem]) rfl ?_
  refine ⟨w.heap.size, w.heap.size + 1 + 1, rfl, by omega, by omega, ?_, ?_, ?_⟩
  · exact ((Blk.newAt _ _ _ _ rfl).alloc _).alloc _
  · exact Blk.newAt _ _ _ _ (by simp)
  · exact bAl (bAl (bAl (Below.refl _ _) _) _) _
set_option maxRecDepth 100000 in set_option maxHeartbeats 1000000 in
theorem parts63 (p : PlanS) (A B C : Option Addr) (a b c : Nat) (at_ : Nat) (w : World) :
    Calls Try.prog 63 #[.agg #[.int .i64 p.mem, .slice A p.parts.length a, .slice B p.wins.length b, .slice C p.chans.length c], .pointer (some ⟨at_, 0, none⟩)] w fun e w' => ∃ kb ka rb, e = .returned (.agg #[.int .i64 p.parts.length, .slice (some ⟨rb, 0, none⟩) 4 4]) ∧ w.heap.size ≤ kb ∧ w.heap.size ≤ ka ∧ w.heap.size ≤ rb ∧
      Blk w' kb #[.int .i64 p.mem, .slice A p.parts.length a, .slice B p.wins.length b, .slice C p.chans.length c] 50 ∧ Blk w' ka #[.pointer (some ⟨at_, 0, none⟩)] 99 ∧ Blk w' rb #[.int .i64 6, .func (.func 87) #[] #[.pointer (some ⟨kb, 0, none⟩), .pointer (some ⟨ka, 0, none⟩)], .int .i64 14, .func (.func 88) #[] #[.pointer (some ⟨ka, 0, none⟩), .pointer (some ⟨kb, 0, none⟩)], .int .i64 2, .func (.func 89) #[] #[.pointer (some ⟨kb, 0, none⟩), .pointer (some ⟨ka, 0, none⟩)], .int .i64 12, .func (.func 90) #[] #[.pointer (some ⟨kb, 0, none⟩), .pointer (some ⟨ka, 0, none⟩)]] 102 ∧ Below w.heap.size w w' := by
  have hu50 := Try.underlying50
  have hu96 := Try.underlying96
  have hu102 := Try.underlying102
  have hmf := hmf
  go_enter Try.func63, Try.ntmps63
  go_wp2
  refine bodyPost_ret (v := .agg #[.int .i64 p.parts.length, .slice (some ⟨w.heap.size + 1 + 1 + 1, 0, none⟩) 4 4]) (by simp [results, Try.results63, go_sem]) rfl ?_
  refine ⟨w.heap.size, w.heap.size + 1, w.heap.size + 1 + 1 + 1, rfl, by omega, by omega, by omega, ?_, ?_, ?_, ?_⟩
  · exact (((Blk.newAt _ _ _ _ rfl).alloc _).alloc _).alloc _
  · exact ((Blk.newAt _ _ _ _ (by simp)).alloc _).alloc _
  · exact Blk.newAt _ _ _ _ (by simp)
  · exact bAl (bAl (bAl (bAl (Below.refl _ _) _) _) _) _
set_option maxRecDepth 100000 in set_option maxHeartbeats 1000000 in
theorem windows64 (p : PlanS) (A B C : Option Addr) (a b c : Nat) (at_ : Nat) (w : World) :
    Calls Try.prog 64 #[.agg #[.int .i64 p.mem, .slice A p.parts.length a, .slice B p.wins.length b, .slice C p.chans.length c], .pointer (some ⟨at_, 0, none⟩)] w fun e w' => ∃ kb ka rb, e = .returned (.agg #[.int .i64 p.wins.length, .slice (some ⟨rb, 0, none⟩) 2 2]) ∧ w.heap.size ≤ kb ∧ w.heap.size ≤ ka ∧ w.heap.size ≤ rb ∧
      Blk w' kb #[.int .i64 p.mem, .slice A p.parts.length a, .slice B p.wins.length b, .slice C p.chans.length c] 50 ∧ Blk w' ka #[.pointer (some ⟨at_, 0, none⟩)] 99 ∧ Blk w' rb #[.int .i64 1, .func (.func 91) #[] #[.pointer (some ⟨kb, 0, none⟩), .pointer (some ⟨ka, 0, none⟩)], .int .i64 2, .func (.func 92) #[] #[.pointer (some ⟨kb, 0, none⟩), .pointer (some ⟨ka, 0, none⟩)]] 102 ∧ Below w.heap.size w w' := by
  have hu50 := Try.underlying50
  have hu96 := Try.underlying96
  have hu102 := Try.underlying102
  have hmf := hmf
  go_enter Try.func64, Try.ntmps64
  go_wp2
  refine bodyPost_ret (v := .agg #[.int .i64 p.wins.length, .slice (some ⟨w.heap.size + 1 + 1 + 1, 0, none⟩) 2 2]) (by simp [results, Try.results64, go_sem]) rfl ?_
  refine ⟨w.heap.size, w.heap.size + 1, w.heap.size + 1 + 1 + 1, rfl, by omega, by omega, by omega, ?_, ?_, ?_, ?_⟩
  · exact (((Blk.newAt _ _ _ _ rfl).alloc _).alloc _).alloc _
  · exact ((Blk.newAt _ _ _ _ (by simp)).alloc _).alloc _
  · exact Blk.newAt _ _ _ _ (by simp)
  · exact bAl (bAl (bAl (bAl (Below.refl _ _) _) _) _) _
set_option maxRecDepth 100000 in set_option maxHeartbeats 1000000 in
theorem trace65 (p : PlanS) (A B C : Option Addr) (a b c : Nat) (w : World) :
    Calls Try.prog 65 #[.agg #[.int .i64 p.mem, .slice A p.parts.length a, .slice B p.wins.length b, .slice C p.chans.length c]] w fun e w' => ∃ kb rb, e = .returned (.agg #[.int .i64 1, .slice (some ⟨rb, 0, none⟩) 1 1]) ∧ w.heap.size ≤ kb ∧ w.heap.size ≤ rb ∧
      Blk w' kb #[.int .i64 p.mem, .slice A p.parts.length a, .slice B p.wins.length b, .slice C p.chans.length c] 50 ∧ Blk w' rb #[.int .i64 7, .func (.func 93) #[] #[.pointer (some ⟨kb, 0, none⟩)]] 102 ∧ Below w.heap.size w w' := by
  have hu50 := Try.underlying50
  have hu96 := Try.underlying96
  have hu102 := Try.underlying102
  have hmf := hmf
  go_enter Try.func65, Try.ntmps65
  go_wp2
  refine bodyPost_ret (v := .agg #[.int .i64 1, .slice (some ⟨w.heap.size + 1 + 1, 0, none⟩) 1 1]) (by simp [results, Try.results65, go_sem]) rfl ?_
  refine ⟨w.heap.size, w.heap.size + 1 + 1, rfl, by omega, by omega, ?_, ?_, ?_⟩
  · exact ((Blk.newAt _ _ _ _ rfl).alloc _).alloc _
  · exact Blk.newAt _ _ _ _ (by simp)
  · exact bAl (bAl (bAl (Below.refl _ _) _) _) _
set_option maxRecDepth 100000 in set_option maxHeartbeats 1000000 in
theorem channels66 (p : PlanS) (A B C : Option Addr) (a b c : Nat) (at_ : Nat) (w : World) (hn : p.parts.length ≤ 20) :
    Calls Try.prog 66 #[.agg #[.int .i64 p.mem, .slice A p.parts.length a, .slice B p.wins.length b, .slice C p.chans.length c], .pointer (some ⟨at_, 0, none⟩)] w fun e w' => ∃ kb ka kl rb, e = .returned (.agg #[.int .i64 p.chans.length, .slice (some ⟨rb, 0, none⟩) 3 3]) ∧ w.heap.size ≤ kb ∧ w.heap.size ≤ ka ∧ w.heap.size ≤ kl ∧ w.heap.size ≤ rb ∧
      Blk w' kb #[.int .i64 p.mem, .slice A p.parts.length a, .slice B p.wins.length b, .slice C p.chans.length c] 50 ∧ Blk w' ka #[.pointer (some ⟨at_, 0, none⟩)] 99 ∧ Blk w' kl #[.int .i64 ((p.parts.length : Int) - 1)] 3 ∧
      Blk w' rb #[.int .i64 12, .func (.func 94) #[] #[.pointer (some ⟨kb, 0, none⟩), .pointer (some ⟨ka, 0, none⟩)], .int .i64 1, .func (.func 95) #[] #[.pointer (some ⟨kb, 0, none⟩), .pointer (some ⟨ka, 0, none⟩), .pointer (some ⟨kl, 0, none⟩)], .int .i64 2, .func (.func 96) #[] #[.pointer (some ⟨kb, 0, none⟩), .pointer (some ⟨ka, 0, none⟩)]] 102 ∧ Below w.heap.size w w' := by
  have hu50 := Try.underlying50
  have hu96 := Try.underlying96
  have hu102 := Try.underlying102
  have hmf := hmf
  go_enter Try.func66, Try.ntmps66
  go_wp2
  refine bodyPost_ret (v := .agg #[.int .i64 p.chans.length, .slice (some ⟨w.heap.size + 1 + 1 + 1 + 1, 0, none⟩) 3 3]) (by simp [results, Try.results66, go_sem]) rfl ?_
  refine ⟨w.heap.size, w.heap.size + 1, w.heap.size + 1 + 1 + 1, w.heap.size + 1 + 1 + 1 + 1, rfl, by omega, by omega, by omega, by omega, ?_, ?_, ?_, ?_, ?_⟩
  · exact ((((Blk.newAt _ _ _ _ rfl).alloc _).alloc _).alloc _).alloc _
  · exact (((Blk.newAt _ _ _ _ (by simp)).alloc _).alloc _).alloc _
  · exact (Blk.newAt _ _ _ _ (by simp)).alloc _
  · exact Blk.newAt _ _ _ _ (by simp)
  · exact bAl (bAl (bAl (bAl (bAl (Below.refl _ _) _) _) _) _) _
end Go.Proofs.Ytlegpbookbghbaa
