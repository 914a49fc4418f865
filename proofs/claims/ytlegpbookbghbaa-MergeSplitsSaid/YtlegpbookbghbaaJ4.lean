/- Rows of rings copied with all their entries: the walk; the rings lie in memory, their entries are no more than 1000 each. -/
import Derived.Test.YtlegpbookbghbaaJ3
set_option linter.unusedVariables false
set_option linter.unusedSimpArgs false
namespace Go.Proofs.Ytlegpbookbghbaa
open Go.RowKit

def CopyPost (w : World) (l : List RingM) (e : Ending) (w' : World) : Prop :=
  ∃ A' c' l', e = .returned (.slice A' l'.length c') ∧ rings l' = rings l ∧ l'.length ≤ c' ∧ RingsO w' w.heap.size A' l' ∧ Below w.heap.size w w'
theorem rings_len {l m : List RingM} (h : rings l = rings m) : l.length = m.length := by
  have := congrArg List.length h
  simpa [rings] using this
theorem rings_all {l m : List RingM} (h : rings l = rings m) {P : RingS → Prop} (hm : ∀ p ∈ m, P p.r) : ∀ p ∈ l, P p.r := by
  intro p hp
  have h1 : p.r ∈ rings m := by rw [← h]; exact List.mem_map_of_mem hp
  obtain ⟨q, hq, e⟩ := List.mem_map.1 h1
  rw [← e]
  exact hm q hq
theorem rings_setL (l : List RingM) (k : Nat) (hk : k < l.length) (A : Option Addr) (c : Nat) : rings (l.set k ⟨l[k].r, A, c⟩) = rings l := by
  unfold rings
  rw [List.map_set]
  apply List.ext_getElem
  · simp
  · intro i h1 h2
    by_cases e : k = i
    · subst e; simp
    · simp [e]
set_option maxRecDepth 100000 in set_option maxHeartbeats 4000000 in
theorem copied83 (A : Option Addr) (c : Nat) (l : List RingM) (w : World) (hA : RingsR w A l) (hn : l.length ≤ 1000) (hl : ∀ p ∈ l, p.r.L.length ≤ 1000) :
    Calls Try.prog 83 #[.slice A l.length c] w (CopyPost w l) := by
  have hu29 := Try.underlying29; have hu27 := Try.underlying27; have hu25 := Try.underlying25
  have hu80 := Try.underlying80
  have HA := Lib.hid hA
  have HL := Lib.hid hl
  clear hA hl
  go_enter Try.func83, Try.ntmps83
  go_wp2_with fail
  refine (clone99 A c l _ HA.out hn).mono ?_
  rintro e w1 ⟨A1, c1, rfl, hc1, hO, hb1⟩
  have HB1 := Lib.hid hb1
  have HC1 := Lib.hid hc1
  clear hb1 hc1
  rcases hO with rfl | ⟨g, rfl, hg, hO⟩
  · go_wp2
    go_loopw [9] (fun i wr => i = .int .i64 0 ∧ wr = w1) (fun i _ => 0 - (intOf i).toNat)
    case atStart => exact ⟨rfl, rfl⟩
    case round =>
      obtain ⟨rfl, rfl⟩ := hrel
      go_wp2
      go_ret
      exact ⟨A1, c1, [], rfl, rfl, HC1.out, .inl rfl, HB1.out⟩
  · have HO := Lib.hid hO
    clear hO
    go_wp2
    go_loopw [9] (fun i wr => ∃ (k : Nat) (l' : List RingM), k ≤ l.length ∧ i = .int .i64 k ∧ rings l' = rings l ∧ OwnG wr g l' ∧ Below w.heap.size w wr) (fun i _ => l.length - (intOf i).toNat)
    case atStart => exact ⟨0, l, Nat.zero_le _, rfl, rfl, HO.out, HB1.out⟩
    case round =>
      clear HO HB1
      obtain ⟨k, l', hk, rfl, hr, hO, hbel⟩ := hrel
      have HB := Lib.hid hbel
      have HO := Lib.hid hO
      have HR := Lib.hid hr
      have hlen := rings_len hr
      clear hr
      by_cases hlt : k < l.length
      · have hlt' : (k : Int) < (l.length : Int) := by omega
        have hk' : k < l'.length := by omega
        have s1 := hO.cell k hk' 1 _ rfl
        obtain ⟨hpc, hpR⟩ := hO.2.2.2 _ (List.getElem_mem hk')
        have hp1000 : l'[k].r.L.length ≤ 1000 := rings_all HR.out (P := fun r => r.L.length ≤ 1000) HL.out _ (List.getElem_mem hk')
        have HPR := Lib.hid hpR.rd
        obtain ⟨p, hp⟩ : ∃ p, p = l'[k] := ⟨_, rfl⟩
        rw [← hp] at s1 HPR hp1000 hpc
        have HP := Lib.hid hp
        have hgl := hO.2.2.1
        clear hO hp hpR hbel
        go_wp2_with fail
        refine (clone100 p.A p.c p.r.L _ HPR.out hp1000).mono ?_
        rintro e w2 ⟨A2, c2, rfl, hc2, hR2, hb⟩
        have HO2 := Lib.hid (HO.out.below hb)
        have t1 : w2.cell? ⟨g, k * 9 + 1, none⟩ = some (.slice p.A p.r.L.length p.c) := (hb.cell (p := ⟨g, k * 9 + 1, none⟩) hgl).trans s1
        have f1 : w2.frozen? ⟨g, k * 9 + 1, none⟩ = false := HO2.out.2.1 _
        have HR2 := Lib.hid (And.intro hc2 (hR2.rdx hgl))
        clear hc2 hR2
        (replace HB : Hid (Below w.heap.size w w2) := bCall (by repeat (first | (with_reducible exact HB.out) | (with_reducible apply bAl) | (with_reducible apply bDr) | (with_reducible apply bDrN) | ((with_reducible refine bSt ?_ ?_ _); (first | (with_reducible assumption) | omega | (simp <;> omega))))) hb); clear hb; (have := HB.out.size)
        go_wp2
        obtain ⟨rfl⟩ := HP
        exact ⟨⟨k + 1, _, by omega, by go_num, (rings_setL l' k hk' A2 c2).trans HR.out, HO2.out.setL k hk' A2 c2 HR2.out, bSt hg HB.out _⟩, by simp [intOf]; omega⟩
      · have hkk : k = l.length := by omega
        subst hkk
        go_wp2
        go_ret
        exact ⟨some ⟨g, 0, none⟩, c1, l', by rw [hlen]; rfl, HR.out, by rw [hlen]; exact HC1.out, .inr ⟨g, rfl, hg, HO.out⟩, HB.out⟩
end Go.Proofs.Ytlegpbookbghbaa
