import Derived.Test.YtopcjopibblpaaaM
import Derived.Test.YtopcjopibblpaaaK
import Derived.RangeFuncSeq
import Derived.RangeFuncNested
import Derived.RangeFuncBound
import Derived.Shelf.Abstract
import Derived.Shelf.RegionOpen
import Derived.OwnWalkIn
import Derived.TacticsInMore
import Derived.LoopNIn
import Derived.LoopIn
namespace Go.Proofs.Ytopcjopibblpaaa
open Go.RowKit
attribute [local go_sem] Oper.semAt_some

/-- the sums, one by one, ten apart -/
theorem points_any (l m : Nat) (J Jx : Nat → World → Prop) (bs bp bn : Nat) (a : Option Addr) (n c : Nat) (z : Nat → Int) (hn : n ≤ 80)
    (hs : ∀ i W, J i W → W.cell? ⟨bs, 0, none⟩ = some (.slice a n c) ∧ W.cell? ⟨bp, 0, none⟩ = some (.pointer (some ⟨bn, 0, none⟩)) ∧ SumsAt W a n z ∧ (∃ u, W.cell? ⟨bn, 0, none⟩ = some (.int .i64 u)) ∧ W.frozen? ⟨bn, 0, none⟩ = false)
    (hY : ∀ i W, i < n → J i W → YieldAt Fence.wide m Try.prog l #[.int .i64 (10 * (i : Int)), .int .i64 (z i)] (W.setCell ⟨bn, 0, none⟩ (.int .i64 ((i : Int) + 1))) fun e W' => (e = .returned (.bool true) ∧ J (i + 1) W') ∨ (e = .returned (.bool false) ∧ Jx i W'))
    (w : World) (h0 : J 0 w) :
    Calls Try.prog 23 #[.func (.yield l) #[] #[], .pointer (some ⟨bs, 0, none⟩), .pointer (some ⟨bp, 0, none⟩)] w fun e W' => e = .returned (.tuple #[]) ∧ (J n W' ∨ ∃ i, i < n ∧ Jx i W') := by
  refine (callsIn_wide (n := m + 1)).1 ?_
  refine callsIn_of_wp Try.func23 rfl trivial ?_ rfl
  simp only [Try.ntmps23, List.size_toArray, List.length_cons, List.length_nil, Nat.reduceAdd, Nat.reduceSub, Array.replicate_succ, Array.replicate_zero, List.push_toArray, List.append_toArray, List.nil_append, List.cons_append]
  have HS := Lib.hid hs
  have HY := Lib.hid hY
  obtain ⟨c1, c2, _, _, _⟩ := hs 0 w h0
  clear hs hY
  gi_wp2
  gi_loopw [8] (fun i wr => ∃ k : Nat, k ≤ n ∧ i = .int .i64 k ∧ J k wr) (fun i _ => n - (intOf i).toNat)
  case atStart => exact ⟨0, by omega, rfl, h0⟩
  case round =>
    obtain ⟨k, hk, rfl, hJ⟩ := hrel
    clear c1 c2
    obtain ⟨c1, c2, hz, ⟨u, c3⟩, c4⟩ := HS.out k wr hJ
    have HJ := Lib.hid hJ
    clear hJ
    by_cases hlt : k < n
    · obtain ⟨ad, rfl, cz⟩ := hz k hlt
      obtain ⟨fn, tmps, assign, body, hy, hR⟩ := HY.out k wr hlt HJ.out
      clear hz
      have i1 : (0 : Int) ≤ (k : Int) := by omega
      have i2 : (k : Int) < (n : Int) := by omega
      gi_wp2
      refine hR.mono ?_
      rintro e W' (⟨rfl, h⟩ | ⟨rfl, h⟩)
      · have H2 := Lib.hid h
        clear h hy hR c1 c2 c3 c4 cz
        gi_wp2
        exact ⟨⟨k + 1, by omega, by go_num, H2.out⟩, by simp [intOf]; omega⟩
      · have H2 := Lib.hid h
        clear h hy hR c1 c2 c3 c4 cz
        gi_wp2
        refine bodyPost_ret (results_none rfl _ _ _) rfl ⟨rfl, .inr ⟨k, hlt, H2.out⟩⟩
    · obtain rfl : k = n := by omega
      clear hz
      gi_wp2
      go_end0
      exact ⟨rfl, .inl HJ.out⟩
end Go.Proofs.Ytopcjopibblpaaa
