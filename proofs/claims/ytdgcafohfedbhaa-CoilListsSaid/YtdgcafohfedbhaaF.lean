import Derived.Test.YtdgcafohfedbhaaE
namespace Go.Proofs.Ytdgcafohfedbhaa
open Go.RowKit Go.Joins
set_option linter.unusedVariables false

/-- the number that stands for any number -/
def fold (n : Int) : Nat := if 0 ≤ n then (2 * n).toNat else (-(2 * (n + 1)) + 1).toNat
def fits (n : Int) : Prop := -4611686018427387904 ≤ n ∧ n < 4611686018427387904

set_option maxHeartbeats 4000000 in
theorem int_any (c B : Nat) (bs : List Nat) (n : Int) (w : World) (hn : fits n) (hc : CoilAt w B c bs) (hcB : c < B) (hB : B ≤ w.heap.size) (hl : bs.length ≤ 1000000) :
    Calls Try.prog 10 #[.pointer (some ⟨c, 0, none⟩), .int .i64 n] w fun e w' => e = .returned (.bool true) ∧ CoilAt w' B c (bs ++ up (fold n)) ∧ TouchB c B w w' := by
  have HC := Lib.hid hc
  clear hc
  obtain ⟨hn1, hn2⟩ := hn
  have g1 : ¬ (4611686018427387904 : Int) ≤ n := by omega
  have g2 : ¬ n < -4611686018427387904 := by omega
  have HF := Lib.hid (show fold n = fold n from rfl)
  by_cases h0 : n < 0
  · have hf : ((fold n : Nat) : Int) = -(2 * (n + 1)) + 1 := by unfold fold; rw [if_neg (by omega)]; omega
    have e1 : IntKind.i64.wrap (n + 1) = n + 1 := by rw [IntKind.wrap_i64]; omega
    have e2 : IntKind.i64.wrap (-(n + 1)) = -(n + 1) := by rw [IntKind.wrap_i64]; omega
    have e3 : IntKind.u64.wrap (-(n + 1)) = -(n + 1) := by rw [IntKind.wrap_u64]; omega
    have e4 : IntKind.u64.wrap (-(n + 1) * 2) = -(n + 1) * 2 := by rw [IntKind.wrap_u64]; omega
    have e5 : IntKind.u64.wrap (-(n + 1) * 2 + 1) = -(n + 1) * 2 + 1 := by rw [IntKind.wrap_u64]; omega
    have HX : Hid (-(n + 1) * 2 + 1 = ((fold n : Nat) : Int)) := (by omega : -(n + 1) * 2 + 1 = ((fold n : Nat) : Int))
    have hlt : fold n < 9223372036854775808 := by omega
    clear hf
    go_enter Try.func10, Try.ntmps10
    go_wp2_with fail
    rw [HX.out]
    refine (number_any c B bs (fold n) w hlt HC.out hcB hB hl).mono ?_
    rintro e w' ⟨rfl, h1, h2⟩
    have H := Lib.hid (⟨h1, h2⟩ : _ ∧ _)
    clear h1 h2
    go_wp2
    go_ret
    exact ⟨rfl, H.out.1, H.out.2⟩
  · have hf : ((fold n : Nat) : Int) = 2 * n := by unfold fold; rw [if_pos (by omega)]; omega
    have e3 : IntKind.u64.wrap n = n := by rw [IntKind.wrap_u64]; omega
    have e4 : IntKind.u64.wrap (n * 2) = n * 2 := by rw [IntKind.wrap_u64]; omega
    have HX : Hid (n * 2 = ((fold n : Nat) : Int)) := (by omega : n * 2 = ((fold n : Nat) : Int))
    have hlt : fold n < 9223372036854775808 := by omega
    clear hf
    go_enter Try.func10, Try.ntmps10
    go_wp2_with fail
    rw [HX.out]
    refine (number_any c B bs (fold n) w hlt HC.out hcB hB hl).mono ?_
    rintro e w' ⟨rfl, h1, h2⟩
    have H := Lib.hid (⟨h1, h2⟩ : _ ∧ _)
    clear h1 h2
    go_wp2
    go_ret
    exact ⟨rfl, H.out.1, H.out.2⟩
theorem int_none (c : Nat) (n : Int) (w : World) (hn : ¬ fits n) :
    Calls Try.prog 10 #[.pointer (some ⟨c, 0, none⟩), .int .i64 n] w fun e w' => e = .returned (.bool false) ∧ w' = w := by
  unfold fits at hn
  by_cases h : (4611686018427387904 : Int) ≤ n
  · go_enter Try.func10, Try.ntmps10
    go_wp2
    go_ret
    exact ⟨rfl, rfl⟩
  · have h2 : n < -4611686018427387904 := by omega
    go_enter Try.func10, Try.ntmps10
    go_wp2
    go_ret
    exact ⟨rfl, rfl⟩
end Go.Proofs.Ytdgcafohfedbhaa
