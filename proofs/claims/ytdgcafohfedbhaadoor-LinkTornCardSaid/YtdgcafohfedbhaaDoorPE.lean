import Derived.Test.YtdgcafohfedbhaaDoorPD
namespace Go.Proofs.YtdgcafohfedbhaaDoor.K
open Go.RowKit Go.Joins
set_option linter.unusedVariables false

theorem up_any (c B : Nat) (bs : List Nat) (n : Nat) (w : World) (hn : n < 9223372036854775808) (hc : CoilAt w B c bs) (hcB : c < B) (hB : B ≤ w.heap.size) (hl : bs.length ≤ 1000000) :
    Calls Tryd.prog 21 #[.pointer (some ⟨c, 0, none⟩), .int .i64 (n : Int)] w fun e w' => e = .returned (.bool true) ∧ CoilAt w' B c (bs ++ up n) ∧ TouchB c B w w' := by
  have HC := Lib.hid hc
  clear hc
  have hw : IntKind.u64.wrap (n : Int) = (n : Int) := by rw [IntKind.wrap_u64]; omega
  have h0 : (0 : Int) ≤ (n : Int) := by omega
  go_enter Tryd.func21, Tryd.ntmps21
  go_wp2_with fail
  refine (number_any c B bs n w hn HC.out hcB hB hl).mono ?_
  rintro e w' ⟨rfl, h1, h2⟩
  have H := Lib.hid (⟨h1, h2⟩ : _ ∧ _)
  clear h1 h2
  go_wp2
  go_ret
  exact ⟨rfl, H.out.1, H.out.2⟩
theorem up_neg (c : Nat) (n : Int) (w : World) (hn : n < 0) :
    Calls Tryd.prog 21 #[.pointer (some ⟨c, 0, none⟩), .int .i64 n] w fun e w' => e = .returned (.bool false) ∧ w' = w := by
  have h0 : ¬ (0 : Int) ≤ n := by omega
  go_enter Tryd.func21, Tryd.ntmps21
  go_wp2
  go_ret
  exact ⟨rfl, rfl⟩
end Go.Proofs.YtdgcafohfedbhaaDoor.K
