import Derived.Test.YtjalihmjgjajcaaA
namespace Go.Proofs.Ytjalihmjgjajcaa
open Go.RowKit

/-- what a number means among n letters -/
def plN (i : Int) (n : Nat) : Nat := ((i % 18446744073709551616) % (n : Int)).toNat
theorem plN_lt (i : Int) (n : Nat) (h : 0 < n) : plN i n < n := by
  unfold plN
  have h1 : 0 ≤ (i % 18446744073709551616) % (n : Int) := Int.emod_nonneg _ (by omega)
  have h2 : (i % 18446744073709551616) % (n : Int) < n := Int.emod_lt_of_pos _ (by omega)
  omega
theorem own_forms {w : World} {B n : Nat} {v : Value} {xs : List Value} (h : w.ownsRow B 31 3 v n xs) : ∃ ao cap, v = .slice ao n cap := by
  rcases h.2 with ⟨rfl, rfl⟩ | ⟨g, cap, cur, rfl, _⟩
  · exact ⟨none, 0, rfl⟩
  · exact ⟨_, cap, rfl⟩

theorem plN_eq (i : Int) (n : Nat) (h : 0 < n) (hm : n ≤ 64) : wrap64 ((IntKind.u64.wrap i).tmod n) = (plN i n : Nat) := by
  have e : IntKind.u64.wrap i = i % 18446744073709551616 := by simp [IntKind.wrap_u64]
  have h0 : 0 ≤ i % 18446744073709551616 := Int.emod_nonneg _ (by omega)
  rw [e, Int.tmod_eq_emod_of_nonneg h0]
  unfold plN
  have h1 : 0 ≤ (i % 18446744073709551616) % (n : Int) := Int.emod_nonneg _ (by omega)
  have h2 : (i % 18446744073709551616) % (n : Int) < n := Int.emod_lt_of_pos _ (by omega)
  unfold wrap64
  omega
theorem ret_ib {a a' : Int} {b : Bool} (h : a = a') : Ending.returned (.tuple #[.int .i64 a, .bool b]) = .returned (.tuple #[.int .i64 a', .bool b]) := by rw [h]
set_option maxHeartbeats 4000000 in
theorem place_none (i : Int) (B p : Nat) (w : World) (h : PostAt w B p []) :
    Calls Try.prog 25 #[.pointer (some ⟨p, 0, none⟩), .int .i64 i] w fun e w' => e = .returned (.tuple #[.int .i64 0, .bool false]) ∧ w' = w := by
  obtain ⟨v, hb, ho⟩ := h
  obtain ⟨ao, cap, rfl⟩ := own_forms ho
  have hc : w.cell? ⟨p, 0, none⟩ = some (.slice ao 0 cap) := by simp [World.cell?, hb]
  clear hb ho
  go_enter Try.func25, Try.ntmps25
  go_wp2
  go_ret2
  exact ⟨rfl, rfl⟩

set_option maxHeartbeats 4000000 in
theorem place_some (i : Int) (B p : Nat) (l : List LT) (w : World) (h : PostAt w B p l) (h0 : 0 < l.length) (hm : l.length ≤ 64) :
    Calls Try.prog 25 #[.pointer (some ⟨p, 0, none⟩), .int .i64 i] w fun e w' => e = .returned (.tuple #[.int .i64 (plN i l.length : Nat), .bool true]) ∧ w' = w := by
  obtain ⟨v, hb, ho⟩ := h
  obtain ⟨ao, cap, rfl⟩ := own_forms ho
  have hc : w.cell? ⟨p, 0, none⟩ = some (.slice ao l.length cap) := by simp [World.cell?, hb]
  clear hb ho
  generalize l.length = n at h0 hm hc ⊢
  have q0 : ((n : Int) == 0) = false := by simp; omega
  go_enter Try.func25, Try.ntmps25
  go_wp2
  go_ret2
  exact ⟨ret_ib (plN_eq i n h0 hm), rfl⟩
end Go.Proofs.Ytjalihmjgjajcaa
