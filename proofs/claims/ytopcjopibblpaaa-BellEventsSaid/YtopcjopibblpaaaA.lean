import Derived.Test.YtopcjopibblpaaaRows
import Derived.WalkKit
import Derived.WalkSpells
import Derived.WalkLawsBesides
import Derived.Deep.QuietTactic
import Derived.BigQuiet
import Derived.Lib.Hide
import Derived.Deep.RegionHeld3
import Derived.Deep.LoopGhost
namespace Go.Proofs.Ytopcjopibblpaaa
open Go.RowKit

theorem ret_bool {a b : Bool} (h : a = b) : Ending.returned (.bool a) = .returned (.bool b) := by rw [h]
theorem ret_int {a a' : Int} (h1 : a = a') : Ending.returned (.int .i64 a) = .returned (.int .i64 a') := by rw [h1]

/-- what a call may turn: block g alone (of the blocks that were there) -/
structure Touch (g : Nat) (w w' : World) : Prop where
  os : w'.os = w.os
  tape : w'.tape = w.tape
  output : w'.output = w.output
  size : w.heap.size ≤ w'.heap.size
  block : ∀ k, k < w.heap.size → k ≠ g → w'.heap[k]? = w.heap[k]?

namespace Touch
variable {g : Nat} {w w' w1 w2 : World}
theorem refl (g : Nat) (w : World) : Touch g w w := ⟨rfl, rfl, rfl, Nat.le_refl _, fun _ _ _ => rfl⟩
theorem trans (h : Touch g w w1) (k : Touch g w1 w2) : Touch g w w2 :=
  ⟨k.os.trans h.os, k.tape.trans h.tape, k.output.trans h.output, Nat.le_trans h.size k.size, fun i hi hg => (k.block i (Nat.lt_of_lt_of_le hi h.size) hg).trans (h.block i hi hg)⟩
theorem drew (h : Touch g w w1) : Touch g w w1.drew := ⟨h.os, h.tape, h.output, h.size, h.block⟩
theorem drewN (h : Touch g w w1) (n : Nat) : Touch g w (w1.drewN n) := ⟨h.os, h.tape, h.output, h.size, h.block⟩
theorem set_ (h : Touch g w w1) (j : Nat) (u : Value) : Touch g w (w1.setCell ⟨g, j, none⟩ u) :=
  h.trans ⟨rfl, rfl, rfl, by simp [World.setCell], fun k _ hk => Below.heap_setCell _ _ _ _ hk⟩
theorem alloc (h : Touch g w w1) (o : Obj) : Touch g w (w1.alloc o) :=
  h.trans ⟨rfl, rfl, rfl, by simp, fun k hk _ => Below.heap_alloc _ _ _ hk⟩
theorem of_below (h : Below w.heap.size w w1) (g : Nat) : Touch g w w1 := ⟨h.os, h.tape, h.output, h.size, fun k hk _ => h.block k hk⟩
theorem below {n : Nat} (h : Touch g w w1) (hg : n ≤ g) (hn : n ≤ w.heap.size) : Below n w w1 :=
  ⟨h.os, h.tape, h.output, h.size, fun k hk => h.block k (by omega) (by omega)⟩
theorem blk {b : Nat} (h : Touch g w w') {o : Obj} (hb : w.heap[b]? = some o) (hne : b ≠ g) : w'.heap[b]? = some o := by
  have hl := (Array.getElem?_eq_some_iff.1 hb).1
  rw [h.block b hl hne]; exact hb
end Touch
theorem below_blk {b : Nat} {w w' : World} (h : Below w.heap.size w w') {o : Obj} (hb : w.heap[b]? = some o) : w'.heap[b]? = some o := by
  have hl := (Array.getElem?_eq_some_iff.1 hb).1
  rw [h.block b hl]; exact hb
theorem cell_lt {w : World} {p : Addr} {v : Value} (hc : w.cell? p = some v) : p.block < w.heap.size := by
  rcases Nat.lt_or_ge p.block w.heap.size with hl | hl
  · exact hl
  · unfold World.cell? at hc
    rw [Array.getElem?_eq_none hl] at hc
    cases hc
theorem below_cell {w w' : World} (h : Below w.heap.size w w') {p : Addr} {v : Value} (hc : w.cell? p = some v) : w'.cell? p = some v := by
  rw [h.cell (cell_lt hc)]; exact hc

/-- an alarm -/
structure AL where
  L : Int
  A : Bool
  R : Int
  F : Int

def badB (a : AL) (n : Int) : Bool := if a.A then decide (a.L < n) else decide (n < a.L)
def rowI (a : AL) (st : Int) : Int := if st = 1 then a.R else a.F
def rightB (a : AL) : Bool := decide (1 ≤ a.R) && decide (a.R ≤ 100) && decide (1 ≤ a.F) && decide (a.F ≤ 100)

set_option maxHeartbeats 1000000 in
theorem bad_any (L R F n : Int) (A : Bool) (w : World) :
    Calls Try.prog 19 #[.agg #[.int .i64 L, .bool A, .int .i64 R, .int .i64 F], .int .i64 n] w fun e w' =>
      e = .returned (.bool (badB ⟨L, A, R, F⟩ n)) ∧ Below w.heap.size w w' := by
  cases A
  all_goals
    go_enter Try.func19, Try.ntmps19
    go_wp2
    go_ret
    exact ⟨ret_bool (by simp [badB]), (Below.refl _ _).alloc (Nat.le_refl _) _⟩

set_option maxHeartbeats 1000000 in
theorem badR_any (L R F n : Int) (A : Bool) (w : World) :
    Calls Try.prog 14 #[.agg #[.int .i64 L, .bool A, .int .i64 R, .int .i64 F], .int .i64 n] w fun e w' =>
      e = .returned (.bool (badB ⟨L, A, R, F⟩ n)) ∧ Below w.heap.size w w' := by
  cases A
  all_goals
    go_enter Try.func14, Try.ntmps14
    go_wp2
  all_goals go_ret
  all_goals refine ⟨ret_bool ?_, (Below.refl _ _).alloc (Nat.le_refl _) _⟩
  all_goals first | rfl | (simp [badB]; done) | (simp [badB]; omega)

set_option maxHeartbeats 1000000 in
theorem row_any (L R F st : Int) (A : Bool) (w : World) :
    Calls Try.prog 20 #[.agg #[.int .i64 L, .bool A, .int .i64 R, .int .i64 F], .int .i64 st] w fun e w' =>
      e = .returned (.int .i64 (rowI ⟨L, A, R, F⟩ st)) ∧ Below w.heap.size w w' := by
  by_cases h : st = 1
  · subst h
    go_enter Try.func20, Try.ntmps20
    go_wp2
    go_ret
    exact ⟨rfl, (Below.refl _ _).alloc (Nat.le_refl _) _⟩
  · have hb : (st == 1) = false := by simpa using h
    go_enter Try.func20, Try.ntmps20
    go_wp2
    go_ret
    exact ⟨ret_int (by simp [rowI, h]), (Below.refl _ _).alloc (Nat.le_refl _) _⟩

theorem right_iff (a : AL) : rightB a = true ↔ (1 ≤ a.R ∧ a.R ≤ 100 ∧ 1 ≤ a.F ∧ a.F ≤ 100) := by
  simp [rightB]; omega

set_option maxHeartbeats 1000000 in
theorem right_any (L R F : Int) (A : Bool) (w : World) :
    Calls Try.prog 21 #[.agg #[.int .i64 L, .bool A, .int .i64 R, .int .i64 F]] w fun e w' =>
      e = .returned (.bool (rightB ⟨L, A, R, F⟩)) ∧ Below w.heap.size w w' := by
  go_enter Try.func21, Try.ntmps21
  go_wp2
  all_goals go_ret
  all_goals refine ⟨ret_bool ?_, (Below.refl _ _).alloc (Nat.le_refl _) _⟩
  all_goals rw [Bool.eq_iff_iff, right_iff]
  all_goals first | (simp; omega) | (simp; done)

set_option maxHeartbeats 1000000 in
theorem rightR_any (L R F : Int) (A : Bool) (w : World) :
    Calls Try.prog 9 #[.agg #[.int .i64 L, .bool A, .int .i64 R, .int .i64 F]] w fun e w' =>
      e = .returned (.bool (rightB ⟨L, A, R, F⟩)) ∧ Below w.heap.size w w' := by
  go_enter Try.func9, Try.ntmps9
  go_wp2
  all_goals go_ret
  all_goals refine ⟨ret_bool ?_, (Below.refl _ _).alloc (Nat.le_refl _) _⟩
  all_goals rw [Bool.eq_iff_iff, right_iff]
  all_goals first | (simp; omega) | (simp; done)
end Go.Proofs.Ytopcjopibblpaaa
