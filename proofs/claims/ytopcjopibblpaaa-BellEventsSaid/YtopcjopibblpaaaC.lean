import Derived.Test.YtopcjopibblpaaaB
namespace Go.Proofs.Ytopcjopibblpaaa
open Go.RowKit

theorem ret_int2 {a b a' b' : Int} (h1 : a = a') (h2 : b = b') :
    Ending.returned (.tuple #[.int .i64 a, .int .i64 b]) = .returned (.tuple #[.int .i64 a', .int .i64 b']) := by rw [h1, h2]

set_option maxHeartbeats 1000000 in
theorem state_any (g : Nat) (a : AL) (st ag : Int) (w : World) (h : BellAt w g a st ag) :
    Calls Try.prog 12 #[.pointer (some ⟨g, 0, none⟩)] w fun e w' =>
      e = .returned (.tuple #[.int .i64 st, .int .i64 ag]) ∧ ∃ n, w.drewN n = w' := by
  obtain ⟨⟨c0, c1, c2, c3, c4, c5⟩, cf⟩ := h.cell
  clear h c0 c1 c2 c3
  go_enter Try.func12, Try.ntmps12
  go_wp2
  go_quiet (fail)
  go_wp2
  go_ret2
  exact ⟨rfl, _, rfl⟩

def LoadYes (a : AL) (st ag : Int) (w : World) (e : Ending) (w' : World) : Prop :=
  ∃ g, w.heap.size ≤ g ∧ e = .returned (.tuple #[.pointer (some ⟨g, 0, none⟩), .int .i64 0]) ∧ BellAt w' g a st ag ∧ Below w.heap.size w w'
def LoadNo (c : Int) (w : World) (e : Ending) (w' : World) : Prop := e = .returned (.tuple #[.pointer none, .int .i64 c]) ∧ Below w.heap.size w w'

def AlAt (ty : Nat) (w : World) (b : Nat) (a : AL) : Prop := w.heap[b]? = some (.cells #[.int .i64 a.L, .bool a.A, .int .i64 a.R, .int .i64 a.F] ty (0, 0))
theorem AlAt.cell {ty : Nat} {w : World} {g : Nat} {a : AL} (h : AlAt ty w g a) :
    (w.cell? ⟨g, 0, none⟩ = some (.int .i64 a.L) ∧ w.cell? ⟨g, 1, none⟩ = some (.bool a.A) ∧ w.cell? ⟨g, 2, none⟩ = some (.int .i64 a.R) ∧
     w.cell? ⟨g, 3, none⟩ = some (.int .i64 a.F)) ∧ ∀ o, w.frozen? ⟨g, o, none⟩ = false := by
  unfold AlAt at h
  refine ⟨⟨?_, ?_, ?_, ?_⟩, ?_⟩
  all_goals first | (intro o; simp [World.frozen?, h]) | simp [World.cell?, h]
theorem AlAt.new (ty : Nat) (w : World) (L R F : Int) (A : Bool) : AlAt ty (w.alloc (.cells #[.int .i64 L, .bool A, .int .i64 R, .int .i64 F] ty)) w.heap.size ⟨L, A, R, F⟩ := heap_alloc_new w _
theorem AlAt.lt {ty : Nat} {w : World} {g : Nat} {a : AL} (h : AlAt ty w g a) : g < w.heap.size := (Array.getElem?_eq_some_iff.1 h).1

set_option maxHeartbeats 4000000 in
theorem load_range (L R F st ag : Int) (A : Bool) (w : World) (hr : rightB ⟨L, A, R, F⟩ = false) :
    Calls Try.prog 13 #[.agg #[.int .i64 L, .bool A, .int .i64 R, .int .i64 F], .int .i64 st, .int .i64 ag] w (LoadNo 1 w) := by
  have hA := AlAt.new 23 w L R F A
  obtain ⟨⟨d0, d1, d2, d3⟩, df⟩ := hA.cell
  clear hA
  have HR := Lib.hid hr
  clear hr
  go_enter Try.func13, Try.ntmps13
  go_wp2_with fail
  refine (right_any L R F A _).mono ?_
  rintro e w1 ⟨rfl, hB1⟩
  rw [HR.out]
  have HB := Lib.hid (((Below.refl _ w).alloc (Nat.le_refl _) _).trans (hB1.mono (by simp)))
  clear hB1
  go_wp2
  go_ret2
  exact ⟨rfl, HB.out⟩

set_option maxHeartbeats 1000000 in
theorem load_state (L R F st ag : Int) (A : Bool) (w : World) (hr : rightB ⟨L, A, R, F⟩ = true) (h1 : ¬ st = 1) (h2 : ¬ st = 2) :
    Calls Try.prog 13 #[.agg #[.int .i64 L, .bool A, .int .i64 R, .int .i64 F], .int .i64 st, .int .i64 ag] w (LoadNo 2 w) := by
  have hA := AlAt.new 23 w L R F A
  have HR := Lib.hid hr
  clear hr
  have q1 : (st == 1) = false := by simpa using h1
  have q2 : (st == 2) = false := by simpa using h2
  have q3 : (st != 1) = true := by simpa using h1
  have q4 : (st != 2) = true := by simpa using h2
  clear h1 h2
  go_enter Try.func13, Try.ntmps13
  go_wp2_with fail
  refine (right_any L R F A _).mono ?_
  rintro e w1 ⟨rfl, hB1⟩
  rw [HR.out]
  have hA1 : AlAt 23 w1 w.heap.size _ := below_blk hB1 hA
  have HB := Lib.hid (((Below.refl _ w).alloc (Nat.le_refl _) _).trans (hB1.mono (by simp)))
  obtain ⟨⟨d0, d1, d2, d3⟩, df⟩ := hA1.cell
  simp only at d0 d1 d2 d3
  clear hB1 hA hA1
  go_wp2_with fail
  go_ret2
  exact ⟨rfl, HB.out⟩

set_option maxHeartbeats 1000000 in
theorem load_neg (L R F st ag : Int) (A : Bool) (w : World) (hr : rightB ⟨L, A, R, F⟩ = true) (hs : st = 1 ∨ st = 2) (hg : ag < 0) :
    Calls Try.prog 13 #[.agg #[.int .i64 L, .bool A, .int .i64 R, .int .i64 F], .int .i64 st, .int .i64 ag] w (LoadNo 2 w) := by
  rcases hs with rfl | rfl
  all_goals
    have hA := AlAt.new 23 w L R F A
    have HR := Lib.hid hr
    clear hr
    go_enter Try.func13, Try.ntmps13
    go_wp2_with fail
    refine (right_any L R F A _).mono ?_
    rintro e w1 ⟨rfl, hB1⟩
    rw [HR.out]
    have hA1 : AlAt 23 w1 w.heap.size _ := below_blk hB1 hA
    have HB := Lib.hid (((Below.refl _ w).alloc (Nat.le_refl _) _).trans (hB1.mono (by simp)))
    obtain ⟨⟨d0, d1, d2, d3⟩, df⟩ := hA1.cell
    simp only at d0 d1 d2 d3
    clear hB1 hA hA1
    go_wp2_with fail
    go_ret2
    exact ⟨rfl, HB.out⟩

set_option maxHeartbeats 1000000 in
theorem load_over (L R F st ag : Int) (A : Bool) (w : World) (hr : rightB ⟨L, A, R, F⟩ = true) (r : Int) (hrow : rowI ⟨L, A, R, F⟩ st = r) (hs : st = 1 ∨ st = 2) (h0 : 0 ≤ ag) (hg : r ≤ ag) :
    Calls Try.prog 13 #[.agg #[.int .i64 L, .bool A, .int .i64 R, .int .i64 F], .int .i64 st, .int .i64 ag] w (LoadNo 2 w) := by
  rcases hs with rfl | rfl
  all_goals
    have hA := AlAt.new 23 w L R F A
    have HR := Lib.hid hr
    clear hr
    have HROW := Lib.hid hrow
    clear hrow
    go_enter Try.func13, Try.ntmps13
    go_wp2_with fail
    refine (right_any L R F A _).mono ?_
    rintro e w1 ⟨rfl, hB1⟩
    rw [HR.out]
    have hA1 : AlAt 23 w1 w.heap.size _ := below_blk hB1 hA
    have HB := Lib.hid (((Below.refl _ w).alloc (Nat.le_refl _) _).trans (hB1.mono (by simp)))
    obtain ⟨⟨d0, d1, d2, d3⟩, df⟩ := hA1.cell
    simp only at d0 d1 d2 d3
    have HA1 := Lib.hid hA1
    clear hB1 hA hA1
    go_wp2_with fail
    refine (row_any L R F _ A _).mono ?_
    rintro e w2 ⟨rfl, hB2⟩
    rw [HROW.out]
    have hA2 : AlAt 23 w2 w.heap.size ⟨L, A, R, F⟩ := below_blk hB2 HA1.out
    have HB2 := Lib.hid (HB.out.trans (hB2.mono HB.out.size))
    clear hB2 d0 d1 d2 d3 df
    obtain ⟨⟨d0, d1, d2, d3⟩, df⟩ := hA2.cell
    simp only at d0 d1 d2 d3
    clear hA2
    go_wp2_with fail
    go_ret2
    exact ⟨rfl, HB2.out⟩

set_option maxHeartbeats 1000000 in
theorem load_good (L R F st ag : Int) (A : Bool) (w : World) (hr : rightB ⟨L, A, R, F⟩ = true) (r : Int) (hrow : rowI ⟨L, A, R, F⟩ st = r) (hs : st = 1 ∨ st = 2) (h0 : 0 ≤ ag) (hg : ag < r) :
    Calls Try.prog 13 #[.agg #[.int .i64 L, .bool A, .int .i64 R, .int .i64 F], .int .i64 st, .int .i64 ag] w (LoadYes ⟨L, A, R, F⟩ st ag w) := by
  rcases hs with rfl | rfl
  all_goals
    have hA := AlAt.new 23 w L R F A
    have HR := Lib.hid hr
    clear hr
    have HROW := Lib.hid hrow
    clear hrow
    go_enter Try.func13, Try.ntmps13
    go_wp2_with fail
    refine (right_any L R F A _).mono ?_
    rintro e w1 ⟨rfl, hB1⟩
    rw [HR.out]
    have hA1 : AlAt 23 w1 w.heap.size _ := below_blk hB1 hA
    have HB := Lib.hid (((Below.refl _ w).alloc (Nat.le_refl _) _).trans (hB1.mono (by simp)))
    obtain ⟨⟨d0, d1, d2, d3⟩, df⟩ := hA1.cell
    simp only at d0 d1 d2 d3
    have HA1 := Lib.hid hA1
    clear hB1 hA hA1
    go_wp2_with fail
    refine (row_any L R F _ A _).mono ?_
    rintro e w2 ⟨rfl, hB2⟩
    rw [HROW.out]
    have hA2 : AlAt 23 w2 w.heap.size ⟨L, A, R, F⟩ := below_blk hB2 HA1.out
    have HB2 := Lib.hid (HB.out.trans (hB2.mono HB.out.size))
    clear hB2 d0 d1 d2 d3 df
    obtain ⟨⟨d0, d1, d2, d3⟩, df⟩ := hA2.cell
    simp only at d0 d1 d2 d3
    clear hA2
    go_wp2_with fail
    go_ret2
    exact ⟨w2.heap.size, HB2.out.size, rfl, heap_alloc_new w2 _, HB2.out.alloc HB2.out.size _⟩


end Go.Proofs.Ytopcjopibblpaaa
