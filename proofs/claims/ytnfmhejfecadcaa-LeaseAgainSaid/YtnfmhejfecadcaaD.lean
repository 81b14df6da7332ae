import Derived.Test.YtnfmhejfecadcaaC
namespace Go.Proofs.Ytnfmhejfecadcaa
open Go.RowKit

theorem ask_1 (g : Nat) (w : World) (h : LeaseAt w g ⟨0, 0, 0, false⟩ 10) :
    Calls Try.prog 10 #[.pointer (some ⟨g, 0, none⟩), .int .i64 1, .int .i64 5] w fun e w' =>
      e = .returned (.tuple #[.int .i64 1, .int .i64 15, .int .i64 0]) ∧ LeaseAt w' g ⟨1, 1, 15, true⟩ 10 ∧ Touch g w w' := by
  have c := ask_any g _ 10 1 5 w h
  rw [show askS ⟨0, 0, 0, false⟩ 10 1 5 = (⟨1, 1, 15, true⟩, 1, 15, 0) from by simp [askS, rightB, heldB, wrap64]] at c
  exact c
theorem ask_2 (g : Nat) (w : World) (h : LeaseAt w g ⟨1, 1, 15, true⟩ 10) :
    Calls Try.prog 10 #[.pointer (some ⟨g, 0, none⟩), .int .i64 2, .int .i64 14] w fun e w' =>
      e = .returned (.tuple #[.int .i64 0, .int .i64 0, .int .i64 22]) ∧ LeaseAt w' g ⟨1, 1, 15, true⟩ 10 ∧ Touch g w w' := by
  have c := ask_any g _ 10 2 14 w h
  rw [show askS ⟨1, 1, 15, true⟩ 10 2 14 = (⟨1, 1, 15, true⟩, 0, 0, 22) from by simp [askS, rightB, heldB]] at c
  exact c
theorem ask_3 (g : Nat) (w : World) (h : LeaseAt w g ⟨1, 1, 15, true⟩ 10) :
    Calls Try.prog 10 #[.pointer (some ⟨g, 0, none⟩), .int .i64 2, .int .i64 15] w fun e w' =>
      e = .returned (.tuple #[.int .i64 2, .int .i64 25, .int .i64 0]) ∧ LeaseAt w' g ⟨2, 2, 25, true⟩ 10 ∧ Touch g w w' := by
  have c := ask_any g _ 10 2 15 w h
  rw [show askS ⟨1, 1, 15, true⟩ 10 2 15 = (⟨2, 2, 25, true⟩, 2, 25, 0) from by simp [askS, rightB, heldB, wrap64]] at c
  exact c

set_option maxHeartbeats 1000000 in
theorem awake_any (w : World) : Calls Try.prog 7 #[] w fun e w' => e = .returned (.bool true) ∧ Below w.heap.size w w' := by
  go_enter Try.func7, Try.ntmps7
  go_wp2_with fail
  refine (new_ok 10 _ (by omega) (by omega)).mono ?_
  rintro e w1 ⟨rfl, hL1, hB1⟩
  go_wp2_with fail
  refine (ask_1 _ _ hL1).mono ?_
  rintro e w2 ⟨rfl, hL2, hT2⟩
  go_wp2_with fail
  refine (ask_2 _ _ hL2).mono ?_
  rintro e w3 ⟨rfl, hL3, hT3⟩
  go_wp2_with fail
  refine (ask_3 _ _ hL3).mono ?_
  rintro e w4 ⟨rfl, hL4, hT4⟩
  go_wp2
  go_ret
  exact ⟨rfl, hB1.trans (((hT2.trans hT3).trans hT4).below (Nat.le_refl _) hB1.size)⟩

def RightL (E H U : Int) (S : Bool) : Bool :=
  decide (0 ≤ E) && decide (E ≤ 1099511627776) && decide (0 ≤ H) && decide (H ≤ 100) && decide (0 ≤ U) && decide (U ≤ 2199023255552) &&
    (if S then decide (0 < E) else decide (H = 0) && decide (U = 0))


theorem rl_iff (E H U : Int) (S : Bool) : RightL E H U S = true ↔ (0 ≤ E ∧ E ≤ 1099511627776 ∧ 0 ≤ H ∧ H ≤ 100 ∧ 0 ≤ U ∧ U ≤ 2199023255552 ∧ (S = true → 0 < E) ∧ (S = false → H = 0 ∧ U = 0)) := by
  cases S <;> simp [RightL] <;> omega

set_option maxHeartbeats 1000000 in
theorem rightL_any (E H U : Int) (S : Bool) (w : World) :
    Calls Try.prog 18 #[.agg #[.int .i64 E, .int .i64 H, .int .i64 U, .bool S]] w fun e w' =>
      e = .returned (.bool (RightL E H U S)) ∧ Below w.heap.size w w' := by
  cases S
  all_goals
    go_enter Try.func18, Try.ntmps18
    go_wp2
  all_goals go_ret
  all_goals refine ⟨ret_bool ?_, (Below.refl _ _).alloc (Nat.le_refl _) _⟩
  all_goals rw [Bool.eq_iff_iff, rl_iff]
  all_goals first | (simp; omega) | (simp; done)

def StB (w : World) (b : Nat) (s : LS) : Prop := w.heap[b]? = some (.cells #[.int .i64 s.E, .int .i64 s.H, .int .i64 s.U, .bool s.S] 42 (0, 0))
theorem StB.cell {w : World} {g : Nat} {s : LS} (h : StB w g s) :
    (w.cell? ⟨g, 0, none⟩ = some (.int .i64 s.E) ∧ w.cell? ⟨g, 1, none⟩ = some (.int .i64 s.H) ∧ w.cell? ⟨g, 2, none⟩ = some (.int .i64 s.U) ∧
     w.cell? ⟨g, 3, none⟩ = some (.bool s.S)) ∧ ∀ o, w.frozen? ⟨g, o, none⟩ = false := by
  unfold StB at h
  refine ⟨⟨?_, ?_, ?_, ?_⟩, ?_⟩
  all_goals first | (intro o; simp [World.frozen?, h]) | simp [World.cell?, h]
theorem StB.new (w : World) (E H U : Int) (S : Bool) : StB (w.alloc (.cells #[.int .i64 E, .int .i64 H, .int .i64 U, .bool S] 42)) w.heap.size ⟨E, H, U, S⟩ := heap_alloc_new w _

def LoadPost (E H U : Int) (S : Bool) (t : Int) (w : World) (e : Ending) (w' : World) : Prop :=
  (RightL E H U S = true ∧ ∃ g, w.heap.size ≤ g ∧ e = .returned (.tuple #[.pointer (some ⟨g, 0, none⟩), .int .i64 0]) ∧ LeaseAt w' g ⟨E, H, U, S⟩ t ∧ Below w.heap.size w w') ∨
  (RightL E H U S = false ∧ e = .returned (.tuple #[.pointer none, .int .i64 2]) ∧ Below w.heap.size w w')

def LoadYes (E H U : Int) (S : Bool) (t : Int) (w : World) (e : Ending) (w' : World) : Prop :=
  ∃ g, w.heap.size ≤ g ∧ e = .returned (.tuple #[.pointer (some ⟨g, 0, none⟩), .int .i64 0]) ∧ LeaseAt w' g ⟨E, H, U, S⟩ t ∧ Below w.heap.size w w'
def LoadNo (w : World) (e : Ending) (w' : World) : Prop := e = .returned (.tuple #[.pointer none, .int .i64 2]) ∧ Below w.heap.size w w'

set_option maxHeartbeats 4000000 in
theorem load_yes (t E H U : Int) (S : Bool) (w : World) (h1 : 1 ≤ t) (h2 : t ≤ 1000) (hr : RightL E H U S = true) :
    Calls Try.prog 17 #[.int .i64 t, .agg #[.int .i64 E, .int .i64 H, .int .i64 U, .bool S]] w (LoadYes E H U S t w) := by
  obtain ⟨r1, r2, r3, r4, r5, r6, r7, r8⟩ := (rl_iff E H U S).1 hr
  clear hr
  cases S
  case' false => obtain ⟨rfl, rfl⟩ := r8 rfl
  case' true => have r9 := r7 rfl; have r10 : (E == 0) = false := by simp; omega
  all_goals
    clear r7 r8
    go_enter Try.func17, Try.ntmps17
    go_wp2_with fail
    refine (new_ok t _ h1 h2).mono ?_
    rintro e w1 ⟨rfl, hL1, hB1⟩
    have hS0 : StB w1 w.heap.size _ := below_blk hB1 (StB.new w E _ _ _)
    obtain ⟨⟨d0, d1, d2, d3⟩, df⟩ := hS0.cell
    rw [World.size_alloc] at hL1
    obtain ⟨⟨g0, g1, g2, g3, g4⟩, gf⟩ := hL1.cell
    simp only at d0 d1 d2 d3
    have H1 := Lib.hid hL1
    have H2 := Lib.hid (((Below.refl _ w).alloc (Nat.le_refl _) _).trans (hB1.mono (by simp)))
    clear hL1 hB1 hS0
    go_wp2_with (first | (go_at_call 26; refine (within_any _ _ _).mono ?_; rintro e w' ⟨rfl, rfl⟩))
    go_ret2
    exact ⟨w.heap.size + 1, by omega, rfl, (H1.out.set4 _ _ _ _), ((((H2.out.setCell (by simp) _).setCell (by simp) _).setCell (by simp) _).setCell (by simp) _)⟩

set_option maxHeartbeats 4000000 in
theorem load_no (t E H U : Int) (S : Bool) (w : World) (h1 : 1 ≤ t) (h2 : t ≤ 1000) (hr : RightL E H U S = false) :
    Calls Try.prog 17 #[.int .i64 t, .agg #[.int .i64 E, .int .i64 H, .int .i64 U, .bool S]] w (LoadNo w) := by
  have hr' : ¬ (0 ≤ E ∧ E ≤ 1099511627776 ∧ 0 ≤ H ∧ H ≤ 100 ∧ 0 ≤ U ∧ U ≤ 2199023255552 ∧ (S = true → 0 < E) ∧ (S = false → H = 0 ∧ U = 0)) := by
    rw [← rl_iff, hr]; simp
  clear hr
  have HR := Lib.hid hr'
  clear hr'
  cases S
  all_goals
    go_enter Try.func17, Try.ntmps17
    go_wp2_with fail
    refine (new_ok t _ h1 h2).mono ?_
    rintro e w1 ⟨rfl, hL1, hB1⟩
    have hS0 : StB w1 w.heap.size _ := below_blk hB1 (StB.new w E H U _)
    obtain ⟨⟨d0, d1, d2, d3⟩, df⟩ := hS0.cell
    simp only at d0 d1 d2 d3
    have H2 := Lib.hid (((Below.refl _ w).alloc (Nat.le_refl _) _).trans (hB1.mono (by simp)))
    clear hL1 hB1 hS0
    go_wp2_with (first | (go_at_call 26; refine (within_any _ _ _).mono ?_; rintro e w' ⟨rfl, rfl⟩))
  all_goals
    have hh := HR.out
    simp at hh
    first
      | (exfalso; simp only [bne_iff_ne, ne_eq, bne_eq_false_iff_eq, beq_eq_false_iff_ne] at *; omega)
      | (go_ret2; exact ⟨rfl, H2.out⟩)
end Go.Proofs.Ytnfmhejfecadcaa
