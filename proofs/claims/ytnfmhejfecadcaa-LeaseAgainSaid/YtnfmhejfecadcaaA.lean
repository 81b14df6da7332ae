import Derived.Test.YtnfmhejfecadcaaRows
import Derived.WalkKit
import Derived.WalkSpells
import Derived.WalkLawsBesides
import Derived.Deep.QuietTactic
import Derived.BigQuiet
import Derived.Lib.Hide
namespace Go.Proofs.Ytnfmhejfecadcaa
open Go.RowKit

theorem ret_bool {a b : Bool} (h : a = b) : Ending.returned (.bool a) = .returned (.bool b) := by rw [h]

set_option maxHeartbeats 400000 in
theorem within_any (n m : Int) (w : World) :
    Calls Try.prog 26 #[.int .i64 n, .int .i64 m] w fun e w' => e = .returned (.bool (decide (0 ≤ n) && decide (n ≤ m))) ∧ w = w' := by
  by_cases h : 0 ≤ n
  all_goals
    go_enter Try.func26, Try.ntmps26
    go_wp2
    go_ret
    exact ⟨ret_bool (by first | (simp [h]; done) | (simp; omega)), rfl⟩

def rightB (who now : Int) : Bool := decide (0 ≤ who) && decide (who ≤ 100) && (decide (0 ≤ now) && decide (now ≤ 1099511627776))
set_option maxHeartbeats 400000 in
theorem right_any (n m : Int) (w : World) :
    Calls Try.prog 23 #[.int .i64 n, .int .i64 m] w fun e w' => e = .returned (.bool (rightB n m)) ∧ w = w' := by
  cases h : (decide (0 ≤ n) && decide (n ≤ 100))
  all_goals
    go_enter Try.func23, Try.ntmps23
    go_wp2_with (go_at_call 26; refine (within_any _ _ _).mono ?_; rintro e w' ⟨rfl, rfl⟩)
    go_ret
    exact ⟨ret_bool (by simp [rightB, h]), rfl⟩

set_option maxHeartbeats 400000 in
theorem rightR_any (n m : Int) (w : World) :
    Calls Try.prog 27 #[.int .i64 n, .int .i64 m] w fun e w' => e = .returned (.bool (rightB n m)) ∧ w = w' := by
  by_cases h1 : 0 ≤ n <;> by_cases h2 : n ≤ 100 <;> by_cases h3 : 0 ≤ m
  all_goals
    go_enter Try.func27, Try.ntmps27
    go_wp2
    go_ret
    exact ⟨ret_bool (by first | (simp [rightB, h1, h2, h3]; done) | (rw [Bool.eq_iff_iff]; simp [rightB]; omega)), rfl⟩

/-- a lease's state -/
structure LS where
  E : Int
  H : Int
  U : Int
  S : Bool

def LeaseAt (w : World) (g : Nat) (s : LS) (t : Int) : Prop :=
  w.heap[g]? = some (.cells #[.int .i64 s.E, .int .i64 s.H, .int .i64 s.U, .bool s.S, .int .i64 t] 52 (0, 0))

theorem LeaseAt.cell {w : World} {g : Nat} {s : LS} {t : Int} (h : LeaseAt w g s t) :
    (w.cell? ⟨g, 0, none⟩ = some (.int .i64 s.E) ∧ w.cell? ⟨g, 1, none⟩ = some (.int .i64 s.H) ∧ w.cell? ⟨g, 2, none⟩ = some (.int .i64 s.U) ∧
     w.cell? ⟨g, 3, none⟩ = some (.bool s.S) ∧ w.cell? ⟨g, 4, none⟩ = some (.int .i64 t)) ∧ ∀ o, w.frozen? ⟨g, o, none⟩ = false := by
  unfold LeaseAt at h
  refine ⟨⟨?_, ?_, ?_, ?_, ?_⟩, ?_⟩
  all_goals first | (intro o; simp [World.frozen?, h]) | simp [World.cell?, h]

def heldB (s : LS) (now : Int) : Bool := s.S && decide (now < s.U)
def mineB (s : LS) (who epoch : Int) : Bool := s.S && (s.H == who) && (s.E == epoch)

set_option maxHeartbeats 400000 in
theorem held_any (g : Nat) (s : LS) (t now : Int) (w : World) (h : LeaseAt w g s t) :
    Calls Try.prog 24 #[.pointer (some ⟨g, 0, none⟩), .int .i64 now] w fun e w' => e = .returned (.bool (heldB s now)) ∧ w = w' := by
  obtain ⟨E, H, U, S⟩ := s
  obtain ⟨⟨h0, h1, h2, h3, h4⟩, hf⟩ := h.cell
  clear h
  simp only at h0 h1 h2 h3 h4
  cases S
  all_goals
    go_enter Try.func24, Try.ntmps24
    go_wp2
    go_ret
    exact ⟨ret_bool (by simp [heldB]), rfl⟩

set_option maxHeartbeats 400000 in
theorem mine_any (g : Nat) (s : LS) (t who epoch : Int) (w : World) (h : LeaseAt w g s t) :
    Calls Try.prog 25 #[.pointer (some ⟨g, 0, none⟩), .int .i64 who, .int .i64 epoch] w fun e w' => e = .returned (.bool (mineB s who epoch)) ∧ w = w' := by
  obtain ⟨E, H, U, S⟩ := s
  obtain ⟨⟨h0, h1, h2, h3, h4⟩, hf⟩ := h.cell
  clear h
  simp only at h0 h1 h2 h3 h4
  cases S <;> cases hq : (H == who)
  all_goals
    go_enter Try.func25, Try.ntmps25
    go_wp2
    go_ret
    exact ⟨ret_bool (by first | rfl | simp [mineB, hq]), rfl⟩


/-- what a call may turn: block g alone (of the blocks that were there) -/
structure Touch (g : Nat) (w w' : World) : Prop where
  os : w'.os = w.os
  tape : w'.tape = w.tape
  output : w'.output = w.output
  size : w.heap.size ≤ w'.heap.size
  block : ∀ k, k < w.heap.size → k ≠ g → w'.heap[k]? = w.heap[k]?

namespace Touch
variable {g : Nat} {w w' w1 w2 : World}
theorem refl (g : Nat) (w : World) : Touch g w w := ⟨rfl, rfl, rfl, Nat.le_refl _, fun _ _ _ => rfl⟩
theorem trans (h : Touch g w w1) (k : Touch g w1 w2) : Touch g w w2 :=
  ⟨k.os.trans h.os, k.tape.trans h.tape, k.output.trans h.output, Nat.le_trans h.size k.size, fun i hi hg => (k.block i (Nat.lt_of_lt_of_le hi h.size) hg).trans (h.block i hi hg)⟩
theorem drew (h : Touch g w w1) : Touch g w w1.drew := ⟨h.os, h.tape, h.output, h.size, h.block⟩
theorem drewN (h : Touch g w w1) (n : Nat) : Touch g w (w1.drewN n) := ⟨h.os, h.tape, h.output, h.size, h.block⟩
theorem set_ (h : Touch g w w1) (j : Nat) (u : Value) : Touch g w (w1.setCell ⟨g, j, none⟩ u) :=
  h.trans ⟨rfl, rfl, rfl, by simp [World.setCell], fun k _ hk => Below.heap_setCell _ _ _ _ hk⟩
theorem alloc (h : Touch g w w1) (o : Obj) : Touch g w (w1.alloc o) :=
  h.trans ⟨rfl, rfl, rfl, by simp, fun k hk _ => Below.heap_alloc _ _ _ hk⟩
theorem of_below (h : Below w.heap.size w w1) (g : Nat) : Touch g w w1 := ⟨h.os, h.tape, h.output, h.size, fun k hk _ => h.block k hk⟩
theorem below {n : Nat} (h : Touch g w w1) (hg : n ≤ g) (hn : n ≤ w.heap.size) : Below n w w1 :=
  ⟨h.os, h.tape, h.output, h.size, fun k hk => h.block k (by omega) (by omega)⟩
end Touch

theorem LeaseAt.drew {w : World} {g : Nat} {s : LS} {t : Int} (h : LeaseAt w g s t) : LeaseAt w.drew g s t := h
theorem LeaseAt.drewN {w : World} {g : Nat} {s : LS} {t : Int} (h : LeaseAt w g s t) (n : Nat) : LeaseAt (w.drewN n) g s t := h
theorem LeaseAt.lt {w : World} {g : Nat} {s : LS} {t : Int} (h : LeaseAt w g s t) : g < w.heap.size := by
  unfold LeaseAt at h
  exact (Array.getElem?_eq_some_iff.1 h).1
theorem LeaseAt.set4 {w : World} {g : Nat} {s : LS} {t : Int} (h : LeaseAt w g s t) (E H U : Int) (S : Bool) :
    LeaseAt ((((w.setCell ⟨g, 0, none⟩ (.int .i64 E)).setCell ⟨g, 1, none⟩ (.int .i64 H)).setCell ⟨g, 2, none⟩ (.int .i64 U)).setCell ⟨g, 3, none⟩ (.bool S)) g ⟨E, H, U, S⟩ t := by
  unfold LeaseAt at *
  simp [World.setCell, Array.getElem?_modify, h]
theorem LeaseAt.setU {w : World} {g : Nat} {s : LS} {t : Int} (h : LeaseAt w g s t) (U : Int) :
    LeaseAt (w.setCell ⟨g, 2, none⟩ (.int .i64 U)) g ⟨s.E, s.H, U, s.S⟩ t := by
  unfold LeaseAt at *
  simp [World.setCell, Array.getElem?_modify, h]

def askS (s : LS) (t who now : Int) : LS × Int × Int × Int :=
  if rightB who now = false then (s, 0, 0, 1) else if heldB s now = true then (s, 0, 0, 22)
  else (⟨wrap64 (s.E + 1), who, wrap64 (now + t), true⟩, wrap64 (s.E + 1), wrap64 (now + t), 0)
def renewS (s : LS) (t who epoch now : Int) : LS × Int × Int :=
  if rightB who now = false then (s, 0, 1) else if (mineB s who epoch && heldB s now) = false then (s, 0, 21)
  else (⟨s.E, s.H, max s.U (wrap64 (now + t)), s.S⟩, max s.U (wrap64 (now + t)), 0)
def leaveS (s : LS) (who epoch : Int) : LS × Int :=
  if mineB s who epoch = false then (s, 21) else (⟨s.E, 0, 0, false⟩, 0)

theorem ret_int3 {a b c a' b' c' : Int} (h1 : a = a') (h2 : b = b') (h3 : c = c') :
    Ending.returned (.tuple #[.int .i64 a, .int .i64 b, .int .i64 c]) = .returned (.tuple #[.int .i64 a', .int .i64 b', .int .i64 c']) := by rw [h1, h2, h3]
theorem ret_int2 {a b a' b' : Int} (h1 : a = a') (h2 : b = b') :
    Ending.returned (.tuple #[.int .i64 a, .int .i64 b]) = .returned (.tuple #[.int .i64 a', .int .i64 b']) := by rw [h1, h2]
theorem ret_int {a a' : Int} (h1 : a = a') : Ending.returned (.int .i64 a) = .returned (.int .i64 a') := by rw [h1]

set_option maxHeartbeats 1000000 in
theorem ask_any (g : Nat) (s : LS) (t who now : Int) (w : World) (h : LeaseAt w g s t) :
    Calls Try.prog 10 #[.pointer (some ⟨g, 0, none⟩), .int .i64 who, .int .i64 now] w fun e w' =>
      e = .returned (.tuple #[.int .i64 (askS s t who now).2.1, .int .i64 (askS s t who now).2.2.1, .int .i64 (askS s t who now).2.2.2]) ∧
      LeaseAt w' g (askS s t who now).1 t ∧ Touch g w w' := by
  have H := Lib.hid h
  obtain ⟨⟨h0, h1, h2, h3, h4⟩, hf⟩ := h.cell
  clear h
  cases hr : rightB who now
  · have R : askS s t who now = (s, 0, 0, 1) := by simp [askS, hr]
    rw [R]
    go_enter Try.func10, Try.ntmps10
    go_wp2_with (first | (go_at_call 23; refine (right_any _ _ _).mono ?_; rintro e w' ⟨rfl, rfl⟩) | (go_at_call 24; refine (held_any _ _ _ _ _ H.out).mono ?_; rintro e w' ⟨rfl, rfl⟩))
    go_ret3
    exact ⟨rfl, H.out, Touch.refl _ _⟩
  · cases hh : heldB s now
    · have R : askS s t who now = (⟨wrap64 (s.E + 1), who, wrap64 (now + t), true⟩, wrap64 (s.E + 1), wrap64 (now + t), 0) := by simp [askS, hr, hh]
      rw [R]
      go_enter Try.func10, Try.ntmps10
      go_wp2_with (first | (go_at_call 23; refine (right_any _ _ _).mono ?_; rintro e w' ⟨rfl, rfl⟩) | (go_at_call 24; refine (held_any _ _ _ _ _ H.out).mono ?_; rintro e w' ⟨rfl, rfl⟩))
      clear hr hh
      go_region
      go_wp2
      go_quiet (fail)
      go_wp2
      go_ret3
      exact ⟨rfl, (H.out.set4 _ _ _ _).drew.drewN _, (((((Touch.refl _ _).set_ _ _).set_ _ _).set_ _ _).set_ _ _).drew.drewN _⟩
    · have R : askS s t who now = (s, 0, 0, 22) := by simp [askS, hr, hh]
      rw [R]
      go_enter Try.func10, Try.ntmps10
      go_wp2_with (first | (go_at_call 23; refine (right_any _ _ _).mono ?_; rintro e w' ⟨rfl, rfl⟩) | (go_at_call 24; refine (held_any _ _ _ _ _ H.out).mono ?_; rintro e w' ⟨rfl, rfl⟩))
      go_ret3
      exact ⟨rfl, H.out, Touch.refl _ _⟩

set_option maxHeartbeats 1000000 in
theorem renew_any (g : Nat) (s : LS) (t who epoch now : Int) (w : World) (h : LeaseAt w g s t) :
    Calls Try.prog 11 #[.pointer (some ⟨g, 0, none⟩), .int .i64 who, .int .i64 epoch, .int .i64 now] w fun e w' =>
      e = .returned (.tuple #[.int .i64 (renewS s t who epoch now).2.1, .int .i64 (renewS s t who epoch now).2.2]) ∧
      LeaseAt w' g (renewS s t who epoch now).1 t ∧ Touch g w w' := by
  have H := Lib.hid h
  obtain ⟨⟨h0, h1, h2, h3, h4⟩, hf⟩ := h.cell
  clear h
  cases hr : rightB who now
  · have R : renewS s t who epoch now = (s, 0, 1) := by simp [renewS, hr]
    rw [R]
    go_enter Try.func11, Try.ntmps11
    go_wp2_with (first | (go_at_call 23; refine (right_any _ _ _).mono ?_; rintro e w' ⟨rfl, rfl⟩) | (go_at_call 24; refine (held_any _ _ _ _ _ H.out).mono ?_; rintro e w' ⟨rfl, rfl⟩))
    go_ret2
    exact ⟨rfl, H.out, Touch.refl _ _⟩
  · cases hm : mineB s who epoch <;> cases hh : heldB s now
    case true.true =>
      have R : renewS s t who epoch now = (⟨s.E, s.H, max s.U (wrap64 (now + t)), s.S⟩, max s.U (wrap64 (now + t)), 0) := by simp [renewS, hr, hh, hm]
      rw [R]
      go_enter Try.func11, Try.ntmps11
      go_wp2_with (first | (go_at_call 23; refine (right_any _ _ _).mono ?_; rintro e w' ⟨rfl, rfl⟩) | (go_at_call 24; refine (held_any _ _ _ _ _ H.out).mono ?_; rintro e w' ⟨rfl, rfl⟩) | (go_at_call 25; refine (mine_any _ _ _ _ _ _ H.out).mono ?_; rintro e w' ⟨rfl, rfl⟩))
      clear hr hh
      go_region
      go_wp2
      · have hlt : s.U < wrap64 (now + t) := by assumption
        go_ret2
        have hx : max s.U (wrap64 (now + t)) = wrap64 (now + t) := by omega
        rw [hx]
        exact ⟨rfl, (H.out.setU _).drew, ((Touch.refl _ _).set_ _ _).drew⟩
      · have hlt : wrap64 (now + t) ≤ s.U := by assumption
        go_ret2
        have hx : max s.U (wrap64 (now + t)) = s.U := by omega
        rw [hx]
        exact ⟨rfl, (H.out.setU _).drew, ((Touch.refl _ _).set_ _ _).drew⟩
    all_goals
      have R : renewS s t who epoch now = (s, 0, 21) := by simp [renewS, hr, hh, hm]
      rw [R]
      go_enter Try.func11, Try.ntmps11
      go_wp2_with (first | (go_at_call 23; refine (right_any _ _ _).mono ?_; rintro e w' ⟨rfl, rfl⟩) | (go_at_call 24; refine (held_any _ _ _ _ _ H.out).mono ?_; rintro e w' ⟨rfl, rfl⟩) | (go_at_call 25; refine (mine_any _ _ _ _ _ _ H.out).mono ?_; rintro e w' ⟨rfl, rfl⟩))
      go_ret2
      exact ⟨rfl, H.out, Touch.refl _ _⟩

set_option maxHeartbeats 1000000 in
theorem leave_any (g : Nat) (s : LS) (t who epoch : Int) (w : World) (h : LeaseAt w g s t) :
    Calls Try.prog 12 #[.pointer (some ⟨g, 0, none⟩), .int .i64 who, .int .i64 epoch] w fun e w' =>
      e = .returned (.int .i64 (leaveS s who epoch).2) ∧ LeaseAt w' g (leaveS s who epoch).1 t ∧ Touch g w w' := by
  have H := Lib.hid h
  obtain ⟨⟨h0, h1, h2, h3, h4⟩, hf⟩ := h.cell
  clear h
  cases hm : mineB s who epoch
  · have R : leaveS s who epoch = (s, 21) := by simp [leaveS, hm]
    rw [R]
    go_enter Try.func12, Try.ntmps12
    go_wp2_with (go_at_call 25; refine (mine_any _ _ _ _ _ _ H.out).mono ?_; rintro e w' ⟨rfl, rfl⟩)
    go_ret
    exact ⟨rfl, H.out, Touch.refl _ _⟩
  · have R : leaveS s who epoch = (⟨s.E, 0, 0, false⟩, 0) := by simp [leaveS, hm]
    rw [R]
    go_enter Try.func12, Try.ntmps12
    go_wp2_with (go_at_call 25; refine (mine_any _ _ _ _ _ _ H.out).mono ?_; rintro e w' ⟨rfl, rfl⟩)
    go_ret
    exact ⟨rfl, (H.out.set4 _ _ _ _), (((((Touch.refl _ _).set_ _ _).set_ _ _).set_ _ _).set_ _ _)⟩

def holderS (s : LS) (now : Int) : Int × Int × Int := if heldB s now = true then (s.H, s.E, 0) else (0, 0, 5)
set_option maxHeartbeats 1000000 in
theorem holder_any (g : Nat) (s : LS) (t now : Int) (w : World) (h : LeaseAt w g s t) :
    Calls Try.prog 13 #[.pointer (some ⟨g, 0, none⟩), .int .i64 now] w fun e w' =>
      e = .returned (.tuple #[.int .i64 (holderS s now).1, .int .i64 (holderS s now).2.1, .int .i64 (holderS s now).2.2]) ∧ ∃ n, w.drewN n = w' := by
  have H := Lib.hid h
  obtain ⟨⟨h0, h1, h2, h3, h4⟩, hf⟩ := h.cell
  clear h
  cases hm : heldB s now
  · have R : holderS s now = (0, 0, 5) := by simp [holderS, hm]
    rw [R]
    go_enter Try.func13, Try.ntmps13
    go_wp2_with (go_at_call 24; refine (held_any _ _ _ _ _ H.out).mono ?_; rintro e w' ⟨rfl, rfl⟩)
    go_ret3
    exact ⟨rfl, 0, rfl⟩
  · have R : holderS s now = (s.H, s.E, 0) := by simp [holderS, hm]
    rw [R]
    go_enter Try.func13, Try.ntmps13
    go_wp2_with (go_at_call 24; refine (held_any _ _ _ _ _ H.out).mono ?_; rintro e w' ⟨rfl, rfl⟩)
    go_quiet (fail)
    go_wp2
    go_ret3
    exact ⟨rfl, _, rfl⟩

set_option maxHeartbeats 1000000 in
theorem state_any (g : Nat) (s : LS) (t : Int) (w : World) (h : LeaseAt w g s t) :
    Calls Try.prog 15 #[.pointer (some ⟨g, 0, none⟩)] w fun e w' =>
      e = .returned (.agg #[.int .i64 s.E, .int .i64 s.H, .int .i64 s.U, .bool s.S]) ∧ Below w.heap.size w w' := by
  have H := Lib.hid h
  obtain ⟨⟨h0, h1, h2, h3, h4⟩, hf⟩ := h.cell
  have hlt := h.lt
  clear h
  go_enter Try.func15, Try.ntmps15
  go_wp2
  refine bodyPost_ret (v := .agg #[.int .i64 s.E, .int .i64 s.H, .int .i64 s.U, .bool s.S]) (by simp [results, Try.results15, go_sem]) rfl ⟨rfl, ?_⟩
  exact (Below.refl _ _).alloc (Nat.le_refl _) _

theorem LeaseAt.new (w : World) (t : Int) : LeaseAt (w.alloc (.cells #[.int .i64 0, .int .i64 0, .int .i64 0, .bool false, .int .i64 t] 52)) w.heap.size ⟨0, 0, 0, false⟩ t :=
  heap_alloc_new w _

set_option maxHeartbeats 1000000 in
theorem new_ok (t : Int) (w : World) (h1 : 1 ≤ t) (h2 : t ≤ 1000) :
    Calls Try.prog 8 #[.int .i64 t] w fun e w' =>
      e = .returned (.tuple #[.pointer (some ⟨w.heap.size, 0, none⟩), .int .i64 0]) ∧ LeaseAt w' w.heap.size ⟨0, 0, 0, false⟩ t ∧ Below w.heap.size w w' := by
  go_enter Try.func8, Try.ntmps8
  go_wp2
  go_ret2
  exact ⟨rfl, LeaseAt.new w t, (Below.refl _ _).alloc (Nat.le_refl _) _⟩
set_option maxHeartbeats 1000000 in
theorem new_no (t : Int) (w : World) (h : ¬ (1 ≤ t ∧ t ≤ 1000)) :
    Calls Try.prog 8 #[.int .i64 t] w fun e w' => e = .returned (.tuple #[.pointer none, .int .i64 1]) ∧ w = w' := by
  by_cases h1 : 1 ≤ t
  · have h2 : 1000 < t := by omega
    clear h
    go_enter Try.func8, Try.ntmps8
    go_wp2
    go_ret2
    exact ⟨rfl, rfl⟩
  · have h2 : t < 1 := by omega
    clear h
    go_enter Try.func8, Try.ntmps8
    go_wp2
    go_ret2
    exact ⟨rfl, rfl⟩
end Go.Proofs.Ytnfmhejfecadcaa
