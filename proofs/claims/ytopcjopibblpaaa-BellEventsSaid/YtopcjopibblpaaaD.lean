import Derived.Test.YtopcjopibblpaaaC
namespace Go.Proofs.Ytopcjopibblpaaa
open Go.RowKit

set_option maxHeartbeats 1000000 in
theorem new_ok (L R F : Int) (A : Bool) (w : World) (hr : rightB ⟨L, A, R, F⟩ = true) :
    Calls Try.prog 8 #[.agg #[.int .i64 L, .bool A, .int .i64 R, .int .i64 F]] w (LoadYes ⟨L, A, R, F⟩ 1 0 w) := by
  have h1 := ((right_iff _).1 hr).1
  have c := Lib.hid (load_good L R F 1 0 A (w.alloc (.cells #[.int .i64 L, .bool A, .int .i64 R, .int .i64 F] 23)) hr R rfl (.inl rfl) (by omega) (by simp only at h1; omega))
  clear h1 hr
  go_enter Try.func8, Try.ntmps8
  go_wp2_with fail
  refine c.out.mono ?_
  rintro e w1 ⟨g, hg, rfl, hb, hB⟩
  have HH : Hid (BellAt w1 g ⟨L, A, R, F⟩ 1 0 ∧ Below w.heap.size w w1) := ⟨hb, ((Below.refl _ w).alloc (Nat.le_refl _) _).trans (hB.mono (by simp))⟩
  have hg' : w.heap.size ≤ g := by simp at hg; omega
  clear hb hB c
  go_wp2
  go_ret2
  exact ⟨g, hg', rfl, HH.out.1, HH.out.2⟩

set_option maxHeartbeats 1000000 in
theorem new_no (L R F : Int) (A : Bool) (w : World) (hr : rightB ⟨L, A, R, F⟩ = false) :
    Calls Try.prog 8 #[.agg #[.int .i64 L, .bool A, .int .i64 R, .int .i64 F]] w (LoadNo 1 w) := by
  have c := Lib.hid (load_range L R F 1 0 A (w.alloc (.cells #[.int .i64 L, .bool A, .int .i64 R, .int .i64 F] 23)) hr)
  clear hr
  go_enter Try.func8, Try.ntmps8
  go_wp2_with fail
  refine c.out.mono ?_
  rintro e w1 ⟨rfl, hB⟩
  have HH : Hid (Below w.heap.size w w1) := ((Below.refl _ w).alloc (Nat.le_refl _) _).trans (hB.mono (by simp))
  clear hB c
  go_wp2
  go_ret2
  exact ⟨rfl, HH.out⟩

theorem size4 (wx : World) : (sizeOf 4).run Try.prog wx = .ok 1 wx := by kernel_rfl
theorem part4_0 (p q r s : Bool) (wx : World) : (part 4 #[.bool p, .bool q, .bool r, .bool s] 0).run Try.prog wx = .ok (.bool p) wx := by kernel_rfl
theorem part4_1 (p q r s : Bool) (wx : World) : (part 4 #[.bool p, .bool q, .bool r, .bool s] 1).run Try.prog wx = .ok (.bool q) wx := by kernel_rfl
theorem part4_2 (p q r s : Bool) (wx : World) : (part 4 #[.bool p, .bool q, .bool r, .bool s] 2).run Try.prog wx = .ok (.bool r) wx := by kernel_rfl
theorem part4_3 (p q r s : Bool) (wx : World) : (part 4 #[.bool p, .bool q, .bool r, .bool s] 3).run Try.prog wx = .ok (.bool s) wx := by kernel_rfl
theorem eqBool (a b : Bool) (wx : World) : (Op.equalIn 9999 4 (.bool a) (.bool b)).run Try.prog wx = .ok (a == b) wx :=
  run_equalIn_bool wx 9998 4 a b Try.underlying4
theorem eqArr (p q r s : Bool) (wx : World) :
    (Op.equalIn 10000 58 (.agg #[.bool p, .bool q, .bool r, .bool s]) (.agg #[.bool p, .bool q, .bool r, .bool s])).run Try.prog wx = .ok true wx := by
  show (Op.equalIn (9999 + 1) 58 _ _).run Try.prog wx = _
  unfold Op.equalIn
  simp only [Sem.run_bind, run_underlying Try.underlying58, Result.andThen_ok, size4]
  simp only [Nat.mul_one, Std.Legacy.Range.forIn_eq_forIn_range', Std.Legacy.Range.size]
  simp [List.range', part4_0, part4_1, part4_2, part4_3, eqBool]

theorem hear_1 (g : Nat) (w : World) (h : BellAt w g ⟨10, true, 2, 1⟩ 1 0) :
    Calls Try.prog 10 #[.pointer (some ⟨g, 0, none⟩), .int .i64 11] w fun e w' => e = .returned (.bool false) ∧ BellAt w' g ⟨10, true, 2, 1⟩ 1 1 ∧ Touch g w w' := by
  have c := hear_any g 10 2 1 1 0 11 true w h
  rw [show hearS ⟨10, true, 2, 1⟩ 1 0 11 = (1, 1, false) from by simp [hearS, badB, rowI, wrap64]] at c
  exact c
theorem hear_2 (g : Nat) (w : World) (h : BellAt w g ⟨10, true, 2, 1⟩ 1 1) :
    Calls Try.prog 10 #[.pointer (some ⟨g, 0, none⟩), .int .i64 11] w fun e w' => e = .returned (.bool true) ∧ BellAt w' g ⟨10, true, 2, 1⟩ 2 0 ∧ Touch g w w' := by
  have c := hear_any g 10 2 1 1 1 11 true w h
  rw [show hearS ⟨10, true, 2, 1⟩ 1 1 11 = (2, 0, true) from by simp [hearS, badB, rowI, wrap64]] at c
  exact c
theorem hear_3 (g : Nat) (w : World) (h : BellAt w g ⟨10, true, 2, 1⟩ 2 0) :
    Calls Try.prog 10 #[.pointer (some ⟨g, 0, none⟩), .int .i64 12] w fun e w' => e = .returned (.bool false) ∧ BellAt w' g ⟨10, true, 2, 1⟩ 2 0 ∧ Touch g w w' := by
  have c := hear_any g 10 2 1 2 0 12 true w h
  rw [show hearS ⟨10, true, 2, 1⟩ 2 0 12 = (2, 0, false) from by simp [hearS, badB]] at c
  exact c
theorem hear_4 (g : Nat) (w : World) (h : BellAt w g ⟨10, true, 2, 1⟩ 2 0) :
    Calls Try.prog 10 #[.pointer (some ⟨g, 0, none⟩), .int .i64 3] w fun e w' => e = .returned (.bool true) ∧ BellAt w' g ⟨10, true, 2, 1⟩ 1 0 ∧ Touch g w w' := by
  have c := hear_any g 10 2 1 2 0 3 true w h
  rw [show hearS ⟨10, true, 2, 1⟩ 2 0 3 = (1, 0, true) from by simp [hearS, badB, rowI, wrap64]] at c
  exact c

set_option maxHeartbeats 1000000 in
theorem awake_any (w : World) : Calls Try.prog 7 #[] w fun e w' => e = .returned (.bool true) ∧ Below w.heap.size w w' := by
  go_enter Try.func7, Try.ntmps7
  go_wp2_with fail
  refine (new_ok 10 2 1 true _ (by simp [rightB])).mono ?_
  rintro e w1 ⟨g, hg, rfl, hb1, hB1⟩
  have H1 := Lib.hid hb1
  have HB := Lib.hid hB1
  clear hb1 hB1
  go_wp2_with fail
  refine (hear_1 _ _ H1.out).mono ?_
  rintro e w2 ⟨rfl, hb2, hT2⟩
  have H2 : Hid (BellAt w2 g ⟨10, true, 2, 1⟩ 1 1 ∧ Touch g w1 w2) := ⟨hb2, hT2⟩
  clear hb2 hT2
  go_wp2_with fail
  refine (hear_2 _ _ H2.out.1).mono ?_
  rintro e w3 ⟨rfl, hb3, hT3⟩
  have H3 : Hid (BellAt w3 g ⟨10, true, 2, 1⟩ 2 0 ∧ Touch g w1 w3) := ⟨hb3, H2.out.2.trans hT3⟩
  clear hb3 hT3
  go_wp2_with fail
  refine (hear_3 _ _ H3.out.1).mono ?_
  rintro e w4 ⟨rfl, hb4, hT4⟩
  have H4 : Hid (BellAt w4 g ⟨10, true, 2, 1⟩ 2 0 ∧ Touch g w1 w4) := ⟨hb4, H3.out.2.trans hT4⟩
  clear hb4 hT4
  go_wp2_with fail
  refine (hear_4 _ _ H4.out.1).mono ?_
  rintro e w5 ⟨rfl, hb5, hT5⟩
  have H5 : Hid (Below w.heap.size w w5) := HB.out.trans ((H4.out.2.trans hT5).below hg HB.out.size)
  clear hb5 hT5
  have hEq := eqArr
  go_wp2
  go_ret
  exact ⟨rfl, H5.out.alloc H5.out.size _⟩
end Go.Proofs.Ytopcjopibblpaaa
