import Derived.Test.YtnfmhejfecadcaaA
namespace Go.Proofs.Ytnfmhejfecadcaa
open Go.RowKit

set_option maxHeartbeats 1000000 in
theorem heldR_any (E H U now : Int) (S : Bool) (w : World) :
    Calls Try.prog 22 #[.agg #[.int .i64 E, .int .i64 H, .int .i64 U, .bool S], .int .i64 now] w fun e w' =>
      e = .returned (.bool (heldB ⟨E, H, U, S⟩ now)) ∧ Below w.heap.size w w' := by
  cases S
  all_goals
    go_enter Try.func22, Try.ntmps22
    go_wp2
    go_ret
    exact ⟨ret_bool (by simp [heldB]), (Below.refl _ _).alloc (Nat.le_refl _) _⟩

theorem bcell {W w1 : World} (hb : Below W.heap.size W w1) : (∀ b o, b < W.heap.size → w1.cell? ⟨b, o, none⟩ = W.cell? ⟨b, o, none⟩) ∧ (∀ b o, b < W.heap.size → w1.frozen? ⟨b, o, none⟩ = W.frozen? ⟨b, o, none⟩) :=
  ⟨fun b o h => hb.cell (p := ⟨b, o, none⟩) h, fun b o h => hb.frozen (p := ⟨b, o, none⟩) h⟩


def RetAsk (x : LS × Int × Int × Int) (w : World) (e : Ending) (w' : World) : Prop :=
  e = .returned (.tuple #[.agg #[.int .i64 x.1.E, .int .i64 x.1.H, .int .i64 x.1.U, .bool x.1.S], .int .i64 x.2.1, .int .i64 x.2.2.1, .int .i64 x.2.2.2]) ∧ Below w.heap.size w w'
def RetRenew (x : LS × Int × Int) (w : World) (e : Ending) (w' : World) : Prop :=
  e = .returned (.tuple #[.agg #[.int .i64 x.1.E, .int .i64 x.1.H, .int .i64 x.1.U, .bool x.1.S], .int .i64 x.2.1, .int .i64 x.2.2]) ∧ Below w.heap.size w w'
def RetLeave (x : LS × Int) (w : World) (e : Ending) (w' : World) : Prop :=
  e = .returned (.tuple #[.agg #[.int .i64 x.1.E, .int .i64 x.1.H, .int .i64 x.1.U, .bool x.1.S], .int .i64 x.2]) ∧ Below w.heap.size w w'

set_option maxHeartbeats 1000000 in
theorem askR_no (E H U t who now : Int) (S : Bool) (w : World) (hr : rightB who now = false) :
    Calls Try.prog 19 #[.agg #[.int .i64 E, .int .i64 H, .int .i64 U, .bool S], .int .i64 t, .int .i64 who, .int .i64 now] w (RetAsk (⟨E, H, U, S⟩, 0, 0, 1) w) := by
  go_enter Try.func19, Try.ntmps19
  go_wp2_with (go_at_call 27; refine (rightR_any _ _ _).mono ?_; rintro e w' ⟨rfl, rfl⟩)
  refine bodyPost_ret (v := .tuple #[.agg #[.int .i64 E, .int .i64 H, .int .i64 U, .bool S], .int .i64 0, .int .i64 0, .int .i64 1]) (by simp [results, Try.results19, go_sem]) rfl ⟨rfl, ?_⟩
  exact ((Below.refl _ _).alloc (Nat.le_refl _) _).alloc (by simp) _

set_option maxHeartbeats 1000000 in
theorem askR_held (E H U t who now : Int) (w : World) (hr : rightB who now = true) (hU : now < U) :
    Calls Try.prog 19 #[.agg #[.int .i64 E, .int .i64 H, .int .i64 U, .bool true], .int .i64 t, .int .i64 who, .int .i64 now] w (RetAsk (⟨E, H, U, true⟩, 0, 0, 22) w) := by
  go_enter Try.func19, Try.ntmps19
  go_wp2_with (first | (go_at_call 27; refine (rightR_any _ _ _).mono ?_; rintro e w' ⟨rfl, rfl⟩) | go_in)
  refine bodyPost_ret (v := .tuple #[.agg #[.int .i64 E, .int .i64 H, .int .i64 U, .bool true], .int .i64 0, .int .i64 0, .int .i64 22]) (by simp [results, Try.results19, go_sem]) rfl ⟨rfl, ?_⟩
  exact (((Below.refl _ _).alloc (Nat.le_refl _) _).alloc (by simp) _).alloc (by simp; omega) _
set_option maxHeartbeats 1000000 in
theorem askR_free (E H U t who now : Int) (S : Bool) (w : World) (hr : rightB who now = true) (hU : S = true → ¬ now < U) :
    Calls Try.prog 19 #[.agg #[.int .i64 E, .int .i64 H, .int .i64 U, .bool S], .int .i64 t, .int .i64 who, .int .i64 now] w (RetAsk (⟨wrap64 (E + 1), who, wrap64 (now + t), true⟩, wrap64 (E + 1), wrap64 (now + t), 0) w) := by
  cases S
  case true => replace hU : U ≤ now := by have := hU rfl; omega
               go_enter Try.func19, Try.ntmps19
               go_wp2_with (first | (go_at_call 27; refine (rightR_any _ _ _).mono ?_; rintro e w' ⟨rfl, rfl⟩) | go_in)
               go_region
               go_wp2
               refine bodyPost_ret (v := .tuple #[.agg #[.int .i64 (wrap64 (E + 1)), .int .i64 who, .int .i64 (wrap64 (now + t)), .bool true], .int .i64 (wrap64 (E + 1)), .int .i64 (wrap64 (now + t)), .int .i64 0]) (by simp [results, Try.results19, go_sem]) rfl ⟨rfl, ?_⟩
               exact ((((Below.refl _ _).alloc (Nat.le_refl _) _).alloc (by simp) _).alloc (by simp; omega) _).drew
  case false => clear hU
                go_enter Try.func19, Try.ntmps19
                go_wp2_with (first | (go_at_call 27; refine (rightR_any _ _ _).mono ?_; rintro e w' ⟨rfl, rfl⟩) | go_in)
                go_region
                go_wp2
                refine bodyPost_ret (v := .tuple #[.agg #[.int .i64 (wrap64 (E + 1)), .int .i64 who, .int .i64 (wrap64 (now + t)), .bool true], .int .i64 (wrap64 (E + 1)), .int .i64 (wrap64 (now + t)), .int .i64 0]) (by simp [results, Try.results19, go_sem]) rfl ⟨rfl, ?_⟩
                exact ((((Below.refl _ _).alloc (Nat.le_refl _) _).alloc (by simp) _).alloc (by simp; omega) _).drew
theorem askR_any (E H U t who now : Int) (S : Bool) (w : World) :
    Calls Try.prog 19 #[.agg #[.int .i64 E, .int .i64 H, .int .i64 U, .bool S], .int .i64 t, .int .i64 who, .int .i64 now] w (RetAsk (askS ⟨E, H, U, S⟩ t who now) w) := by
  cases hr : rightB who now
  · have R : askS ⟨E, H, U, S⟩ t who now = (⟨E, H, U, S⟩, 0, 0, 1) := by simp [askS, hr]
    rw [R]
    exact askR_no E H U t who now S w hr
  · by_cases hU : S = true ∧ now < U
    · obtain ⟨rfl, hU⟩ := hU
      have R : askS ⟨E, H, U, true⟩ t who now = (⟨E, H, U, true⟩, 0, 0, 22) := by simp [askS, hr, heldB, hU]
      rw [R]
      exact askR_held E H U t who now w hr hU
    · have R : askS ⟨E, H, U, S⟩ t who now = (⟨wrap64 (E + 1), who, wrap64 (now + t), true⟩, wrap64 (E + 1), wrap64 (now + t), 0) := by
        have : heldB ⟨E, H, U, S⟩ now = false := by
          cases S
          · rfl
          · simp [heldB] at hU ⊢; omega
        simp [askS, hr, this]
      rw [R]
      exact askR_free E H U t who now S w hr (fun h1 h2 => hU ⟨h1, h2⟩)

set_option maxHeartbeats 1000000 in
theorem renewR_no (E H U t who epoch now : Int) (S : Bool) (w : World) (hr : rightB who now = false) :
    Calls Try.prog 20 #[.agg #[.int .i64 E, .int .i64 H, .int .i64 U, .bool S], .int .i64 t, .int .i64 who, .int .i64 epoch, .int .i64 now] w (RetRenew (⟨E, H, U, S⟩, 0, 1) w) := by
  go_enter Try.func20, Try.ntmps20
  go_wp2_with (first | (go_at_call 27; refine (rightR_any _ _ _).mono ?_; rintro e w' ⟨rfl, rfl⟩) | go_in)
  refine bodyPost_ret (v := .tuple #[.agg #[.int .i64 E, .int .i64 H, .int .i64 U, .bool S], .int .i64 0, .int .i64 1]) (by simp [results, Try.results20, go_sem]) rfl ⟨rfl, ?_⟩
  exact ((Below.refl _ _).alloc (Nat.le_refl _) _).alloc (by simp) _
set_option maxHeartbeats 1000000 in
theorem renewR_old (E H U t who epoch now : Int) (S : Bool) (w : World) (hr : rightB who now = true) (hq : (H == who) = false ∨ (E == epoch) = false ∨ S = false ∨ U ≤ now) :
    Calls Try.prog 20 #[.agg #[.int .i64 E, .int .i64 H, .int .i64 U, .bool S], .int .i64 t, .int .i64 who, .int .i64 epoch, .int .i64 now] w (RetRenew (⟨E, H, U, S⟩, 0, 21) w) := by
  cases h1 : (H == who)
  · clear hq
    have h1' : (H != who) = true := by simp [bne, h1]
    go_enter Try.func20, Try.ntmps20
    go_wp2_with (first | (go_at_call 27; refine (rightR_any _ _ _).mono ?_; rintro e w' ⟨rfl, rfl⟩) | go_in)
    refine bodyPost_ret (v := .tuple #[.agg #[.int .i64 E, .int .i64 H, .int .i64 U, .bool S], .int .i64 0, .int .i64 21]) (by simp [results, Try.results20, go_sem]) rfl ⟨rfl, ?_⟩
    exact ((Below.refl _ _).alloc (Nat.le_refl _) _).alloc (by simp) _
  · have h1' : (H != who) = false := by simp [bne, h1]
    cases h2 : (E == epoch)
    · clear hq
      have h2' : (E != epoch) = true := by simp [bne, h2]
      go_enter Try.func20, Try.ntmps20
      go_wp2_with (first | (go_at_call 27; refine (rightR_any _ _ _).mono ?_; rintro e w' ⟨rfl, rfl⟩) | go_in)
      refine bodyPost_ret (v := .tuple #[.agg #[.int .i64 E, .int .i64 H, .int .i64 U, .bool S], .int .i64 0, .int .i64 21]) (by simp [results, Try.results20, go_sem]) rfl ⟨rfl, ?_⟩
      exact ((Below.refl _ _).alloc (Nat.le_refl _) _).alloc (by simp) _
    · have h2' : (E != epoch) = false := by simp [bne, h2]
      cases S
      · clear hq
        go_enter Try.func20, Try.ntmps20
        go_wp2_with (first | (go_at_call 27; refine (rightR_any _ _ _).mono ?_; rintro e w' ⟨rfl, rfl⟩) | go_in)
        refine bodyPost_ret (v := .tuple #[.agg #[.int .i64 E, .int .i64 H, .int .i64 U, .bool false], .int .i64 0, .int .i64 21]) (by simp [results, Try.results20, go_sem]) rfl ⟨rfl, ?_⟩
        exact (((Below.refl _ _).alloc (Nat.le_refl _) _).alloc (by simp) _).alloc (by simp; omega) _
      · have hU : U ≤ now := by simpa [h1, h2] using hq
        clear hq
        have hd : decide (now < U) = false := by simpa using hU
        go_enter Try.func20, Try.ntmps20
        go_wp2_with (first | (go_at_call 27; refine (rightR_any _ _ _).mono ?_; rintro e w' ⟨rfl, rfl⟩) | go_in)
        refine bodyPost_ret (v := .tuple #[.agg #[.int .i64 E, .int .i64 H, .int .i64 U, .bool true], .int .i64 0, .int .i64 21]) (by simp [results, Try.results20, go_sem]) rfl ⟨rfl, ?_⟩
        exact (((Below.refl _ _).alloc (Nat.le_refl _) _).alloc (by simp) _).alloc (by simp; omega) _
set_option maxHeartbeats 1000000 in
theorem renewR_yes (E H U t who epoch now : Int) (w : World) (hr : rightB who now = true) (h1 : (H == who) = true) (h2 : (E == epoch) = true) (hU : now < U) :
    Calls Try.prog 20 #[.agg #[.int .i64 E, .int .i64 H, .int .i64 U, .bool true], .int .i64 t, .int .i64 who, .int .i64 epoch, .int .i64 now] w (RetRenew (⟨E, H, max U (wrap64 (now + t)), true⟩, max U (wrap64 (now + t)), 0) w) := by
  have h1' : (H != who) = false := by simp [bne, h1]
  have h2' : (E != epoch) = false := by simp [bne, h2]
  have hd : decide (now < U) = true := by simpa using hU
  by_cases hm : U < wrap64 (now + t)
  · have hx : max U (wrap64 (now + t)) = wrap64 (now + t) := by omega
    rw [hx]
    clear hx
    go_enter Try.func20, Try.ntmps20
    go_wp2_with (first | (go_at_call 27; refine (rightR_any _ _ _).mono ?_; rintro e w' ⟨rfl, rfl⟩) | go_in)
    go_region
    go_wp2
    refine bodyPost_ret (v := .tuple #[.agg #[.int .i64 E, .int .i64 H, .int .i64 (wrap64 (now + t)), .bool true], .int .i64 (wrap64 (now + t)), .int .i64 0]) (by simp [results, Try.results20, go_sem]) rfl ⟨rfl, ?_⟩
    exact ((((Below.refl _ _).alloc (Nat.le_refl _) _).alloc (by simp) _).alloc (by simp; omega) _).drew
  · have hx : max U (wrap64 (now + t)) = U := by omega
    rw [hx]
    clear hx
    go_enter Try.func20, Try.ntmps20
    go_wp2_with (first | (go_at_call 27; refine (rightR_any _ _ _).mono ?_; rintro e w' ⟨rfl, rfl⟩) | go_in)
    go_region
    go_wp2
    refine bodyPost_ret (v := .tuple #[.agg #[.int .i64 E, .int .i64 H, .int .i64 U, .bool true], .int .i64 U, .int .i64 0]) (by simp [results, Try.results20, go_sem]) rfl ⟨rfl, ?_⟩
    exact ((((Below.refl _ _).alloc (Nat.le_refl _) _).alloc (by simp) _).alloc (by simp; omega) _).drew
theorem renewR_any (E H U t who epoch now : Int) (S : Bool) (w : World) :
    Calls Try.prog 20 #[.agg #[.int .i64 E, .int .i64 H, .int .i64 U, .bool S], .int .i64 t, .int .i64 who, .int .i64 epoch, .int .i64 now] w (RetRenew (renewS ⟨E, H, U, S⟩ t who epoch now) w) := by
  cases hr : rightB who now
  · have R : renewS ⟨E, H, U, S⟩ t who epoch now = (⟨E, H, U, S⟩, 0, 1) := by simp [renewS, hr]
    rw [R]
    exact renewR_no E H U t who epoch now S w hr
  · by_cases hq : (H == who) = false ∨ (E == epoch) = false ∨ S = false ∨ U ≤ now
    · have R : renewS ⟨E, H, U, S⟩ t who epoch now = (⟨E, H, U, S⟩, 0, 21) := by
        have : (mineB ⟨E, H, U, S⟩ who epoch && heldB ⟨E, H, U, S⟩ now) = false := by
          rcases hq with h | h | h | h <;> simp [mineB, heldB, h]
        simp [renewS, hr, this]
      rw [R]
      exact renewR_old E H U t who epoch now S w hr hq
    · simp only [not_or, Bool.not_eq_false] at hq
      obtain ⟨q1, q2, rfl, q4⟩ := hq
      have R : renewS ⟨E, H, U, true⟩ t who epoch now = (⟨E, H, max U (wrap64 (now + t)), true⟩, max U (wrap64 (now + t)), 0) := by
        have : (mineB ⟨E, H, U, true⟩ who epoch && heldB ⟨E, H, U, true⟩ now) = true := by
          simp [mineB, heldB, q1, q2]; omega
        simp [renewS, hr, this]
      rw [R]
      exact renewR_yes E H U t who epoch now w hr q1 q2 (by omega)

set_option maxHeartbeats 1000000 in
theorem leaveR_any (E H U who epoch : Int) (S : Bool) (w : World) :
    Calls Try.prog 21 #[.agg #[.int .i64 E, .int .i64 H, .int .i64 U, .bool S], .int .i64 who, .int .i64 epoch] w (RetLeave (leaveS ⟨E, H, U, S⟩ who epoch) w) := by
  cases S
  · have R : leaveS ⟨E, H, U, false⟩ who epoch = (⟨E, H, U, false⟩, 21) := by simp [leaveS, mineB]
    rw [R]
    clear R
    go_enter Try.func21, Try.ntmps21
    go_wp2
    refine bodyPost_ret (v := .tuple #[.agg #[.int .i64 E, .int .i64 H, .int .i64 U, .bool false], .int .i64 21]) (by simp [results, Try.results21, go_sem]) rfl ⟨rfl, ?_⟩
    exact ((Below.refl _ _).alloc (Nat.le_refl _) _).alloc (by simp) _
  · cases h1 : (H == who)
    · have R : leaveS ⟨E, H, U, true⟩ who epoch = (⟨E, H, U, true⟩, 21) := by simp [leaveS, mineB, h1]
      have h1' : (H != who) = true := by simp [bne, h1]
      rw [R]
      clear R
      go_enter Try.func21, Try.ntmps21
      go_wp2
      refine bodyPost_ret (v := .tuple #[.agg #[.int .i64 E, .int .i64 H, .int .i64 U, .bool true], .int .i64 21]) (by simp [results, Try.results21, go_sem]) rfl ⟨rfl, ?_⟩
      exact ((Below.refl _ _).alloc (Nat.le_refl _) _).alloc (by simp) _
    · have h1' : (H != who) = false := by simp [bne, h1]
      cases h2 : (E == epoch)
      · have R : leaveS ⟨E, H, U, true⟩ who epoch = (⟨E, H, U, true⟩, 21) := by simp [leaveS, mineB, h1, h2]
        have h2' : (E != epoch) = true := by simp [bne, h2]
        rw [R]
        clear R
        go_enter Try.func21, Try.ntmps21
        go_wp2
        refine bodyPost_ret (v := .tuple #[.agg #[.int .i64 E, .int .i64 H, .int .i64 U, .bool true], .int .i64 21]) (by simp [results, Try.results21, go_sem]) rfl ⟨rfl, ?_⟩
        exact ((Below.refl _ _).alloc (Nat.le_refl _) _).alloc (by simp) _
      · have R : leaveS ⟨E, H, U, true⟩ who epoch = (⟨E, 0, 0, false⟩, 0) := by simp [leaveS, mineB, h1, h2]
        have h2' : (E != epoch) = false := by simp [bne, h2]
        rw [R]
        clear R
        go_enter Try.func21, Try.ntmps21
        go_wp2
        refine bodyPost_ret (v := .tuple #[.agg #[.int .i64 E, .int .i64 0, .int .i64 0, .bool false], .int .i64 0]) (by simp [results, Try.results21, go_sem]) rfl ⟨rfl, ?_⟩
        exact ((Below.refl _ _).alloc (Nat.le_refl _) _).alloc (by simp) _
end Go.Proofs.Ytnfmhejfecadcaa
