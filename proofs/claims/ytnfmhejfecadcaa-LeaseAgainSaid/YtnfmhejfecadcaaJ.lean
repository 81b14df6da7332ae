import Derived.Test.YtnfmhejfecadcaaI
import Derived.Deep.RegionWith
namespace Go.Proofs.Ytnfmhejfecadcaa
open Go.RowKit

structure GoodS (i : Nat) (s : LS) : Prop where
  e0 : 0 ≤ s.E
  e1 : s.E ≤ i
  h0 : 0 ≤ s.H
  h1 : s.H ≤ 100
  u0 : 0 ≤ s.U
  u1 : s.U ≤ 1099511628032
  yes : s.S = true → 0 < s.E
  no : s.S = false → s.H = 0 ∧ s.U = 0

theorem good_ask {i : Nat} {s : LS} (h : GoodS i s) (hi : i ≤ 100) (t who now : Int) (h1 : 1 ≤ t) (h2 : t ≤ 256) : GoodS (i + 1) (askS s t who now).1 := by
  unfold askS
  split
  · exact ⟨h.e0, by have := h.e1; simp only; omega, h.h0, h.h1, h.u0, h.u1, h.yes, h.no⟩
  · split
    · exact ⟨h.e0, by have := h.e1; simp only; omega, h.h0, h.h1, h.u0, h.u1, h.yes, h.no⟩
    · rename_i hr _
      have hr' : rightB who now = true := by simpa using hr
      simp [rightB] at hr'
      have e0 := h.e0
      have e1 := h.e1
      have w1 : wrap64 (s.E + 1) = s.E + 1 := by unfold wrap64; omega
      have w2 : wrap64 (now + t) = now + t := by unfold wrap64; omega
      exact ⟨by simp only [w1]; omega, by simp only [w1]; omega, by simp only; omega, by simp only; omega, by simp only [w2]; omega, by simp only [w2]; omega, fun _ => by simp only [w1]; omega, fun h => by simp at h⟩
theorem good_renew {i : Nat} {s : LS} (h : GoodS i s) (t who epoch now : Int) (h1 : 1 ≤ t) (h2 : t ≤ 256) : GoodS (i + 1) (renewS s t who epoch now).1 := by
  unfold renewS
  split
  · exact ⟨h.e0, by have := h.e1; simp only; omega, h.h0, h.h1, h.u0, h.u1, h.yes, h.no⟩
  · split
    · exact ⟨h.e0, by have := h.e1; simp only; omega, h.h0, h.h1, h.u0, h.u1, h.yes, h.no⟩
    · rename_i hr hm
      have hr' : rightB who now = true := by simpa using hr
      simp [rightB] at hr'
      have hS : s.S = true := by
        cases hx : s.S
        · simp [mineB, hx] at hm
        · rfl
      have w2 : wrap64 (now + t) = now + t := by unfold wrap64; omega
      have u0 := h.u0
      have u1 := h.u1
      exact ⟨h.e0, by have := h.e1; simp only; omega, h.h0, h.h1, by simp only [w2]; omega, by simp only [w2]; omega, h.yes, fun hx => by simp only at hx; rw [hS] at hx; cases hx⟩
theorem good_leave {i : Nat} {s : LS} (h : GoodS i s) (who epoch : Int) : GoodS (i + 1) (leaveS s who epoch).1 := by
  unfold leaveS
  split
  · exact ⟨h.e0, by have := h.e1; simp only; omega, h.h0, h.h1, h.u0, h.u1, h.yes, h.no⟩
  · exact ⟨h.e0, by have := h.e1; simp only; omega, by simp, by simp, by simp, by simp, fun hx => by simp at hx, fun _ => by simp⟩
theorem good_one {i : Nat} {s : LS} (h : GoodS i s) (hi : i ≤ 100) (t : Int) (x : AC) (h1 : 1 ≤ t) (h2 : t ≤ 256) : GoodS (i + 1) (oneS s t x).1 := by
  unfold oneS
  split
  · exact good_ask h hi t _ _ h1 h2
  · split
    · exact good_renew h t _ _ _ h1 h2
    · exact good_leave h _ _
theorem good_right {i : Nat} {s : LS} (h : GoodS i s) (hi : i ≤ 100) : RightL s.E s.H s.U s.S = true := by
  rw [rl_iff]
  have := h.e1
  have := h.u1
  exact ⟨h.e0, by omega, h.h0, h.h1, h.u0, by omega, h.yes, h.no⟩

def AgRel (w : World) (g : Nat) (T : Int) (m : Nat) (i : Value) (wr : World) : Prop :=
  ∃ (k : Nat) (s : LS), k ≤ m ∧ i = .int .i64 k ∧ GoodS k s ∧ LeaseAt wr g s T ∧ Below w.heap.size w wr

theorem size3 (wx : World) : (sizeOf 3).run Try.prog wx = .ok 1 wx := by kernel_rfl
theorem part3_0 (p q r : Int) (wx : World) : (part 3 #[.int .i64 p, .int .i64 q, .int .i64 r] 0).run Try.prog wx = .ok (.int .i64 p) wx := by kernel_rfl
theorem part3_1 (p q r : Int) (wx : World) : (part 3 #[.int .i64 p, .int .i64 q, .int .i64 r] 1).run Try.prog wx = .ok (.int .i64 q) wx := by kernel_rfl
theorem part3_2 (p q r : Int) (wx : World) : (part 3 #[.int .i64 p, .int .i64 q, .int .i64 r] 2).run Try.prog wx = .ok (.int .i64 r) wx := by kernel_rfl
theorem eqInt (a b : Int) (wx : World) : (Op.equalIn 9999 3 (.int .i64 a) (.int .i64 b)).run Try.prog wx = .ok (a == b) wx :=
  run_equalIn_int wx 9998 3 .i64 .i64 a b Try.underlying3
theorem eqArr (p q r p' q' r' : Int) (wx : World) :
    (Op.equalIn 10000 45 (.agg #[.int .i64 p, .int .i64 q, .int .i64 r]) (.agg #[.int .i64 p', .int .i64 q', .int .i64 r'])).run Try.prog wx = .ok (p == p' && q == q' && r == r') wx := by
  show (Op.equalIn (9999 + 1) 45 _ _).run Try.prog wx = _
  unfold Op.equalIn
  simp only [Sem.run_bind, run_underlying Try.underlying45, Result.andThen_ok, size3]
  simp only [Nat.mul_one, Std.Legacy.Range.forIn_eq_forIn_range', Std.Legacy.Range.size]
  simp [List.range', part3_0, part3_1, part3_2, eqInt]
  cases h1 : (p == p') <;> cases h2 : (q == q') <;> cases h3 : (r == r') <;> simp_all
theorem ActsAt.cut {w : World} {ad : Addr} {n m : Nat} {x : Nat → AC} (h : ActsAt w (some ad) n x) : ActsAt w (some (ad.add (m * 4))) (n - m) (fun i => x (m + i)) := by
  intro i hi
  obtain ⟨ad', e, q⟩ := h (m + i) (by omega)
  injection e with e
  subst e
  refine ⟨_, rfl, ?_⟩
  have : (ad.add (m * 4)).add (i * 4) = ad.add ((m + i) * 4) := by
    unfold Addr.add
    by_cases hm : m = 0 <;> by_cases hi : i = 0 <;> simp [hm, hi, Nat.add_mul]
    have e1 : ¬ m * 4 = 0 := by omega
    have e2 : ¬ i * 4 = 0 := by omega
    simp [e1, e2, Nat.add_assoc]
  rw [this]
  exact q

theorem cells4 {w : World} {g : Nat} {s : AC} (h : ActAt w g s) : w.cell? ⟨g, 0, none⟩ = some (.int .i64 s.K) ∧ w.cell? ⟨g, 1, none⟩ = some (.int .i64 s.W) ∧ w.cell? ⟨g, 2, none⟩ = some (.int .i64 s.E) ∧ w.cell? ⟨g, 3, none⟩ = some (.int .i64 s.N) := h.cell.1

def RetTwo (g g2 gx : Nat) (T : Int) (s : LS) (x : AC) (r : LS × Int × Int × Int) (w : World) (e : Ending) (w' : World) : Prop :=
  e = .returned (.agg #[.int .i64 r.2.1, .int .i64 r.2.2.1, .int .i64 r.2.2.2]) ∧ LeaseAt w' g r.1 T ∧ LeaseAt w' g2 s T ∧ ActAt w' gx x ∧ Touch g w w'
theorem act_two (g g2 gx : Nat) (s s0 : LS) (t : Int) (x : AC) (w : World) (hL : LeaseAt w g s t) (hM : LeaseAt w g2 s0 t) (hC : ActAt w gx x) (h1 : g2 ≠ g) (h2 : gx ≠ g) :
    Calls Try.prog 16 #[.pointer (some ⟨g, 0, none⟩), .agg #[.int .i64 x.K, .int .i64 x.W, .int .i64 x.E, .int .i64 x.N]] w (RetTwo g g2 gx t s0 x (oneS s t x) w) :=
  (act_any g s t x.K x.W x.E x.N w hL).mono fun _ _ ⟨h3, h4, h5⟩ => ⟨h3, h4, h5.blk hM h1, h5.blk hC h2, h5⟩

def AgRel2 (w : World) (g g2 : Nat) (T : Int) (m : Nat) (i : Value) (wr : World) : Prop :=
  ∃ (k : Nat) (s : LS), k ≤ m ∧ i = .int .i64 k ∧ LeaseAt wr g s T ∧ LeaseAt wr g2 s T ∧ Below w.heap.size w wr

set_option maxRecDepth 100000 in
set_option maxHeartbeats 16000000 in
theorem again_any (t : Int) (a : Option Addr) (n c : Nat) (x : Nat → AC) (p : Int) (w : World) (h1 : 0 ≤ t) (h2 : t ≤ 255) (p1 : 0 ≤ p) (p2 : p ≤ 255) (hA : ActsAt w a n x) (hnc : n ≤ c) (_hc : c ≤ maxLen) (hnil : a = none → c = 0) :
    Calls Try.prog 5 #[.int .u8 t, .slice a n c, .int .u8 p] w fun e w' => e = .returned (.bool true) ∧ Below w.heap.size w w' := by
  have HA := Lib.hid hA
  unfold maxLen at _hc
  clear hA
  go_enter Try.func5, Try.ntmps5
  go_wp2_with fail
  refine (new_ok (1 + t) _ (by omega) (by omega)).mono ?_
  rintro e w1 ⟨rfl, hL1, hB1⟩
  have HB1 := Lib.hid hB1
  have HL1 := Lib.hid hL1
  clear hB1 hL1
  go_wp2_with fail
  refine (awake_any _).mono ?_
  rintro e w2 ⟨rfl, hB2⟩
  have hL2 : LeaseAt w2 w.heap.size _ _ := below_blk hB2 HL1.out
  have hB2' := HB1.out.trans (hB2.mono HB1.out.size)
  have HL2 := Lib.hid hL2
  have HB2 := Lib.hid hB2'
  clear HB1 HL1 hL2 hB2' hB2
  by_cases hn : n ≤ 100
  · obtain ⟨m, hm⟩ : ∃ m : Nat, p % ((n : Int) + 1) = m := ⟨(p % ((n : Int) + 1)).toNat, by have := Int.emod_nonneg p (show ((n : Int) + 1) ≠ 0 by omega); omega⟩
    have hmn : m ≤ n := by have := Int.emod_lt_of_pos p (show 0 < ((n : Int) + 1) by omega); omega
    go_wp2_with fail
    rw [hm]
    clear hm
    go_loopw [52] (AgRel w w.heap.size (1 + t) m) (fun i _ => m - (intOf i).toNat)
    case atStart => exact ⟨0, ⟨0, 0, 0, false⟩, by omega, rfl, ⟨by simp, by simp, by simp, by simp, by simp, by simp, by simp, by simp⟩, HL2.out, HB2.out⟩
    case round =>
      obtain ⟨k, s, hk, rfl, hG, hL, hB⟩ := hrel
      clear HL2 HB2
      by_cases hlt : k < m
      · obtain ⟨ad, rfl, a0, a1, a2, a3⟩ := (HA.out.below hB) k (by omega)
        generalize x k = y at a0 a1 a2 a3
        have hL1 := hL.alloc (.cells #[.int .i64 y.K, .int .i64 y.W, .int .i64 y.E, .int .i64 y.N] 33)
        have hB1 := hB.alloc hB.size (.cells #[.int .i64 y.K, .int .i64 y.W, .int .i64 y.E, .int .i64 y.N] 33)
        have hG1 := good_one hG (by omega) (1 + t) y (by omega) (by omega)
        have hc1 := Lib.hid (act_any w.heap.size s (1 + t) y.K y.W y.E y.N _ hL1)
        obtain ⟨xK, xW, xE, xN⟩ := y
        simp only at a0 a1 a2 a3 hc1 hL1 hB1
        go_wp2_with fail
        refine hc1.out.mono ?_
        rintro e w4 ⟨rfl, hL4, hT4⟩
        have hL4' := Lib.hid hL4
        have hB4 := Lib.hid (hB1.trans (hT4.below (Nat.le_refl _) hB1.size))
        have hG4 := Lib.hid hG1
        clear hL4 hT4 hc1 hG hG1 hL1 hB1 hL hB a0 a1 a2 a3
        go_wp2
        exact ⟨⟨k + 1, _, by omega, by go_num, hG4.out, hL4'.out, hB4.out⟩, by simp [intOf]; omega⟩
      · have hke : k = m := by omega
        subst hke
        clear hlt
        have hB5 := Lib.hid hB
        have HG := Lib.hid hG
        have hlw := hB.size
        clear hB hG
        go_wp2_with fail
        refine (state_any _ s (1 + t) _ hL).mono ?_
        rintro e w4 ⟨rfl, hB4⟩
        have hL4 : LeaseAt w4 w.heap.size s (1 + t) := below_blk hB4 hL
        have hB6 := hB5.out.trans (hB4.mono hlw)
        have hlw4 := hB6.size
        have HB6 := Lib.hid hB6
        have HL4 := Lib.hid hL4
        clear hB4 hL hB6 hL4 hB5
        go_wp2_with fail
        refine (load_yes (1 + t) s.E s.H s.U s.S _ (by omega) (by omega) (good_right HG.out (by omega))).mono ?_
        rintro e w5 ⟨g2, hg2, rfl, hL5, hB5⟩
        have hLa5 : LeaseAt w5 w.heap.size s (1 + t) := below_blk hB5 HL4.out
        have hB7 := HB6.out.trans (hB5.mono hlw4)
        have HB7 := Lib.hid hB7
        have HLa := Lib.hid hLa5
        have HLb : Hid (LeaseAt w5 g2 s (1 + t)) := Lib.hid hL5
        have hgl2 : w.heap.size < w4.heap.size := HL4.out.lt
        have hgne : w.heap.size < g2 := by omega
        clear hB5 HB6 hLa5 hL5 hB7 HL4
        by_cases hck : c = k
        · have hcut : ActsAt w a (n - k) (fun i => x (k + i)) := fun i hi => by omega
          have hnk : n = k := by omega
          subst hck
          go_wp2_with fail
          go_loopw [78] (AgRel2 w w.heap.size g2 (1 + t) 0) (fun i _ => 0 - (intOf i).toNat)
          case atStart => exact ⟨0, s, by omega, rfl, HLa.out, HLb.out, HB7.out⟩
          case round =>
            obtain ⟨j, s2, hj, rfl, hLa, hLb, hB⟩ := hrel
            clear HLa HLb HB7 HG
            have hj0 : j = 0 := by omega
            subst hj0
            have hB8 := Lib.hid hB
            have hgw := hB.size
            have hLa8 := hLa
            have hLb8 := hLb
            clear hB hLa hLb
            go_wp2_with fail
            refine (state_any _ s2 (1 + t) _ hLa8).mono ?_
            rintro e w6 ⟨rfl, hB6⟩
            have hLb9 : LeaseAt w6 g2 s2 (1 + t) := below_blk hB6 hLb8
            have hB9 := Lib.hid (hB8.out.trans (hB6.mono hgw))
            clear hB6 hB8 hLa8 hLb8
            go_wp2_with fail
            refine (state_any _ s2 (1 + t) _ hLb9).mono ?_
            rintro e w7 ⟨rfl, hB7⟩
            have hB10 := Lib.hid (hB9.out.trans (hB7.mono hB9.out.size))
            clear hB7 hB9 hLb9
            go_wp2
            go_ret
            exact ⟨rfl, hB10.out⟩
        · rcases a with _ | ad
          · have := hnil rfl
            omega
          have hcut : ActsAt w (some (ad.add (k * 4))) (n - k) (fun i => x (k + i)) := HA.out.cut
          go_wp2_with fail
          go_loopw [78] (AgRel2 w w.heap.size g2 (1 + t) (n - k)) (fun i _ => (n - k) - (intOf i).toNat)
          case atStart => exact ⟨0, s, by omega, rfl, HLa.out, HLb.out, HB7.out⟩
          case round =>
            obtain ⟨j, s2, hj, rfl, hLa, hLb, hB⟩ := hrel
            clear HLa HLb HB7 HG
            by_cases hlt : j < n - k
            · obtain ⟨ad2, hA2, a0, a1, a2, a3⟩ := (hcut.below hB) j (by omega)
              injection hA2 with hA2
              subst hA2
              dsimp only at a0 a1 a2 a3
              generalize x (k + j) = y at a0 a1 a2 a3
              have hL1 := hLa.alloc (.cells #[.int .i64 y.K, .int .i64 y.W, .int .i64 y.E, .int .i64 y.N] 33)
              have hM1 := hLb.alloc (.cells #[.int .i64 y.K, .int .i64 y.W, .int .i64 y.E, .int .i64 y.N] 33)
              have hB1 := hB.alloc hB.size (.cells #[.int .i64 y.K, .int .i64 y.W, .int .i64 y.E, .int .i64 y.N] 33)
              have hC1 := ActAt.new wr y
              have hgw := hB.size
              have hgl := hLa.lt
              have hgl2 := hLb.lt
              obtain ⟨xK, xW, xE, xN⟩ := y
              simp only at a0 a1 a2 a3 hL1 hM1 hB1 hC1
              have HL1 := Lib.hid hL1
              have HM1 := Lib.hid hM1
              have HB1 := Lib.hid hB1
              have HC1 := Lib.hid hC1
              clear hL1 hM1 hB1 hC1 hLa hLb hB
              have HH := Lib.hid hcut
              clear hcut
              go_wp2_with fail
              have HLd : LeaseAt (World.drew (wr.alloc (.cells #[.int .i64 xK, .int .i64 xW, .int .i64 xE, .int .i64 xN] 33))) w.heap.size s2 (1 + t) := HL1.out
              have HMd : LeaseAt (World.drew (wr.alloc (.cells #[.int .i64 xK, .int .i64 xW, .int .i64 xE, .int .i64 xN] 33))) g2 s2 (1 + t) := HM1.out
              have HCd : ActAt (World.drew (wr.alloc (.cells #[.int .i64 xK, .int .i64 xW, .int .i64 xE, .int .i64 xN] 33))) wr.heap.size ⟨xK, xW, xE, xN⟩ := HC1.out
              have K0 := Lib.hid (cells4 HCd)
              have hn1 : g2 ≠ w.heap.size := by omega
              have hn2 : wr.heap.size ≠ w.heap.size := by omega
              have hn3 : w.heap.size ≠ g2 := by omega
              have hn4 : wr.heap.size ≠ g2 := by omega
              have K1 := Lib.hid (act_two w.heap.size g2 wr.heap.size s2 s2 (1 + t) ⟨xK, xW, xE, xN⟩ _ HLd HMd HCd hn1 hn2)
              clear HLd HMd HCd
              have hEq : ∀ (p q r : Int) (wx : World), (Op.equalIn 10000 45 (.agg #[.int .i64 p, .int .i64 q, .int .i64 r]) (.agg #[.int .i64 p, .int .i64 q, .int .i64 r])).run Try.prog wx = .ok true wx := fun p q r wx => by rw [eqArr]; simp
              go_region_held3 (fun w' => w'.cell? ⟨wr.heap.size, 0, none⟩ = some (.int .i64 xK) ∧ w'.cell? ⟨wr.heap.size, 1, none⟩ = some (.int .i64 xW) ∧ w'.cell? ⟨wr.heap.size, 2, none⟩ = some (.int .i64 xE) ∧ w'.cell? ⟨wr.heap.size, 3, none⟩ = some (.int .i64 xN))
                (first | exact K0.out | exact cells4 hC6 | exact cells4 hC7)
                (first
                  | (go_at_call 16; (with_reducible refine K1.out.mono ?_); rintro e w6 ⟨rfl, hL6, hM6, hC6, hT6⟩)
                  | (go_at_call 16; (with_reducible refine (act_two g2 w.heap.size wr.heap.size s2 _ (1 + t) ⟨xK, xW, xE, xN⟩ _ hM6 hL6 hC6 hn3 hn4).mono ?_); rintro e w7 ⟨rfl, hL7, hLa7, hC7, hT7⟩))
              generalize oneS s2 (1 + t) ⟨xK, xW, xE, xN⟩ = r at hL7 hLa7 ⊢
              obtain ⟨s', u, v, cd⟩ := r
              have hB7 := Lib.hid ((HB1.out.drew.trans (hT6.below (Nat.le_refl _) (by exact HB1.out.size))).trans (hT7.below (Nat.le_of_lt hgne) (Nat.le_trans HB1.out.size (by exact hT6.size))))
              have hLa7 : Hid (LeaseAt w7 w.heap.size s' (1 + t)) := hLa7
              have hLb7 : Hid (LeaseAt w7 g2 s' (1 + t)) := hL7
              clear hL6 hL7 hT6 hT7 hC6 hC7 hM6 HC1 HB1 HL1 HM1 K0 K1 hn1 hn2 hn3 hn4 a0 a1 a2 a3
              go_wp2_with fail
              exact ⟨⟨j + 1, s', by omega, by go_num, hLa7.out, hLb7.out, hB7.out⟩, by simp [intOf]; omega⟩
            · have hje : j = n - k := by omega
              subst hje
              clear hlt
              have hB8 := Lib.hid hB
              have hgw := hB.size
              have hLa8 := hLa
              have hLb8 := hLb
              clear hB hLa hLb
              go_wp2_with fail
              refine (state_any _ s2 (1 + t) _ hLa8).mono ?_
              rintro e w6 ⟨rfl, hB6⟩
              have hLb9 : LeaseAt w6 g2 s2 (1 + t) := below_blk hB6 hLb8
              have hB9 := Lib.hid (hB8.out.trans (hB6.mono hgw))
              clear hB6 hB8 hLa8 hLb8
              go_wp2_with fail
              refine (state_any _ s2 (1 + t) _ hLb9).mono ?_
              rintro e w7 ⟨rfl, hB7⟩
              have hB10 := Lib.hid (hB9.out.trans (hB7.mono hB9.out.size))
              clear hB7 hB9 hLb9
              go_wp2
              go_ret
              exact ⟨rfl, hB10.out⟩
  · go_wp2_with fail
    refine (awake_any _).mono ?_
    rintro e w3 ⟨rfl, hB3⟩
    have hB4 := Lib.hid (HB2.out.trans (hB3.mono HB2.out.size))
    clear hB3
    go_wp2
    go_ret
    exact ⟨rfl, hB4.out⟩
end Go.Proofs.Ytnfmhejfecadcaa
