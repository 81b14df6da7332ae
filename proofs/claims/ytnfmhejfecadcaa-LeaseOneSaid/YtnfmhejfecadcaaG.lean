import Derived.Test.YtnfmhejfecadcaaE
namespace Go.Proofs.Ytnfmhejfecadcaa
open Go.RowKit

theorem mod4 (x : Int) : 0 ≤ wrap64 ((IntKind.u64.wrap x).tmod 4) ∧ wrap64 ((IntKind.u64.wrap x).tmod 4) ≤ 3 := by
  have h0 : 0 ≤ IntKind.u64.wrap x := by simp [IntKind.wrap, IntKind.signed, IntKind.bits]; omega
  rw [Int.tmod_eq_emod_of_nonneg h0]
  unfold wrap64
  omega
theorem mod8 (x N : Int) (h0 : 0 ≤ N) (h1 : N ≤ 100000) : N ≤ wrap64 (N + wrap64 ((IntKind.u64.wrap x).tmod 8)) ∧ wrap64 (N + wrap64 ((IntKind.u64.wrap x).tmod 8)) ≤ N + 7 := by
  have h0 : 0 ≤ IntKind.u64.wrap x := by simp [IntKind.wrap, IntKind.signed, IntKind.bits]; omega
  rw [Int.tmod_eq_emod_of_nonneg h0]
  unfold wrap64
  omega
theorem below_drewN' {B : Nat} {a w : World} (h : Below B a w) (n : Nat) : Below B a (w.drewN n) := ⟨h.os, h.tape, h.output, h.size, h.block⟩

structure OneInv (k : Nat) (T : Int) (s : LS) (N E H U : Int) : Prop where
  n0 : 0 ≤ N
  n1 : N ≤ 7 * k
  e0 : 0 ≤ E
  e1 : E ≤ k
  h0 : 0 ≤ H
  h1 : H ≤ 3
  u0 : 0 ≤ U
  u1 : U ≤ N + T
  sE : s.E = E
  yes : s.S = true → s.H = H ∧ s.U = U
  no : s.S = false → U = 0

def OneRel (w : World) (g : Nat) (T : Int) (n : Nat) (vn ve vh vu i : Value) (wr : World) : Prop :=
  ∃ (k : Nat) (s : LS) (N E H U : Int), k ≤ n ∧ i = .int .i64 k ∧ vn = .int .i64 N ∧ ve = .int .i64 E ∧ vh = .int .i64 H ∧ vu = .int .i64 U ∧
    OneInv k T s N E H U ∧ LeaseAt wr g s T ∧ Below w.heap.size w wr

set_option maxHeartbeats 16000000 in
set_option maxRecDepth 100000 in
theorem one_any (t : Int) (a : Option Addr) (n c : Nat) (x : Nat → AC) (w : World) (h1 : 0 ≤ t) (h2 : t ≤ 255) (hA : ActsAt w a n x) :
    Calls Try.prog 4 #[.int .u8 t, .slice a n c] w fun e w' => e = .returned (.bool true) ∧ Below w.heap.size w w' := by
  have HA := Lib.hid hA
  clear hA
  go_enter Try.func4, Try.ntmps4
  go_wp2_with fail
  refine (awake_any _).mono ?_
  rintro e w1 ⟨rfl, hB1⟩
  have HB1 := Lib.hid hB1
  clear hB1
  by_cases hn : n ≤ 100
  · go_wp2_with fail
    refine (new_ok (1 + t) _ (by omega) (by omega)).mono ?_
    rintro e w2 ⟨rfl, hL2, hB2⟩
    have HB2 := Lib.hid (HB1.out.trans (hB2.mono HB1.out.size))
    have HL2 := Lib.hid hL2
    have hgs := HB1.out.size
    clear hB2 hL2
    go_wp2_with fail
    go_loopw [7, 8, 9, 10, 45] (OneRel w w1.heap.size (1 + t) n) (fun _ _ _ _ i _ => n - (intOf i).toNat)
    case atStart => exact ⟨0, ⟨0, 0, 0, false⟩, 0, 0, 0, 0, by omega, rfl, rfl, rfl, rfl, rfl, ⟨by omega, by omega, by omega, by omega, by omega, by omega, by omega, by omega, rfl, by simp, by simp⟩, HL2.out, HB2.out⟩
    case round =>
      obtain ⟨k, s, N, E, H, U, hk, rfl, rfl, rfl, rfl, rfl, hI, hL, hB⟩ := hrel
      clear HL2 HB2
      by_cases hlt : k < n
      · obtain ⟨ad, rfl, a0, a1, a2, a3⟩ := (HA.out.below hB) k hlt
        generalize x k = y at a0 a1 a2 a3
        have hAc := ActAt.new wr y
        have hL1 := hL.alloc (.cells #[.int .i64 y.K, .int .i64 y.W, .int .i64 y.E, .int .i64 y.N] 33)
        have hB1 := hB.alloc hB.size (.cells #[.int .i64 y.K, .int .i64 y.W, .int .i64 y.E, .int .i64 y.N] 33)
        obtain ⟨xK, xW, xE, xN⟩ := y
        simp only at a0 a1 a2 a3 hAc hL1 hB1
        have hgl := hL.lt
        have H0 := hI.n0
        have H1 := hI.n1
        by_cases k1 : xK = 1
        · subst k1
          go_wp2_with fail
          have hV := mod4 xW
          have hM := mod8 xN N (by omega) (by omega)
          generalize wrap64 ((IntKind.u64.wrap xW).tmod 4) = V at hV ⊢
          generalize wrap64 (N + wrap64 ((IntKind.u64.wrap xN).tmod 8)) = M at hM ⊢
          obtain ⟨V0, V1⟩ := hV
          obtain ⟨M0, M1⟩ := hM
          have hr : rightB V M = true := by simp [rightB]; omega
          have Hr := Lib.hid hr
          clear hr
          have i1 := hI.e0
          have i2 := hI.e1
          have i3 := hI.h0
          have i4 := hI.h1
          have i5 := hI.u0
          have i6 := hI.u1
          by_cases hlu0 : M < U
          · have hS : s.S = true := by
              cases hx : s.S
              · have := hI.no hx; omega
              · rfl
            have hR : askS s (1 + t) V M = (s, 0, 0, 22) := by
              obtain ⟨_, hsU⟩ := hI.yes hS
              simp [askS, Hr.out, heldB, hS, hsU, hlu0]
            have hc := ask_any w1.heap.size s (1 + t) V M _ hL1
            rw [hR] at hc
            have HC := Lib.hid hc
            clear hc hR
            refine HC.out.mono ?_
            rintro e w4 ⟨rfl, hL3, hT3⟩
            have hAc3 : ActAt w4 wr.heap.size ⟨1, xW, xE, xN⟩ := hT3.blk hAc (by omega)
            have hB3 : Below w.heap.size w w4 := hB1.trans (hT3.below hgs hB1.size)
            obtain ⟨s', hs'⟩ : ∃ s' : LS, s' = s := ⟨_, rfl⟩
            rw [← hs'] at hL3
            have hI3 : OneInv (k + 1) (1 + t) s' M E H U := by
              subst hs'
              exact ⟨by omega, by omega, by omega, by omega, by omega, by omega, by omega, by omega, hI.sE, hI.yes, hI.no⟩
            clear hS hs' hT3 hAc hL1 hB1 hI HC Hr a0 a1 a2 a3 hL hB
            obtain ⟨⟨b0, b1, b2, b3⟩, bf⟩ := hAc3.cell
            simp only at b0 b1 b2 b3
            clear hAc3
            have HL3' := Lib.hid hL3
            have HB3' := Lib.hid hB3
            have HI3' := Lib.hid hI3
            clear hL3 hB3 hI3
            go_wp2_with fail
            have hL3 := HL3'.out
            have hB3 := HB3'.out
            have hI3 := HI3'.out
            clear HL3' HB3' HI3'
            have hlu : M < U := by omega
            have hS : s'.S = true := by
              cases hx : s'.S
              · have := hI3.no hx; have := hI3.n0; omega
              · rfl
            obtain ⟨hsH, hsU⟩ := hI3.yes hS
            have hh : holderS s' M = (H, E, 0) := by simp [holderS, heldB, hS, hsH, hsU, hI3.sE, hlu]
            have hH := holder_any w1.heap.size s' (1 + t) M _ hL3
            rw [hh] at hH
            have HH := Lib.hid hH
            clear hH hh hsH hsU hS
            have HI3 := Lib.hid hI3
            have HL3 := Lib.hid hL3
            have HB3 := Lib.hid hB3
            clear hI3 hL3 hB3
            refine HH.out.mono ?_
            rintro e w5 ⟨rfl, nq, rfl⟩
            go_wp2
            exact ⟨⟨k + 1, s', M, E, H, U, by omega, by go_num, rfl, rfl, rfl, rfl, HI3.out, HL3.out.drewN _, below_drewN' HB3.out _⟩, by simp [intOf]; omega⟩
          · have hnl : U ≤ M := by omega
            have hR : askS s (1 + t) V M = (⟨E + 1, V, M + (1 + t), true⟩, E + 1, M + (1 + t), 0) := by
              have hf : heldB s M = false := by
                cases hx : s.S
                · simp [heldB, hx]
                · obtain ⟨_, hsU⟩ := hI.yes hx; simp [heldB, hsU]; omega
              have e1 : wrap64 (s.E + 1) = E + 1 := by rw [hI.sE]; unfold wrap64; omega
              have e2 : wrap64 (M + (1 + t)) = M + (1 + t) := by unfold wrap64; omega
              simp [askS, Hr.out, hf, e1, e2]
            clear hlu0
            have hc := ask_any w1.heap.size s (1 + t) V M _ hL1
            rw [hR] at hc
            have HC := Lib.hid hc
            clear hc hR
            refine HC.out.mono ?_
            rintro e w4 ⟨rfl, hL3, hT3⟩
            have hAc3 : ActAt w4 wr.heap.size ⟨1, xW, xE, xN⟩ := hT3.blk hAc (by omega)
            have hB3 : Below w.heap.size w w4 := hB1.trans (hT3.below hgs hB1.size)
            obtain ⟨s', hs'⟩ : ∃ s' : LS, s' = ⟨E + 1, V, M + (1 + t), true⟩ := ⟨_, rfl⟩
            rw [← hs'] at hL3
            have hI3 : OneInv (k + 1) (1 + t) s' M (E + 1) V (M + (1 + t)) := by
              subst hs'
              exact ⟨by omega, by omega, by omega, by omega, by omega, by omega, by omega, by omega, rfl, fun _ => ⟨rfl, rfl⟩, fun h => by simp at h⟩
            clear hs' hT3 hAc hL1 hB1 hI HC Hr a0 a1 a2 a3 hL hB
            obtain ⟨⟨b0, b1, b2, b3⟩, bf⟩ := hAc3.cell
            simp only at b0 b1 b2 b3
            clear hAc3
            have HL3' := Lib.hid hL3
            have HB3' := Lib.hid hB3
            have HI3' := Lib.hid hI3
            clear hL3 hB3 hI3
            go_wp2_with fail
            have hL3 := HL3'.out
            have hB3 := HB3'.out
            have hI3 := HI3'.out
            clear HL3' HB3' HI3'
            have hlu : M < (M + (1 + t)) := by omega
            have hS : s'.S = true := by
              cases hx : s'.S
              · have := hI3.no hx; have := hI3.n0; omega
              · rfl
            obtain ⟨hsH, hsU⟩ := hI3.yes hS
            have hh : holderS s' M = (V, (E + 1), 0) := by simp [holderS, heldB, hS, hsH, hsU, hI3.sE, hlu]
            have hH := holder_any w1.heap.size s' (1 + t) M _ hL3
            rw [hh] at hH
            have HH := Lib.hid hH
            clear hH hh hsH hsU hS
            have HI3 := Lib.hid hI3
            have HL3 := Lib.hid hL3
            have HB3 := Lib.hid hB3
            clear hI3 hL3 hB3
            refine HH.out.mono ?_
            rintro e w5 ⟨rfl, nq, rfl⟩
            go_wp2
            exact ⟨⟨k + 1, s', M, (E + 1), V, (M + (1 + t)), by omega, by go_num, rfl, rfl, rfl, rfl, HI3.out, HL3.out.drewN _, below_drewN' HB3.out _⟩, by simp [intOf]; omega⟩
        · by_cases k2 : xK = 2
          · subst k2
            go_wp2_with fail
            have hV := mod4 xW
            have hM := mod8 xN N (by omega) (by omega)
            generalize wrap64 ((IntKind.u64.wrap xW).tmod 4) = V at hV ⊢
            generalize wrap64 (N + wrap64 ((IntKind.u64.wrap xN).tmod 8)) = M at hM ⊢
            obtain ⟨V0, V1⟩ := hV
            obtain ⟨M0, M1⟩ := hM
            have hr : rightB V M = true := by simp [rightB]; omega
            have Hr := Lib.hid hr
            clear hr
            have i1 := hI.e0
            have i2 := hI.e1
            have i3 := hI.h0
            have i4 := hI.h1
            have i5 := hI.u0
            have i6 := hI.u1
            by_cases hvh : V = H ∧ M < U
            · obtain ⟨rfl, hlu0⟩ := hvh
              have hS : s.S = true := by
                cases hx : s.S
                · have := hI.no hx; omega
                · rfl
              have hR : renewS s (1 + t) V E M = (⟨E, V, M + (1 + t), true⟩, M + (1 + t), 0) := by
                obtain ⟨hsH, hsU⟩ := hI.yes hS
                have e2 : wrap64 (M + (1 + t)) = M + (1 + t) := by unfold wrap64; omega
                have e3 : max U (M + (1 + t)) = M + (1 + t) := by omega
                simp [renewS, Hr.out, mineB, heldB, hS, hsH, hsU, hI.sE, hlu0, e2, e3]
              have hq1 : ¬ M + (1 + t) < U := by omega
              have hc := renew_any w1.heap.size s (1 + t) V E M _ hL1
              rw [hR] at hc
              have HC := Lib.hid hc
              clear hc hR
              refine HC.out.mono ?_
              rintro e w4 ⟨rfl, hL3, hT3⟩
              have hAc3 : ActAt w4 wr.heap.size ⟨2, xW, xE, xN⟩ := hT3.blk hAc (by omega)
              have hB3 : Below w.heap.size w w4 := hB1.trans (hT3.below hgs hB1.size)
              obtain ⟨s', hs'⟩ : ∃ s' : LS, s' = ⟨E, V, M + (1 + t), true⟩ := ⟨_, rfl⟩
              rw [← hs'] at hL3
              have hI3 : OneInv (k + 1) (1 + t) s' M E V (M + (1 + t)) := by
                subst hs'
                exact ⟨by omega, by omega, by omega, by omega, by omega, by omega, by omega, by omega, rfl, fun _ => ⟨rfl, rfl⟩, fun h => by simp at h⟩
              clear hS hs' hT3 hAc hL1 hB1 hI HC Hr a0 a1 a2 a3 hL hB
              obtain ⟨⟨b0, b1, b2, b3⟩, bf⟩ := hAc3.cell
              simp only at b0 b1 b2 b3
              clear hAc3
              have HL3' := Lib.hid hL3
              have HB3' := Lib.hid hB3
              have HI3' := Lib.hid hI3
              clear hL3 hB3 hI3
              go_wp2_with fail
              have hL3 := HL3'.out
              have hB3 := HB3'.out
              have hI3 := HI3'.out
              clear HL3' HB3' HI3'
              have hlu : M < (M + (1 + t)) := by omega
              have hS : s'.S = true := by
                cases hx : s'.S
                · have := hI3.no hx; have := hI3.n0; omega
                · rfl
              obtain ⟨hsH, hsU⟩ := hI3.yes hS
              have hh : holderS s' M = (V, E, 0) := by simp [holderS, heldB, hS, hsH, hsU, hI3.sE, hlu]
              have hH := holder_any w1.heap.size s' (1 + t) M _ hL3
              rw [hh] at hH
              have HH := Lib.hid hH
              clear hH hh hsH hsU hS
              have HI3 := Lib.hid hI3
              have HL3 := Lib.hid hL3
              have HB3 := Lib.hid hB3
              clear hI3 hL3 hB3
              refine HH.out.mono ?_
              rintro e w5 ⟨rfl, nq, rfl⟩
              go_wp2
              exact ⟨⟨k + 1, s', M, E, V, (M + (1 + t)), by omega, by go_num, rfl, rfl, rfl, rfl, HI3.out, HL3.out.drewN _, below_drewN' HB3.out _⟩, by simp [intOf]; omega⟩
            · by_cases hvq : V = H
              · have hd : (V == H) = true := by simpa using hvq
                have hnl : U ≤ M := by omega
                have hR : renewS s (1 + t) V E M = (s, 0, 21) := by
                  have hf : (mineB s V E && heldB s M) = false := by
                    cases hx : s.S
                    · simp [mineB, hx]
                    · obtain ⟨hsH, hsU⟩ := hI.yes hx
                      simp [mineB, heldB, hx, hsH, hsU]
                      omega
                  simp [renewS, Hr.out, hf]
                clear hvh hvq
                have hc := renew_any w1.heap.size s (1 + t) V E M _ hL1
                rw [hR] at hc
                have HC := Lib.hid hc
                clear hc hR
                refine HC.out.mono ?_
                rintro e w4 ⟨rfl, hL3, hT3⟩
                have hAc3 : ActAt w4 wr.heap.size ⟨2, xW, xE, xN⟩ := hT3.blk hAc (by omega)
                have hB3 : Below w.heap.size w w4 := hB1.trans (hT3.below hgs hB1.size)
                obtain ⟨s', hs'⟩ : ∃ s' : LS, s' = s := ⟨_, rfl⟩
                rw [← hs'] at hL3
                have hI3 : OneInv (k + 1) (1 + t) s' M E H U := by
                  subst hs'
                  exact ⟨by omega, by omega, by omega, by omega, by omega, by omega, by omega, by omega, hI.sE, hI.yes, hI.no⟩
                clear hs' hT3 hAc hL1 hB1 hI HC Hr a0 a1 a2 a3 hL hB
                obtain ⟨⟨b0, b1, b2, b3⟩, bf⟩ := hAc3.cell
                simp only at b0 b1 b2 b3
                clear hAc3
                have HL3' := Lib.hid hL3
                have HB3' := Lib.hid hB3
                have HI3' := Lib.hid hI3
                clear hL3 hB3 hI3
                go_wp2_with fail
                have hL3 := HL3'.out
                have hB3 := HB3'.out
                have hI3 := HI3'.out
                clear HL3' HB3' HI3'
                by_cases hlu : M < U
                · have hS : s'.S = true := by
                    cases hx : s'.S
                    · have := hI3.no hx; have := hI3.n0; omega
                    · rfl
                  obtain ⟨hsH, hsU⟩ := hI3.yes hS
                  have hh : holderS s' M = (H, E, 0) := by simp [holderS, heldB, hS, hsH, hsU, hI3.sE, hlu]
                  have hH := holder_any w1.heap.size s' (1 + t) M _ hL3
                  rw [hh] at hH
                  have HH := Lib.hid hH
                  clear hH hh hsH hsU hS
                  have HI3 := Lib.hid hI3
                  have HL3 := Lib.hid hL3
                  have HB3 := Lib.hid hB3
                  clear hI3 hL3 hB3
                  refine HH.out.mono ?_
                  rintro e w5 ⟨rfl, nq, rfl⟩
                  go_wp2
                  exact ⟨⟨k + 1, s', M, E, H, U, by omega, by go_num, rfl, rfl, rfl, rfl, HI3.out, HL3.out.drewN _, below_drewN' HB3.out _⟩, by simp [intOf]; omega⟩
                · have hh : holderS s' M = (0, 0, 5) := by
                    have : heldB s' M = false := by
                      cases hx : s'.S
                      · simp [heldB, hx]
                      · obtain ⟨_, hsU⟩ := hI3.yes hx; simp [heldB, hsU]; omega
                    simp [holderS, this]
                  have hH := holder_any w1.heap.size s' (1 + t) M _ hL3
                  rw [hh] at hH
                  have HH := Lib.hid hH
                  clear hH hh
                  have HI3 := Lib.hid hI3
                  have HL3 := Lib.hid hL3
                  have HB3 := Lib.hid hB3
                  clear hI3 hL3 hB3
                  refine HH.out.mono ?_
                  rintro e w5 ⟨rfl, nq, rfl⟩
                  go_wp2
                  exact ⟨⟨k + 1, s', M, E, H, U, by omega, by go_num, rfl, rfl, rfl, rfl, HI3.out, HL3.out.drewN _, below_drewN' HB3.out _⟩, by simp [intOf]; omega⟩
              · have hd : (V == H) = false := by simpa using hvq
                have hR : renewS s (1 + t) V E M = (s, 0, 21) := by
                  have hf : (mineB s V E && heldB s M) = false := by
                    cases hx : s.S
                    · simp [mineB, hx]
                    · obtain ⟨hsH, hsU⟩ := hI.yes hx
                      simp [mineB, heldB, hx, hsH, hsU]
                      omega
                  simp [renewS, Hr.out, hf]
                clear hvh hvq
                have hc := renew_any w1.heap.size s (1 + t) V E M _ hL1
                rw [hR] at hc
                have HC := Lib.hid hc
                clear hc hR
                refine HC.out.mono ?_
                rintro e w4 ⟨rfl, hL3, hT3⟩
                have hAc3 : ActAt w4 wr.heap.size ⟨2, xW, xE, xN⟩ := hT3.blk hAc (by omega)
                have hB3 : Below w.heap.size w w4 := hB1.trans (hT3.below hgs hB1.size)
                obtain ⟨s', hs'⟩ : ∃ s' : LS, s' = s := ⟨_, rfl⟩
                rw [← hs'] at hL3
                have hI3 : OneInv (k + 1) (1 + t) s' M E H U := by
                  subst hs'
                  exact ⟨by omega, by omega, by omega, by omega, by omega, by omega, by omega, by omega, hI.sE, hI.yes, hI.no⟩
                clear hs' hT3 hAc hL1 hB1 hI HC Hr a0 a1 a2 a3 hL hB
                obtain ⟨⟨b0, b1, b2, b3⟩, bf⟩ := hAc3.cell
                simp only at b0 b1 b2 b3
                clear hAc3
                have HL3' := Lib.hid hL3
                have HB3' := Lib.hid hB3
                have HI3' := Lib.hid hI3
                clear hL3 hB3 hI3
                go_wp2_with fail
                have hL3 := HL3'.out
                have hB3 := HB3'.out
                have hI3 := HI3'.out
                clear HL3' HB3' HI3'
                by_cases hlu : M < U
                · have hS : s'.S = true := by
                    cases hx : s'.S
                    · have := hI3.no hx; have := hI3.n0; omega
                    · rfl
                  obtain ⟨hsH, hsU⟩ := hI3.yes hS
                  have hh : holderS s' M = (H, E, 0) := by simp [holderS, heldB, hS, hsH, hsU, hI3.sE, hlu]
                  have hH := holder_any w1.heap.size s' (1 + t) M _ hL3
                  rw [hh] at hH
                  have HH := Lib.hid hH
                  clear hH hh hsH hsU hS
                  have HI3 := Lib.hid hI3
                  have HL3 := Lib.hid hL3
                  have HB3 := Lib.hid hB3
                  clear hI3 hL3 hB3
                  refine HH.out.mono ?_
                  rintro e w5 ⟨rfl, nq, rfl⟩
                  go_wp2
                  exact ⟨⟨k + 1, s', M, E, H, U, by omega, by go_num, rfl, rfl, rfl, rfl, HI3.out, HL3.out.drewN _, below_drewN' HB3.out _⟩, by simp [intOf]; omega⟩
                · have hh : holderS s' M = (0, 0, 5) := by
                    have : heldB s' M = false := by
                      cases hx : s'.S
                      · simp [heldB, hx]
                      · obtain ⟨_, hsU⟩ := hI3.yes hx; simp [heldB, hsU]; omega
                    simp [holderS, this]
                  have hH := holder_any w1.heap.size s' (1 + t) M _ hL3
                  rw [hh] at hH
                  have HH := Lib.hid hH
                  clear hH hh
                  have HI3 := Lib.hid hI3
                  have HL3 := Lib.hid hL3
                  have HB3 := Lib.hid hB3
                  clear hI3 hL3 hB3
                  refine HH.out.mono ?_
                  rintro e w5 ⟨rfl, nq, rfl⟩
                  go_wp2
                  exact ⟨⟨k + 1, s', M, E, H, U, by omega, by go_num, rfl, rfl, rfl, rfl, HI3.out, HL3.out.drewN _, below_drewN' HB3.out _⟩, by simp [intOf]; omega⟩
          · by_cases k3 : xK = 3
            · subst k3
              go_wp2_with fail
              have hV := mod4 xW
              have hM := mod8 xN N (by omega) (by omega)
              generalize wrap64 ((IntKind.u64.wrap xW).tmod 4) = V at hV ⊢
              generalize wrap64 (N + wrap64 ((IntKind.u64.wrap xN).tmod 8)) = M at hM ⊢
              obtain ⟨V0, V1⟩ := hV
              obtain ⟨M0, M1⟩ := hM
              have hr : rightB V M = true := by simp [rightB]; omega
              have Hr := Lib.hid hr
              clear hr
              have i1 := hI.e0
              have i2 := hI.e1
              have i3 := hI.h0
              have i4 := hI.h1
              have i5 := hI.u0
              have i6 := hI.u1
              cases hm : mineB s V E
              · have hR : leaveS s V E = (s, 21) := by simp [leaveS, hm]
                clear hm
                have hc := leave_any w1.heap.size s (1 + t) V E _ hL1
                rw [hR] at hc
                have HC := Lib.hid hc
                clear hc hR
                refine HC.out.mono ?_
                rintro e w4 ⟨rfl, hL3, hT3⟩
                have hAc3 : ActAt w4 wr.heap.size ⟨3, xW, xE, xN⟩ := hT3.blk hAc (by omega)
                have hB3 : Below w.heap.size w w4 := hB1.trans (hT3.below hgs hB1.size)
                obtain ⟨s', hs'⟩ : ∃ s' : LS, s' = s := ⟨_, rfl⟩
                rw [← hs'] at hL3
                have hI3 : OneInv (k + 1) (1 + t) s' M E H U := by
                  subst hs'
                  exact ⟨by omega, by omega, by omega, by omega, by omega, by omega, by omega, by omega, hI.sE, hI.yes, hI.no⟩
                clear hs' hT3 hAc hL1 hB1 hI HC Hr a0 a1 a2 a3 hL hB
                obtain ⟨⟨b0, b1, b2, b3⟩, bf⟩ := hAc3.cell
                simp only at b0 b1 b2 b3
                clear hAc3
                have HL3' := Lib.hid hL3
                have HB3' := Lib.hid hB3
                have HI3' := Lib.hid hI3
                clear hL3 hB3 hI3
                go_wp2_with fail
                have hL3 := HL3'.out
                have hB3 := HB3'.out
                have hI3 := HI3'.out
                clear HL3' HB3' HI3'
                by_cases hlu : M < U
                · have hS : s'.S = true := by
                    cases hx : s'.S
                    · have := hI3.no hx; have := hI3.n0; omega
                    · rfl
                  obtain ⟨hsH, hsU⟩ := hI3.yes hS
                  have hh : holderS s' M = (H, E, 0) := by simp [holderS, heldB, hS, hsH, hsU, hI3.sE, hlu]
                  have hH := holder_any w1.heap.size s' (1 + t) M _ hL3
                  rw [hh] at hH
                  have HH := Lib.hid hH
                  clear hH hh hsH hsU hS
                  have HI3 := Lib.hid hI3
                  have HL3 := Lib.hid hL3
                  have HB3 := Lib.hid hB3
                  clear hI3 hL3 hB3
                  refine HH.out.mono ?_
                  rintro e w5 ⟨rfl, nq, rfl⟩
                  go_wp2
                  exact ⟨⟨k + 1, s', M, E, H, U, by omega, by go_num, rfl, rfl, rfl, rfl, HI3.out, HL3.out.drewN _, below_drewN' HB3.out _⟩, by simp [intOf]; omega⟩
                · have hh : holderS s' M = (0, 0, 5) := by
                    have : heldB s' M = false := by
                      cases hx : s'.S
                      · simp [heldB, hx]
                      · obtain ⟨_, hsU⟩ := hI3.yes hx; simp [heldB, hsU]; omega
                    simp [holderS, this]
                  have hH := holder_any w1.heap.size s' (1 + t) M _ hL3
                  rw [hh] at hH
                  have HH := Lib.hid hH
                  clear hH hh
                  have HI3 := Lib.hid hI3
                  have HL3 := Lib.hid hL3
                  have HB3 := Lib.hid hB3
                  clear hI3 hL3 hB3
                  refine HH.out.mono ?_
                  rintro e w5 ⟨rfl, nq, rfl⟩
                  go_wp2
                  exact ⟨⟨k + 1, s', M, E, H, U, by omega, by go_num, rfl, rfl, rfl, rfl, HI3.out, HL3.out.drewN _, below_drewN' HB3.out _⟩, by simp [intOf]; omega⟩
              · have hR : leaveS s V E = (⟨E, 0, 0, false⟩, 0) := by simp [leaveS, hm, hI.sE]
                obtain rfl : V = H := by
                  simp only [mineB, Bool.and_eq_true, beq_iff_eq] at hm
                  have := (hI.yes hm.1.1).1
                  rw [← this, hm.1.2]
                clear hm
                have hc := leave_any w1.heap.size s (1 + t) V E _ hL1
                rw [hR] at hc
                have HC := Lib.hid hc
                clear hc hR
                refine HC.out.mono ?_
                rintro e w4 ⟨rfl, hL3, hT3⟩
                have hAc3 : ActAt w4 wr.heap.size ⟨3, xW, xE, xN⟩ := hT3.blk hAc (by omega)
                have hB3 : Below w.heap.size w w4 := hB1.trans (hT3.below hgs hB1.size)
                obtain ⟨s', hs'⟩ : ∃ s' : LS, s' = ⟨E, 0, 0, false⟩ := ⟨_, rfl⟩
                rw [← hs'] at hL3
                have hI3 : OneInv (k + 1) (1 + t) s' M E V 0 := by
                  subst hs'
                  exact ⟨by omega, by omega, by omega, by omega, by omega, by omega, by omega, by omega, rfl, fun h => by simp at h, fun _ => rfl⟩
                clear hs' hT3 hAc hL1 hB1 hI HC Hr a0 a1 a2 a3 hL hB
                obtain ⟨⟨b0, b1, b2, b3⟩, bf⟩ := hAc3.cell
                simp only at b0 b1 b2 b3
                clear hAc3
                have HL3' := Lib.hid hL3
                have HB3' := Lib.hid hB3
                have HI3' := Lib.hid hI3
                clear hL3 hB3 hI3
                go_wp2_with fail
                have hL3 := HL3'.out
                have hB3 := HB3'.out
                have hI3 := HI3'.out
                clear HL3' HB3' HI3'
                have hlu : 0 ≤ M := by omega
                have hh : holderS s' M = (0, 0, 5) := by
                  have : heldB s' M = false := by
                    cases hx : s'.S
                    · simp [heldB, hx]
                    · obtain ⟨_, hsU⟩ := hI3.yes hx; simp [heldB, hsU]; omega
                  simp [holderS, this]
                have hH := holder_any w1.heap.size s' (1 + t) M _ hL3
                rw [hh] at hH
                have HH := Lib.hid hH
                clear hH hh
                have HI3 := Lib.hid hI3
                have HL3 := Lib.hid hL3
                have HB3 := Lib.hid hB3
                clear hI3 hL3 hB3
                refine HH.out.mono ?_
                rintro e w5 ⟨rfl, nq, rfl⟩
                go_wp2
                exact ⟨⟨k + 1, s', M, E, V, 0, by omega, by go_num, rfl, rfl, rfl, rfl, HI3.out, HL3.out.drewN _, below_drewN' HB3.out _⟩, by simp [intOf]; omega⟩
            ·
              have q1 : (xK == 1) = false := by simpa using k1
              have q2 : (xK == 2) = false := by simpa using k2
              have q3 : (xK == 3) = false := by simpa using k3
              clear k1 k2 k3
              go_wp2_with fail
              have hV := mod4 xW
              have hM := mod8 xN N (by omega) (by omega)
              generalize wrap64 ((IntKind.u64.wrap xW).tmod 4) = V at hV ⊢
              generalize wrap64 (N + wrap64 ((IntKind.u64.wrap xN).tmod 8)) = M at hM ⊢
              obtain ⟨V0, V1⟩ := hV
              obtain ⟨M0, M1⟩ := hM
              have hr : rightB V M = true := by simp [rightB]; omega
              have Hr := Lib.hid hr
              clear hr
              have i1 := hI.e0
              have i2 := hI.e1
              have i3 := hI.h0
              have i4 := hI.h1
              have i5 := hI.u0
              have i6 := hI.u1
              obtain ⟨s', rfl⟩ : ∃ s' : LS, s' = s := ⟨s, rfl⟩
              have hL3 := hL1
              have hB3 := hB1
              have hI3 : OneInv (k + 1) (1 + t) s' M E H U := ⟨by omega, by omega, by omega, by omega, by omega, by omega, by omega, by omega, hI.sE, hI.yes, hI.no⟩
              clear hAc hL1 hB1 hI Hr a0 a1 a2 a3 hL hB
              by_cases hlu : M < U
              · have hS : s'.S = true := by
                  cases hx : s'.S
                  · have := hI3.no hx; have := hI3.n0; omega
                  · rfl
                obtain ⟨hsH, hsU⟩ := hI3.yes hS
                have hh : holderS s' M = (H, E, 0) := by simp [holderS, heldB, hS, hsH, hsU, hI3.sE, hlu]
                have hH := holder_any w1.heap.size s' (1 + t) M _ hL3
                rw [hh] at hH
                have HH := Lib.hid hH
                clear hH hh hsH hsU hS
                have HI3 := Lib.hid hI3
                have HL3 := Lib.hid hL3
                have HB3 := Lib.hid hB3
                clear hI3 hL3 hB3
                refine HH.out.mono ?_
                rintro e w5 ⟨rfl, nq, rfl⟩
                go_wp2
                exact ⟨⟨k + 1, s', M, E, H, U, by omega, by go_num, rfl, rfl, rfl, rfl, HI3.out, HL3.out.drewN _, below_drewN' HB3.out _⟩, by simp [intOf]; omega⟩
              · have hh : holderS s' M = (0, 0, 5) := by
                  have : heldB s' M = false := by
                    cases hx : s'.S
                    · simp [heldB, hx]
                    · obtain ⟨_, hsU⟩ := hI3.yes hx; simp [heldB, hsU]; omega
                  simp [holderS, this]
                have hH := holder_any w1.heap.size s' (1 + t) M _ hL3
                rw [hh] at hH
                have HH := Lib.hid hH
                clear hH hh
                have HI3 := Lib.hid hI3
                have HL3 := Lib.hid hL3
                have HB3 := Lib.hid hB3
                clear hI3 hL3 hB3
                refine HH.out.mono ?_
                rintro e w5 ⟨rfl, nq, rfl⟩
                go_wp2
                exact ⟨⟨k + 1, s', M, E, H, U, by omega, by go_num, rfl, rfl, rfl, rfl, HI3.out, HL3.out.drewN _, below_drewN' HB3.out _⟩, by simp [intOf]; omega⟩
      · have hke : k = n := by omega
        subst hke
        clear hlt
        have sE := hI.sE
        go_wp2_with fail
        refine (state_any _ s (1 + t) _ hL).mono ?_
        rintro e w4 ⟨rfl, hB4⟩
        rw [sE]
        have HB4 := Lib.hid (hB.trans (hB4.mono hB.size))
        clear hB4 sE
        have hfl : ∀ wx, (Instr.field 42 (.agg #[.int .i64 E, .int .i64 s.H, .int .i64 s.U, .bool s.S]) 0).run Try.prog wx = .ok (.int .i64 E) wx := fun _ => by kernel_rfl
        go_wp2
        go_ret
        exact ⟨rfl, HB4.out⟩
  · go_wp2_with fail
    refine (awake_any _).mono ?_
    rintro e w2 ⟨rfl, hB2⟩
    go_wp2
    go_ret
    exact ⟨rfl, HB1.out.trans (hB2.mono HB1.out.size)⟩
end Go.Proofs.Ytnfmhejfecadcaa
