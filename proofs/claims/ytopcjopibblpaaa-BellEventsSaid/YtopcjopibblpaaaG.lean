import Derived.Test.YtopcjopibblpaaaE
namespace Go.Proofs.Ytopcjopibblpaaa
open Go.RowKit

/-- sums that came in -/
def SumsAt (w : World) (a : Option Addr) (n : Nat) (z : Nat → Int) : Prop :=
  ∀ i, i < n → ∃ ad, a = some ad ∧ w.cell? (ad.add i) = some (.int .i64 (z i))
theorem SumsAt.below {w w' : World} {a : Option Addr} {n : Nat} {z : Nat → Int} (h : SumsAt w a n z) (hb : Below w.heap.size w w') : SumsAt w' a n z := by
  intro i hi
  obtain ⟨ad, e, q⟩ := h i hi
  exact ⟨ad, e, below_cell hb q⟩

def ArAt (w : World) (b : Nat) (x y : Int) : Prop := w.heap[b]? = some (.cells #[.int .i64 x, .int .i64 y] 38 (0, 0))
theorem ArAt.cell {w : World} {b : Nat} {x y : Int} (h : ArAt w b x y) :
    (w.cell? ⟨b, 0, none⟩ = some (.int .i64 x) ∧ w.cell? ⟨b, 1, none⟩ = some (.int .i64 y)) ∧ ∀ o, w.frozen? ⟨b, o, none⟩ = false := by
  unfold ArAt at h
  refine ⟨⟨?_, ?_⟩, ?_⟩
  all_goals first | (intro o; simp [World.frozen?, h]) | simp [World.cell?, h]

theorem hear_turn1 (a : AL) (ag s : Int) (hb : badB a s = true) (h : ¬ wrap64 (ag + 1) < a.R) : hearS a 1 ag s = (2, 0, true) := by
  have w : wrap64 2 = 2 := by unfold wrap64; omega
  simp [hearS, hb, rowI, h, w]
theorem hear_turn2 (a : AL) (ag s : Int) (hb : badB a s = false) (h : ¬ wrap64 (ag + 1) < a.F) : hearS a 2 ag s = (1, 0, true) := by
  have w : wrap64 1 = 1 := by unfold wrap64; omega
  simp [hearS, hb, rowI, h, w]

def LRel (w : World) (g : Nat) (a : AL) (n : Nat) (vs va i : Value) (wr : World) : Prop :=
  ∃ (k : Nat) (st ag : Int), k ≤ n ∧ i = .int .i64 k ∧ vs = .int .i64 st ∧ va = .int .i64 ag ∧ (st = 1 ∨ st = 2) ∧ 0 ≤ ag ∧ ag < 100 ∧ ag < rowI a st ∧ BellAt wr g a st ag ∧ AlAt 23 wr w.heap.size a ∧ Below w.heap.size w wr

set_option maxRecDepth 100000 in
set_option maxHeartbeats 16000000 in
theorem loads_any (L R F st ag : Int) (A : Bool) (a : Option Addr) (n c : Nat) (z : Nat → Int) (w : World) (hS : SumsAt w a n z) :
    Calls Try.prog 4 #[.agg #[.int .i64 L, .bool A, .int .i64 R, .int .i64 F], .agg #[.int .i64 st, .int .i64 ag], .slice a n c] w fun e w' => e = .returned (.bool true) ∧ Below w.heap.size w w' := by
  have HS := Lib.hid hS
  clear hS
  have hA := AlAt.new 23 w L R F A
  have hA0 : AlAt 23 ((w.alloc (.cells #[.int .i64 L, .bool A, .int .i64 R, .int .i64 F] 23)).alloc (.cells #[.int .i64 st, .int .i64 ag] 38)) w.heap.size ⟨L, A, R, F⟩ := below_blk ((Below.refl _ _).alloc (Nat.le_refl _) _) hA
  have hR0 : ArAt ((w.alloc (.cells #[.int .i64 L, .bool A, .int .i64 R, .int .i64 F] 23)).alloc (.cells #[.int .i64 st, .int .i64 ag] 38)) (w.heap.size + 1) st ag := by
    have := heap_alloc_new (w.alloc (.cells #[.int .i64 L, .bool A, .int .i64 R, .int .i64 F] 23)) (.cells #[.int .i64 st, .int .i64 ag] 38)
    rw [World.size_alloc] at this
    exact this
  have hB0 := ((Below.refl w.heap.size w).alloc (Nat.le_refl _) (.cells #[.int .i64 L, .bool A, .int .i64 R, .int .i64 F] 23)).alloc (by simp) (.cells #[.int .i64 st, .int .i64 ag] 38)
  have H0 : Hid (AlAt 23 _ w.heap.size ⟨L, A, R, F⟩ ∧ ArAt _ (w.heap.size + 1) st ag ∧ Below w.heap.size w _) := ⟨hA0, hR0, hB0⟩
  clear hA hA0 hR0 hB0
  go_enter Try.func4, Try.ntmps4
  go_wp2_with fail
  refine (awake_any _).mono ?_
  rintro e w1 ⟨rfl, hB1⟩
  have hA1 : AlAt 23 w1 w.heap.size ⟨L, A, R, F⟩ := below_blk hB1 H0.out.1
  have hR1 : ArAt w1 (w.heap.size + 1) st ag := below_blk hB1 H0.out.2.1
  have HB1 := Lib.hid (H0.out.2.2.trans (hB1.mono (by simp; omega)))
  have HA1 := Lib.hid hA1
  have HR1 := Lib.hid hR1
  obtain ⟨⟨d0, d1, d2, d3⟩, df⟩ := hA1.cell
  obtain ⟨⟨x0, x1⟩, xf⟩ := hR1.cell
  simp only at d0 d1 d2 d3
  clear hB1 hA1 hR1 H0
  by_cases hn : n ≤ 80
  · cases hr : rightB ⟨L, A, R, F⟩
    · have HR := Lib.hid hr
      clear hr
      go_wp2_with fail
      refine (load_range L R F st ag A w1 HR.out).mono ?_
      rintro e w2 ⟨rfl, hB2⟩
      have hA2 : AlAt 23 w2 w.heap.size ⟨L, A, R, F⟩ := below_blk hB2 HA1.out
      have hR2 : ArAt w2 (w.heap.size + 1) st ag := below_blk hB2 HR1.out
      have HB2 := Lib.hid (HB1.out.trans (hB2.mono HB1.out.size))
      have HA2 := Lib.hid hA2
      have HR2 := Lib.hid hR2
      clear d0 d1 d2 d3 df x0 x1 xf
      obtain ⟨⟨d0, d1, d2, d3⟩, df⟩ := hA2.cell
      obtain ⟨⟨x0, x1⟩, xf⟩ := hR2.cell
      simp only at d0 d1 d2 d3
      clear hB2 hA2 hR2 HB1 HA1 HR1
      go_wp2_with fail
      refine (rightR_any L R F A _).mono ?_
      rintro e w3 ⟨rfl, hB3⟩
      rw [HR.out]
      have hA3 : AlAt 23 w3 w.heap.size ⟨L, A, R, F⟩ := below_blk hB3 HA2.out
      have hR3 : ArAt w3 (w.heap.size + 1) st ag := below_blk hB3 HR2.out
      have HB3 := Lib.hid (HB2.out.trans (hB3.mono HB2.out.size))
      have HA3 := Lib.hid hA3
      clear d0 d1 d2 d3 df x0 x1 xf
      obtain ⟨⟨d0, d1, d2, d3⟩, df⟩ := hA3.cell
      obtain ⟨⟨x0, x1⟩, xf⟩ := hR3.cell
      simp only at d0 d1 d2 d3
      clear hA3 hR3 HA2 HR2 HB2
      clear hB3
      go_wp2
      go_ret
      exact ⟨rfl, HB3.out⟩
    · by_cases s1 : st = 1
      · subst s1
        by_cases h0 : 0 ≤ ag
        · by_cases h1 : ag < R
          · have HR := Lib.hid hr
            clear hr
            have hlw1 : w.heap.size < w1.heap.size := HA1.out.lt
            go_wp2_with fail
            refine (load_good L R F 1 ag A w1 HR.out R (by simp [rowI]) (by simp) h0 h1).mono ?_
            rintro e w2 ⟨g, hg, rfl, hb2, hB2⟩
            have hA2 : AlAt 23 w2 w.heap.size ⟨L, A, R, F⟩ := below_blk hB2 HA1.out
            have hR2 : ArAt w2 (w.heap.size + 1) 1 ag := below_blk hB2 HR1.out
            have HB2 := Lib.hid (HB1.out.trans (hB2.mono HB1.out.size))
            have HA2 := Lib.hid hA2
            have HR2 := Lib.hid hR2
            clear d0 d1 d2 d3 df x0 x1 xf
            obtain ⟨⟨d0, d1, d2, d3⟩, df⟩ := hA2.cell
            obtain ⟨⟨x0, x1⟩, xf⟩ := hR2.cell
            simp only at d0 d1 d2 d3
            clear hB2 hA2 hR2 HB1 HA1 HR1
            go_wp2_with fail
            refine (rightR_any L R F A _).mono ?_
            rintro e w3 ⟨rfl, hB3⟩
            rw [HR.out]
            have hA3 : AlAt 23 w3 w.heap.size ⟨L, A, R, F⟩ := below_blk hB3 HA2.out
            have hR3 : ArAt w3 (w.heap.size + 1) 1 ag := below_blk hB3 HR2.out
            have HB3 := Lib.hid (HB2.out.trans (hB3.mono HB2.out.size))
            have HA3 := Lib.hid hA3
            clear d0 d1 d2 d3 df x0 x1 xf
            obtain ⟨⟨d0, d1, d2, d3⟩, df⟩ := hA3.cell
            obtain ⟨⟨x0, x1⟩, xf⟩ := hR3.cell
            simp only at d0 d1 d2 d3
            clear hA3 hR3 HA2 HR2 HB2
            have hb3 : BellAt w3 g ⟨L, A, R, F⟩ 1 ag := below_blk hB3 hb2
            have Hb3 := Lib.hid hb3
            have hgw : w.heap.size < g := by omega
            clear hlw1
            have hR4 := (right_iff _).1 HR.out
            simp only at hR4
            obtain ⟨r1, r2, r3, r4⟩ := hR4
            have r5 : ag < 100 := by omega
            clear hB3 hb3 hb2 hg
            go_wp2_with fail
            go_quiet (fail)
            go_wp2_with fail
            go_loopw [10, 11, 88] (LRel w g ⟨L, A, R, F⟩ n) (fun _ _ i _ => n - (intOf i).toNat)
            case atStart => exact ⟨0, 1, ag, by omega, rfl, rfl, rfl, by simp, h0, r5, by simp [rowI]; omega, Hb3.out, HA3.out, below_drewN' HB3.out _⟩
            case round =>
              clear h0 h1 r5
              obtain ⟨j, s2, k2, hj, rfl, rfl, rfl, hs2, hk0, hk1, hrow, hb, hA, hB⟩ := hrel
              clear Hb3 HA3 HB3
              by_cases hlt : j < n
              · obtain ⟨ad, rfl, z0⟩ := (HS.out.below hB) j hlt
                have HA := Lib.hid hA
                have HB := Lib.hid hB
                have Hb := Lib.hid hb
                obtain ⟨⟨d0, d1, d2, d3⟩, df⟩ := hA.cell
                clear hA hB hb
                go_wp2_with fail
                refine (badR_any L R F (z j) A _).mono ?_
                rintro e w4 ⟨rfl, hB4⟩
                have hA4 : AlAt 23 w4 w.heap.size ⟨L, A, R, F⟩ := below_blk hB4 HA.out
                have hb4 : BellAt w4 g ⟨L, A, R, F⟩ s2 k2 := below_blk hB4 Hb.out
                have HB4 := Lib.hid (HB.out.trans (hB4.mono HB.out.size))
                have HA4 := Lib.hid hA4
                clear d0 d1 d2 d3 df
                obtain ⟨⟨d0, d1, d2, d3⟩, df⟩ := hA4.cell
                simp only at d0 d1 d2 d3
                clear hB4 hA4 HA HB Hb z0
                rcases hs2 with rfl | rfl
                · simp only [rowI] at hrow
                  simp only [if_true] at hrow
                  cases hbd : badB ⟨L, A, R, F⟩ (z j)
                  · have hv : hearS ⟨L, A, R, F⟩ 1 k2 (z j) = (1, 0, false) := by simp [hearS, hbd]
                    have q1 : ((0 : Int) == R) = false := by simp; omega
                    have c1 := hear_any g L R F 1 k2 (z j) A w4 hb4
                    rw [hv] at c1
                    simp only at c1
                    have C1 := Lib.hid c1
                    clear c1 hv hb4
                    go_wp2_with fail
                    refine C1.out.mono ?_
                    rintro e w5 ⟨rfl, hb5, hT5⟩
                    have hA5 : AlAt 23 w5 w.heap.size ⟨L, A, R, F⟩ := hT5.blk HA4.out (by omega)
                    have HB5 := Lib.hid (HB4.out.trans (hT5.below (by omega) HB4.out.size))
                    have HA5 := Lib.hid hA5
                    have Hb5 := Lib.hid hb5
                    clear hT5 hA5 C1 HA4 HB4 d0 d1 d2 d3 df
                    have c2 := state_any g ⟨L, A, R, F⟩ 1 0 w5 hb5
                    have C2 := Lib.hid c2
                    clear hb5 c2
                    go_wp2_with fail
                    refine C2.out.mono ?_
                    rintro e w6 ⟨rfl, nq, rfl⟩
                    clear C2
                    go_wp2_with fail
                    exact ⟨⟨j + 1, 1, 0, by omega, by go_num, rfl, rfl, by simp, by omega, by omega, by simp [rowI]; omega, Hb5.out, HA5.out, below_drewN' HB5.out nq⟩, by simp [intOf]; omega⟩
                  · by_cases hmore : k2 + 1 < R
                    · have wq : wrap64 (k2 + 1) = k2 + 1 := by unfold wrap64; omega
                      have hv : hearS ⟨L, A, R, F⟩ 1 k2 (z j) = (1, (k2 + 1), false) := by simp [hearS, hbd, rowI, wq, hmore]
                      have q1 : (k2 + 1 == R) = false := by simp; omega
                      have c1 := hear_any g L R F 1 k2 (z j) A w4 hb4
                      rw [hv] at c1
                      simp only at c1
                      have C1 := Lib.hid c1
                      clear c1 hv hb4 wq
                      go_wp2_with fail
                      refine C1.out.mono ?_
                      rintro e w5 ⟨rfl, hb5, hT5⟩
                      have hA5 : AlAt 23 w5 w.heap.size ⟨L, A, R, F⟩ := hT5.blk HA4.out (by omega)
                      have HB5 := Lib.hid (HB4.out.trans (hT5.below (by omega) HB4.out.size))
                      have HA5 := Lib.hid hA5
                      have Hb5 := Lib.hid hb5
                      clear hT5 hA5 C1 HA4 HB4 d0 d1 d2 d3 df
                      have c2 := state_any g ⟨L, A, R, F⟩ 1 (k2 + 1) w5 hb5
                      have C2 := Lib.hid c2
                      clear hb5 c2
                      go_wp2_with fail
                      refine C2.out.mono ?_
                      rintro e w6 ⟨rfl, nq, rfl⟩
                      clear C2
                      go_wp2_with fail
                      exact ⟨⟨j + 1, 1, (k2 + 1), by omega, by go_num, rfl, rfl, by simp, by omega, by omega, by simp [rowI]; omega, Hb5.out, HA5.out, below_drewN' HB5.out nq⟩, by simp [intOf]; omega⟩
                    · have wq : wrap64 (k2 + 1) = k2 + 1 := by unfold wrap64; omega
                      have wq2 : ¬ wrap64 (k2 + 1) < R := by rw [wq]; omega
                      have hv : hearS ⟨L, A, R, F⟩ 1 k2 (z j) = (2, 0, true) := by exact hear_turn1 _ _ _ hbd wq2
                      have q1 : (k2 + 1 == R) = true := by simp; omega
                      have c1 := hear_any g L R F 1 k2 (z j) A w4 hb4
                      rw [hv] at c1
                      simp only at c1
                      have C1 := Lib.hid c1
                      clear c1 hv hb4 wq wq2
                      go_wp2_with fail
                      refine C1.out.mono ?_
                      rintro e w5 ⟨rfl, hb5, hT5⟩
                      have hA5 : AlAt 23 w5 w.heap.size ⟨L, A, R, F⟩ := hT5.blk HA4.out (by omega)
                      have HB5 := Lib.hid (HB4.out.trans (hT5.below (by omega) HB4.out.size))
                      have HA5 := Lib.hid hA5
                      have Hb5 := Lib.hid hb5
                      clear hT5 hA5 C1 HA4 HB4 d0 d1 d2 d3 df
                      have c2 := state_any g ⟨L, A, R, F⟩ 2 0 w5 hb5
                      have C2 := Lib.hid c2
                      clear hb5 c2
                      go_wp2_with fail
                      refine C2.out.mono ?_
                      rintro e w6 ⟨rfl, nq, rfl⟩
                      clear C2
                      go_wp2_with fail
                      exact ⟨⟨j + 1, 2, 0, by omega, by go_num, rfl, rfl, by simp, by omega, by omega, by simp [rowI]; omega, Hb5.out, HA5.out, below_drewN' HB5.out nq⟩, by simp [intOf]; omega⟩
                · simp only [rowI] at hrow
                  rw [if_neg (by decide)] at hrow
                  cases hbd : badB ⟨L, A, R, F⟩ (z j)
                  · by_cases hmore : k2 + 1 < F
                    · have wq : wrap64 (k2 + 1) = k2 + 1 := by unfold wrap64; omega
                      have hv : hearS ⟨L, A, R, F⟩ 2 k2 (z j) = (2, (k2 + 1), false) := by simp [hearS, hbd, rowI, wq, hmore]
                      have q1 : (k2 + 1 == F) = false := by simp; omega
                      have c1 := hear_any g L R F 2 k2 (z j) A w4 hb4
                      rw [hv] at c1
                      simp only at c1
                      have C1 := Lib.hid c1
                      clear c1 hv hb4 wq
                      go_wp2_with fail
                      refine C1.out.mono ?_
                      rintro e w5 ⟨rfl, hb5, hT5⟩
                      have hA5 : AlAt 23 w5 w.heap.size ⟨L, A, R, F⟩ := hT5.blk HA4.out (by omega)
                      have HB5 := Lib.hid (HB4.out.trans (hT5.below (by omega) HB4.out.size))
                      have HA5 := Lib.hid hA5
                      have Hb5 := Lib.hid hb5
                      clear hT5 hA5 C1 HA4 HB4 d0 d1 d2 d3 df
                      have c2 := state_any g ⟨L, A, R, F⟩ 2 (k2 + 1) w5 hb5
                      have C2 := Lib.hid c2
                      clear hb5 c2
                      go_wp2_with fail
                      refine C2.out.mono ?_
                      rintro e w6 ⟨rfl, nq, rfl⟩
                      clear C2
                      go_wp2_with fail
                      exact ⟨⟨j + 1, 2, (k2 + 1), by omega, by go_num, rfl, rfl, by simp, by omega, by omega, by simp [rowI]; omega, Hb5.out, HA5.out, below_drewN' HB5.out nq⟩, by simp [intOf]; omega⟩
                    · have wq : wrap64 (k2 + 1) = k2 + 1 := by unfold wrap64; omega
                      have wq2 : ¬ wrap64 (k2 + 1) < F := by rw [wq]; omega
                      have hv : hearS ⟨L, A, R, F⟩ 2 k2 (z j) = (1, 0, true) := by exact hear_turn2 _ _ _ hbd wq2
                      have q1 : (k2 + 1 == F) = true := by simp; omega
                      have c1 := hear_any g L R F 2 k2 (z j) A w4 hb4
                      rw [hv] at c1
                      simp only at c1
                      have C1 := Lib.hid c1
                      clear c1 hv hb4 wq wq2
                      go_wp2_with fail
                      refine C1.out.mono ?_
                      rintro e w5 ⟨rfl, hb5, hT5⟩
                      have hA5 : AlAt 23 w5 w.heap.size ⟨L, A, R, F⟩ := hT5.blk HA4.out (by omega)
                      have HB5 := Lib.hid (HB4.out.trans (hT5.below (by omega) HB4.out.size))
                      have HA5 := Lib.hid hA5
                      have Hb5 := Lib.hid hb5
                      clear hT5 hA5 C1 HA4 HB4 d0 d1 d2 d3 df
                      have c2 := state_any g ⟨L, A, R, F⟩ 1 0 w5 hb5
                      have C2 := Lib.hid c2
                      clear hb5 c2
                      go_wp2_with fail
                      refine C2.out.mono ?_
                      rintro e w6 ⟨rfl, nq, rfl⟩
                      clear C2
                      go_wp2_with fail
                      exact ⟨⟨j + 1, 1, 0, by omega, by go_num, rfl, rfl, by simp, by omega, by omega, by simp [rowI]; omega, Hb5.out, HA5.out, below_drewN' HB5.out nq⟩, by simp [intOf]; omega⟩
                  · have hv : hearS ⟨L, A, R, F⟩ 2 k2 (z j) = (2, 0, false) := by simp [hearS, hbd]
                    have q1 : ((0 : Int) == F) = false := by simp; omega
                    have c1 := hear_any g L R F 2 k2 (z j) A w4 hb4
                    rw [hv] at c1
                    simp only at c1
                    have C1 := Lib.hid c1
                    clear c1 hv hb4
                    go_wp2_with fail
                    refine C1.out.mono ?_
                    rintro e w5 ⟨rfl, hb5, hT5⟩
                    have hA5 : AlAt 23 w5 w.heap.size ⟨L, A, R, F⟩ := hT5.blk HA4.out (by omega)
                    have HB5 := Lib.hid (HB4.out.trans (hT5.below (by omega) HB4.out.size))
                    have HA5 := Lib.hid hA5
                    have Hb5 := Lib.hid hb5
                    clear hT5 hA5 C1 HA4 HB4 d0 d1 d2 d3 df
                    have c2 := state_any g ⟨L, A, R, F⟩ 2 0 w5 hb5
                    have C2 := Lib.hid c2
                    clear hb5 c2
                    go_wp2_with fail
                    refine C2.out.mono ?_
                    rintro e w6 ⟨rfl, nq, rfl⟩
                    clear C2
                    go_wp2_with fail
                    exact ⟨⟨j + 1, 2, 0, by omega, by go_num, rfl, rfl, by simp, by omega, by omega, by simp [rowI]; omega, Hb5.out, HA5.out, below_drewN' HB5.out nq⟩, by simp [intOf]; omega⟩
              · have hje : j = n := by omega
                subst hje
                clear hlt
                have HB := Lib.hid hB
                clear hb hA hB
                go_wp2
                go_ret
                exact ⟨rfl, HB.out⟩
          · have h2 : R ≤ ag := by omega
            clear h1
            have HR := Lib.hid hr
            clear hr
            go_wp2_with fail
            refine (load_over L R F 1 ag A w1 HR.out R (by simp [rowI]) (by simp) h0 h2).mono ?_
            rintro e w2 ⟨rfl, hB2⟩
            have hA2 : AlAt 23 w2 w.heap.size ⟨L, A, R, F⟩ := below_blk hB2 HA1.out
            have hR2 : ArAt w2 (w.heap.size + 1) 1 ag := below_blk hB2 HR1.out
            have HB2 := Lib.hid (HB1.out.trans (hB2.mono HB1.out.size))
            have HA2 := Lib.hid hA2
            have HR2 := Lib.hid hR2
            clear d0 d1 d2 d3 df x0 x1 xf
            obtain ⟨⟨d0, d1, d2, d3⟩, df⟩ := hA2.cell
            obtain ⟨⟨x0, x1⟩, xf⟩ := hR2.cell
            simp only at d0 d1 d2 d3
            clear hB2 hA2 hR2 HB1 HA1 HR1
            go_wp2_with fail
            refine (rightR_any L R F A _).mono ?_
            rintro e w3 ⟨rfl, hB3⟩
            rw [HR.out]
            have hA3 : AlAt 23 w3 w.heap.size ⟨L, A, R, F⟩ := below_blk hB3 HA2.out
            have hR3 : ArAt w3 (w.heap.size + 1) 1 ag := below_blk hB3 HR2.out
            have HB3 := Lib.hid (HB2.out.trans (hB3.mono HB2.out.size))
            have HA3 := Lib.hid hA3
            clear d0 d1 d2 d3 df x0 x1 xf
            obtain ⟨⟨d0, d1, d2, d3⟩, df⟩ := hA3.cell
            obtain ⟨⟨x0, x1⟩, xf⟩ := hR3.cell
            simp only at d0 d1 d2 d3
            clear hA3 hR3 HA2 HR2 HB2
            clear hB3
            go_wp2
            go_ret
            exact ⟨rfl, HB3.out⟩
        · have h2 : ag < 0 := by omega
          clear h0
          have HR := Lib.hid hr
          clear hr
          go_wp2_with fail
          refine (load_neg L R F 1 ag A w1 HR.out (by simp) h2).mono ?_
          rintro e w2 ⟨rfl, hB2⟩
          have hA2 : AlAt 23 w2 w.heap.size ⟨L, A, R, F⟩ := below_blk hB2 HA1.out
          have hR2 : ArAt w2 (w.heap.size + 1) 1 ag := below_blk hB2 HR1.out
          have HB2 := Lib.hid (HB1.out.trans (hB2.mono HB1.out.size))
          have HA2 := Lib.hid hA2
          have HR2 := Lib.hid hR2
          clear d0 d1 d2 d3 df x0 x1 xf
          obtain ⟨⟨d0, d1, d2, d3⟩, df⟩ := hA2.cell
          obtain ⟨⟨x0, x1⟩, xf⟩ := hR2.cell
          simp only at d0 d1 d2 d3
          clear hB2 hA2 hR2 HB1 HA1 HR1
          go_wp2_with fail
          refine (rightR_any L R F A _).mono ?_
          rintro e w3 ⟨rfl, hB3⟩
          rw [HR.out]
          have hA3 : AlAt 23 w3 w.heap.size ⟨L, A, R, F⟩ := below_blk hB3 HA2.out
          have hR3 : ArAt w3 (w.heap.size + 1) 1 ag := below_blk hB3 HR2.out
          have HB3 := Lib.hid (HB2.out.trans (hB3.mono HB2.out.size))
          have HA3 := Lib.hid hA3
          clear d0 d1 d2 d3 df x0 x1 xf
          obtain ⟨⟨d0, d1, d2, d3⟩, df⟩ := hA3.cell
          obtain ⟨⟨x0, x1⟩, xf⟩ := hR3.cell
          simp only at d0 d1 d2 d3
          clear hA3 hR3 HA2 HR2 HB2
          clear hB3
          go_wp2
          go_ret
          exact ⟨rfl, HB3.out⟩
      · by_cases s2 : st = 2
        · subst s2
          clear s1
          by_cases h0 : 0 ≤ ag
          · by_cases h1 : ag < F
            · have HR := Lib.hid hr
              clear hr
              have hlw1 : w.heap.size < w1.heap.size := HA1.out.lt
              go_wp2_with fail
              refine (load_good L R F 2 ag A w1 HR.out F (by simp [rowI]) (by simp) h0 h1).mono ?_
              rintro e w2 ⟨g, hg, rfl, hb2, hB2⟩
              have hA2 : AlAt 23 w2 w.heap.size ⟨L, A, R, F⟩ := below_blk hB2 HA1.out
              have hR2 : ArAt w2 (w.heap.size + 1) 2 ag := below_blk hB2 HR1.out
              have HB2 := Lib.hid (HB1.out.trans (hB2.mono HB1.out.size))
              have HA2 := Lib.hid hA2
              have HR2 := Lib.hid hR2
              clear d0 d1 d2 d3 df x0 x1 xf
              obtain ⟨⟨d0, d1, d2, d3⟩, df⟩ := hA2.cell
              obtain ⟨⟨x0, x1⟩, xf⟩ := hR2.cell
              simp only at d0 d1 d2 d3
              clear hB2 hA2 hR2 HB1 HA1 HR1
              go_wp2_with fail
              refine (rightR_any L R F A _).mono ?_
              rintro e w3 ⟨rfl, hB3⟩
              rw [HR.out]
              have hA3 : AlAt 23 w3 w.heap.size ⟨L, A, R, F⟩ := below_blk hB3 HA2.out
              have hR3 : ArAt w3 (w.heap.size + 1) 2 ag := below_blk hB3 HR2.out
              have HB3 := Lib.hid (HB2.out.trans (hB3.mono HB2.out.size))
              have HA3 := Lib.hid hA3
              clear d0 d1 d2 d3 df x0 x1 xf
              obtain ⟨⟨d0, d1, d2, d3⟩, df⟩ := hA3.cell
              obtain ⟨⟨x0, x1⟩, xf⟩ := hR3.cell
              simp only at d0 d1 d2 d3
              clear hA3 hR3 HA2 HR2 HB2
              have hb3 : BellAt w3 g ⟨L, A, R, F⟩ 2 ag := below_blk hB3 hb2
              have Hb3 := Lib.hid hb3
              have hgw : w.heap.size < g := by omega
              clear hlw1
              have hR4 := (right_iff _).1 HR.out
              simp only at hR4
              obtain ⟨r1, r2, r3, r4⟩ := hR4
              have r5 : ag < 100 := by omega
              clear hB3 hb3 hb2 hg
              go_wp2_with fail
              go_quiet (fail)
              go_wp2_with fail
              go_loopw [10, 11, 88] (LRel w g ⟨L, A, R, F⟩ n) (fun _ _ i _ => n - (intOf i).toNat)
              case atStart => exact ⟨0, 2, ag, by omega, rfl, rfl, rfl, by simp, h0, r5, by simp [rowI]; omega, Hb3.out, HA3.out, below_drewN' HB3.out _⟩
              case round =>
                clear h0 h1 r5
                obtain ⟨j, s2, k2, hj, rfl, rfl, rfl, hs2, hk0, hk1, hrow, hb, hA, hB⟩ := hrel
                clear Hb3 HA3 HB3
                by_cases hlt : j < n
                · obtain ⟨ad, rfl, z0⟩ := (HS.out.below hB) j hlt
                  have HA := Lib.hid hA
                  have HB := Lib.hid hB
                  have Hb := Lib.hid hb
                  obtain ⟨⟨d0, d1, d2, d3⟩, df⟩ := hA.cell
                  clear hA hB hb
                  go_wp2_with fail
                  refine (badR_any L R F (z j) A _).mono ?_
                  rintro e w4 ⟨rfl, hB4⟩
                  have hA4 : AlAt 23 w4 w.heap.size ⟨L, A, R, F⟩ := below_blk hB4 HA.out
                  have hb4 : BellAt w4 g ⟨L, A, R, F⟩ s2 k2 := below_blk hB4 Hb.out
                  have HB4 := Lib.hid (HB.out.trans (hB4.mono HB.out.size))
                  have HA4 := Lib.hid hA4
                  clear d0 d1 d2 d3 df
                  obtain ⟨⟨d0, d1, d2, d3⟩, df⟩ := hA4.cell
                  simp only at d0 d1 d2 d3
                  clear hB4 hA4 HA HB Hb z0
                  rcases hs2 with rfl | rfl
                  · simp only [rowI] at hrow
                    simp only [if_true] at hrow
                    cases hbd : badB ⟨L, A, R, F⟩ (z j)
                    · have hv : hearS ⟨L, A, R, F⟩ 1 k2 (z j) = (1, 0, false) := by simp [hearS, hbd]
                      have q1 : ((0 : Int) == R) = false := by simp; omega
                      have c1 := hear_any g L R F 1 k2 (z j) A w4 hb4
                      rw [hv] at c1
                      simp only at c1
                      have C1 := Lib.hid c1
                      clear c1 hv hb4
                      go_wp2_with fail
                      refine C1.out.mono ?_
                      rintro e w5 ⟨rfl, hb5, hT5⟩
                      have hA5 : AlAt 23 w5 w.heap.size ⟨L, A, R, F⟩ := hT5.blk HA4.out (by omega)
                      have HB5 := Lib.hid (HB4.out.trans (hT5.below (by omega) HB4.out.size))
                      have HA5 := Lib.hid hA5
                      have Hb5 := Lib.hid hb5
                      clear hT5 hA5 C1 HA4 HB4 d0 d1 d2 d3 df
                      have c2 := state_any g ⟨L, A, R, F⟩ 1 0 w5 hb5
                      have C2 := Lib.hid c2
                      clear hb5 c2
                      go_wp2_with fail
                      refine C2.out.mono ?_
                      rintro e w6 ⟨rfl, nq, rfl⟩
                      clear C2
                      go_wp2_with fail
                      exact ⟨⟨j + 1, 1, 0, by omega, by go_num, rfl, rfl, by simp, by omega, by omega, by simp [rowI]; omega, Hb5.out, HA5.out, below_drewN' HB5.out nq⟩, by simp [intOf]; omega⟩
                    · by_cases hmore : k2 + 1 < R
                      · have wq : wrap64 (k2 + 1) = k2 + 1 := by unfold wrap64; omega
                        have hv : hearS ⟨L, A, R, F⟩ 1 k2 (z j) = (1, (k2 + 1), false) := by simp [hearS, hbd, rowI, wq, hmore]
                        have q1 : (k2 + 1 == R) = false := by simp; omega
                        have c1 := hear_any g L R F 1 k2 (z j) A w4 hb4
                        rw [hv] at c1
                        simp only at c1
                        have C1 := Lib.hid c1
                        clear c1 hv hb4 wq
                        go_wp2_with fail
                        refine C1.out.mono ?_
                        rintro e w5 ⟨rfl, hb5, hT5⟩
                        have hA5 : AlAt 23 w5 w.heap.size ⟨L, A, R, F⟩ := hT5.blk HA4.out (by omega)
                        have HB5 := Lib.hid (HB4.out.trans (hT5.below (by omega) HB4.out.size))
                        have HA5 := Lib.hid hA5
                        have Hb5 := Lib.hid hb5
                        clear hT5 hA5 C1 HA4 HB4 d0 d1 d2 d3 df
                        have c2 := state_any g ⟨L, A, R, F⟩ 1 (k2 + 1) w5 hb5
                        have C2 := Lib.hid c2
                        clear hb5 c2
                        go_wp2_with fail
                        refine C2.out.mono ?_
                        rintro e w6 ⟨rfl, nq, rfl⟩
                        clear C2
                        go_wp2_with fail
                        exact ⟨⟨j + 1, 1, (k2 + 1), by omega, by go_num, rfl, rfl, by simp, by omega, by omega, by simp [rowI]; omega, Hb5.out, HA5.out, below_drewN' HB5.out nq⟩, by simp [intOf]; omega⟩
                      · have wq : wrap64 (k2 + 1) = k2 + 1 := by unfold wrap64; omega
                        have wq2 : ¬ wrap64 (k2 + 1) < R := by rw [wq]; omega
                        have hv : hearS ⟨L, A, R, F⟩ 1 k2 (z j) = (2, 0, true) := by exact hear_turn1 _ _ _ hbd wq2
                        have q1 : (k2 + 1 == R) = true := by simp; omega
                        have c1 := hear_any g L R F 1 k2 (z j) A w4 hb4
                        rw [hv] at c1
                        simp only at c1
                        have C1 := Lib.hid c1
                        clear c1 hv hb4 wq wq2
                        go_wp2_with fail
                        refine C1.out.mono ?_
                        rintro e w5 ⟨rfl, hb5, hT5⟩
                        have hA5 : AlAt 23 w5 w.heap.size ⟨L, A, R, F⟩ := hT5.blk HA4.out (by omega)
                        have HB5 := Lib.hid (HB4.out.trans (hT5.below (by omega) HB4.out.size))
                        have HA5 := Lib.hid hA5
                        have Hb5 := Lib.hid hb5
                        clear hT5 hA5 C1 HA4 HB4 d0 d1 d2 d3 df
                        have c2 := state_any g ⟨L, A, R, F⟩ 2 0 w5 hb5
                        have C2 := Lib.hid c2
                        clear hb5 c2
                        go_wp2_with fail
                        refine C2.out.mono ?_
                        rintro e w6 ⟨rfl, nq, rfl⟩
                        clear C2
                        go_wp2_with fail
                        exact ⟨⟨j + 1, 2, 0, by omega, by go_num, rfl, rfl, by simp, by omega, by omega, by simp [rowI]; omega, Hb5.out, HA5.out, below_drewN' HB5.out nq⟩, by simp [intOf]; omega⟩
                  · simp only [rowI] at hrow
                    rw [if_neg (by decide)] at hrow
                    cases hbd : badB ⟨L, A, R, F⟩ (z j)
                    · by_cases hmore : k2 + 1 < F
                      · have wq : wrap64 (k2 + 1) = k2 + 1 := by unfold wrap64; omega
                        have hv : hearS ⟨L, A, R, F⟩ 2 k2 (z j) = (2, (k2 + 1), false) := by simp [hearS, hbd, rowI, wq, hmore]
                        have q1 : (k2 + 1 == F) = false := by simp; omega
                        have c1 := hear_any g L R F 2 k2 (z j) A w4 hb4
                        rw [hv] at c1
                        simp only at c1
                        have C1 := Lib.hid c1
                        clear c1 hv hb4 wq
                        go_wp2_with fail
                        refine C1.out.mono ?_
                        rintro e w5 ⟨rfl, hb5, hT5⟩
                        have hA5 : AlAt 23 w5 w.heap.size ⟨L, A, R, F⟩ := hT5.blk HA4.out (by omega)
                        have HB5 := Lib.hid (HB4.out.trans (hT5.below (by omega) HB4.out.size))
                        have HA5 := Lib.hid hA5
                        have Hb5 := Lib.hid hb5
                        clear hT5 hA5 C1 HA4 HB4 d0 d1 d2 d3 df
                        have c2 := state_any g ⟨L, A, R, F⟩ 2 (k2 + 1) w5 hb5
                        have C2 := Lib.hid c2
                        clear hb5 c2
                        go_wp2_with fail
                        refine C2.out.mono ?_
                        rintro e w6 ⟨rfl, nq, rfl⟩
                        clear C2
                        go_wp2_with fail
                        exact ⟨⟨j + 1, 2, (k2 + 1), by omega, by go_num, rfl, rfl, by simp, by omega, by omega, by simp [rowI]; omega, Hb5.out, HA5.out, below_drewN' HB5.out nq⟩, by simp [intOf]; omega⟩
                      · have wq : wrap64 (k2 + 1) = k2 + 1 := by unfold wrap64; omega
                        have wq2 : ¬ wrap64 (k2 + 1) < F := by rw [wq]; omega
                        have hv : hearS ⟨L, A, R, F⟩ 2 k2 (z j) = (1, 0, true) := by exact hear_turn2 _ _ _ hbd wq2
                        have q1 : (k2 + 1 == F) = true := by simp; omega
                        have c1 := hear_any g L R F 2 k2 (z j) A w4 hb4
                        rw [hv] at c1
                        simp only at c1
                        have C1 := Lib.hid c1
                        clear c1 hv hb4 wq wq2
                        go_wp2_with fail
                        refine C1.out.mono ?_
                        rintro e w5 ⟨rfl, hb5, hT5⟩
                        have hA5 : AlAt 23 w5 w.heap.size ⟨L, A, R, F⟩ := hT5.blk HA4.out (by omega)
                        have HB5 := Lib.hid (HB4.out.trans (hT5.below (by omega) HB4.out.size))
                        have HA5 := Lib.hid hA5
                        have Hb5 := Lib.hid hb5
                        clear hT5 hA5 C1 HA4 HB4 d0 d1 d2 d3 df
                        have c2 := state_any g ⟨L, A, R, F⟩ 1 0 w5 hb5
                        have C2 := Lib.hid c2
                        clear hb5 c2
                        go_wp2_with fail
                        refine C2.out.mono ?_
                        rintro e w6 ⟨rfl, nq, rfl⟩
                        clear C2
                        go_wp2_with fail
                        exact ⟨⟨j + 1, 1, 0, by omega, by go_num, rfl, rfl, by simp, by omega, by omega, by simp [rowI]; omega, Hb5.out, HA5.out, below_drewN' HB5.out nq⟩, by simp [intOf]; omega⟩
                    · have hv : hearS ⟨L, A, R, F⟩ 2 k2 (z j) = (2, 0, false) := by simp [hearS, hbd]
                      have q1 : ((0 : Int) == F) = false := by simp; omega
                      have c1 := hear_any g L R F 2 k2 (z j) A w4 hb4
                      rw [hv] at c1
                      simp only at c1
                      have C1 := Lib.hid c1
                      clear c1 hv hb4
                      go_wp2_with fail
                      refine C1.out.mono ?_
                      rintro e w5 ⟨rfl, hb5, hT5⟩
                      have hA5 : AlAt 23 w5 w.heap.size ⟨L, A, R, F⟩ := hT5.blk HA4.out (by omega)
                      have HB5 := Lib.hid (HB4.out.trans (hT5.below (by omega) HB4.out.size))
                      have HA5 := Lib.hid hA5
                      have Hb5 := Lib.hid hb5
                      clear hT5 hA5 C1 HA4 HB4 d0 d1 d2 d3 df
                      have c2 := state_any g ⟨L, A, R, F⟩ 2 0 w5 hb5
                      have C2 := Lib.hid c2
                      clear hb5 c2
                      go_wp2_with fail
                      refine C2.out.mono ?_
                      rintro e w6 ⟨rfl, nq, rfl⟩
                      clear C2
                      go_wp2_with fail
                      exact ⟨⟨j + 1, 2, 0, by omega, by go_num, rfl, rfl, by simp, by omega, by omega, by simp [rowI]; omega, Hb5.out, HA5.out, below_drewN' HB5.out nq⟩, by simp [intOf]; omega⟩
                · have hje : j = n := by omega
                  subst hje
                  clear hlt
                  have HB := Lib.hid hB
                  clear hb hA hB
                  go_wp2
                  go_ret
                  exact ⟨rfl, HB.out⟩
            · have h2 : F ≤ ag := by omega
              clear h1
              have HR := Lib.hid hr
              clear hr
              go_wp2_with fail
              refine (load_over L R F 2 ag A w1 HR.out F (by simp [rowI]) (by simp) h0 h2).mono ?_
              rintro e w2 ⟨rfl, hB2⟩
              have hA2 : AlAt 23 w2 w.heap.size ⟨L, A, R, F⟩ := below_blk hB2 HA1.out
              have hR2 : ArAt w2 (w.heap.size + 1) 2 ag := below_blk hB2 HR1.out
              have HB2 := Lib.hid (HB1.out.trans (hB2.mono HB1.out.size))
              have HA2 := Lib.hid hA2
              have HR2 := Lib.hid hR2
              clear d0 d1 d2 d3 df x0 x1 xf
              obtain ⟨⟨d0, d1, d2, d3⟩, df⟩ := hA2.cell
              obtain ⟨⟨x0, x1⟩, xf⟩ := hR2.cell
              simp only at d0 d1 d2 d3
              clear hB2 hA2 hR2 HB1 HA1 HR1
              go_wp2_with fail
              refine (rightR_any L R F A _).mono ?_
              rintro e w3 ⟨rfl, hB3⟩
              rw [HR.out]
              have hA3 : AlAt 23 w3 w.heap.size ⟨L, A, R, F⟩ := below_blk hB3 HA2.out
              have hR3 : ArAt w3 (w.heap.size + 1) 2 ag := below_blk hB3 HR2.out
              have HB3 := Lib.hid (HB2.out.trans (hB3.mono HB2.out.size))
              have HA3 := Lib.hid hA3
              clear d0 d1 d2 d3 df x0 x1 xf
              obtain ⟨⟨d0, d1, d2, d3⟩, df⟩ := hA3.cell
              obtain ⟨⟨x0, x1⟩, xf⟩ := hR3.cell
              simp only at d0 d1 d2 d3
              clear hA3 hR3 HA2 HR2 HB2
              clear hB3
              go_wp2
              go_ret
              exact ⟨rfl, HB3.out⟩
          · have h2 : ag < 0 := by omega
            clear h0
            have HR := Lib.hid hr
            clear hr
            go_wp2_with fail
            refine (load_neg L R F 2 ag A w1 HR.out (by simp) h2).mono ?_
            rintro e w2 ⟨rfl, hB2⟩
            have hA2 : AlAt 23 w2 w.heap.size ⟨L, A, R, F⟩ := below_blk hB2 HA1.out
            have hR2 : ArAt w2 (w.heap.size + 1) 2 ag := below_blk hB2 HR1.out
            have HB2 := Lib.hid (HB1.out.trans (hB2.mono HB1.out.size))
            have HA2 := Lib.hid hA2
            have HR2 := Lib.hid hR2
            clear d0 d1 d2 d3 df x0 x1 xf
            obtain ⟨⟨d0, d1, d2, d3⟩, df⟩ := hA2.cell
            obtain ⟨⟨x0, x1⟩, xf⟩ := hR2.cell
            simp only at d0 d1 d2 d3
            clear hB2 hA2 hR2 HB1 HA1 HR1
            go_wp2_with fail
            refine (rightR_any L R F A _).mono ?_
            rintro e w3 ⟨rfl, hB3⟩
            rw [HR.out]
            have hA3 : AlAt 23 w3 w.heap.size ⟨L, A, R, F⟩ := below_blk hB3 HA2.out
            have hR3 : ArAt w3 (w.heap.size + 1) 2 ag := below_blk hB3 HR2.out
            have HB3 := Lib.hid (HB2.out.trans (hB3.mono HB2.out.size))
            have HA3 := Lib.hid hA3
            clear d0 d1 d2 d3 df x0 x1 xf
            obtain ⟨⟨d0, d1, d2, d3⟩, df⟩ := hA3.cell
            obtain ⟨⟨x0, x1⟩, xf⟩ := hR3.cell
            simp only at d0 d1 d2 d3
            clear hA3 hR3 HA2 HR2 HB2
            clear hB3
            go_wp2
            go_ret
            exact ⟨rfl, HB3.out⟩
        · have HR := Lib.hid hr
          clear hr
          have q1 : (st == 1) = false := by simpa using s1
          have q2 : (st == 2) = false := by simpa using s2
          have q3 : (st != 1) = true := by simpa using s1
          have q4 : (st != 2) = true := by simpa using s2
          have HSt : Hid (¬ st = 1 ∧ ¬ st = 2) := ⟨s1, s2⟩
          clear s1 s2
          go_wp2_with fail
          refine (load_state L R F st ag A w1 HR.out HSt.out.1 HSt.out.2).mono ?_
          rintro e w2 ⟨rfl, hB2⟩
          have hA2 : AlAt 23 w2 w.heap.size ⟨L, A, R, F⟩ := below_blk hB2 HA1.out
          have hR2 : ArAt w2 (w.heap.size + 1) st ag := below_blk hB2 HR1.out
          have HB2 := Lib.hid (HB1.out.trans (hB2.mono HB1.out.size))
          have HA2 := Lib.hid hA2
          have HR2 := Lib.hid hR2
          clear d0 d1 d2 d3 df x0 x1 xf
          obtain ⟨⟨d0, d1, d2, d3⟩, df⟩ := hA2.cell
          obtain ⟨⟨x0, x1⟩, xf⟩ := hR2.cell
          simp only at d0 d1 d2 d3
          clear hB2 hA2 hR2 HB1 HA1 HR1
          go_wp2_with fail
          refine (rightR_any L R F A _).mono ?_
          rintro e w3 ⟨rfl, hB3⟩
          rw [HR.out]
          have hA3 : AlAt 23 w3 w.heap.size ⟨L, A, R, F⟩ := below_blk hB3 HA2.out
          have hR3 : ArAt w3 (w.heap.size + 1) st ag := below_blk hB3 HR2.out
          have HB3 := Lib.hid (HB2.out.trans (hB3.mono HB2.out.size))
          have HA3 := Lib.hid hA3
          clear d0 d1 d2 d3 df x0 x1 xf
          obtain ⟨⟨d0, d1, d2, d3⟩, df⟩ := hA3.cell
          obtain ⟨⟨x0, x1⟩, xf⟩ := hR3.cell
          simp only at d0 d1 d2 d3
          clear hA3 hR3 HA2 HR2 HB2
          clear hB3
          go_wp2
          go_ret
          exact ⟨rfl, HB3.out⟩
  · go_wp2_with fail
    refine (awake_any _).mono ?_
    rintro e w2 ⟨rfl, hB2⟩
    have HB2 := Lib.hid (HB1.out.trans (hB2.mono HB1.out.size))
    clear hB2
    go_wp2
    go_ret
    exact ⟨rfl, HB2.out⟩
end Go.Proofs.Ytopcjopibblpaaa
