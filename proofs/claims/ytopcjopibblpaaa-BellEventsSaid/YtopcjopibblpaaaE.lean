import Derived.Test.YtopcjopibblpaaaD
namespace Go.Proofs.Ytopcjopibblpaaa
open Go.RowKit

theorem below_drewN' {B : Nat} {a w : World} (h : Below B a w) (n : Nat) : Below B a (w.drewN n) := ⟨h.os, h.tape, h.output, h.size, h.block⟩

def stB (R : Int) (k : Nat) : Int := if (k : Int) < R then 1 else 2
def agB (R : Int) (k : Nat) : Int := if (k : Int) < R then k else 0
theorem hear_bad (a : AL) (s : Int) (k : Nat) (hb : badB a s = true) (hk : k ≤ 1000) (_h1 : 1 ≤ a.R) :
    hearS a (stB a.R k) (agB a.R k) s = (stB a.R (k + 1), agB a.R (k + 1), ((k : Int) + 1 == a.R)) := by
  unfold stB agB
  by_cases h : (k : Int) < a.R
  · have w1 : wrap64 ((k : Int) + 1) = (k : Int) + 1 := by unfold wrap64; omega
    by_cases h2 : (k : Int) + 1 < a.R
    · have h3 : ¬ ((k : Int) + 1 = a.R) := by omega
      simp [hearS, hb, h, rowI, w1, h2, h3]
    · have h3 : (k : Int) + 1 = a.R := by omega
      have w2 : ¬ wrap64 ((k : Int) + 1) < a.R := by rw [w1]; omega
      simp [hearS, hb, h, rowI, w2, h2]
      exact ⟨by unfold wrap64; omega, h3⟩
  · have h2 : ¬ ((k : Int) + 1 < a.R) := by omega
    have h3 : ¬ ((k : Int) + 1 = a.R) := by omega
    simp [hearS, hb, h, h2, h3]
theorem hear_calm (a : AL) (s : Int) (hb : badB a s = false) : hearS a 1 0 s = (1, 0, false) := by
  simp [hearS, hb]

def TRel (w : World) (gA gb gc gd : Nat) (a c : AL) (n : Nat) (i : Value) (wr : World) : Prop :=
  ∃ k : Nat, k ≤ n ∧ i = .int .i64 k ∧ BellAt wr gb a (stB a.R k) (agB a.R k) ∧ BellAt wr gc c (stB a.R k) (agB a.R k) ∧ BellAt wr gd a 1 0 ∧ AlAt 23 wr gA a ∧ Below w.heap.size w wr

def badS (L : Int) (A : Bool) : Int := if A then L + 1 else L - 1

set_option maxRecDepth 100000 in
set_option maxHeartbeats 8000000 in
theorem turns_any (L R F : Int) (A : Bool) (n : Nat) (b : Int) (w : World) (hL : -9223372036854775808 ≤ L) (hL' : L ≤ 9223372036854775807) (hn : n ≤ 255) (b0 : 0 ≤ b) (b1 : b ≤ 65535) :
    Calls Try.prog 5 #[.agg #[.int .i64 L, .bool A, .int .i64 R, .int .i64 F], .int .u8 n, .int .u16 b] w fun e w' => e = .returned (.bool true) ∧ Below w.heap.size w w' := by
  have hA := AlAt.new 23 w L R F A
  have hB := (Below.refl w.heap.size w).alloc (Nat.le_refl _) (.cells #[.int .i64 L, .bool A, .int .i64 R, .int .i64 F] 23)
  have HA := Lib.hid hA
  have HB := Lib.hid hB
  clear hA hB
  go_enter Try.func5, Try.ntmps5
  go_wp2_with fail
  refine (awake_any _).mono ?_
  rintro e w1 ⟨rfl, hB1⟩
  have hA1 : AlAt 23 w1 w.heap.size ⟨L, A, R, F⟩ := below_blk hB1 HA.out
  have HB1 := Lib.hid (HB.out.trans (hB1.mono (by simp)))
  have HA1 := Lib.hid hA1
  obtain ⟨⟨d0, d1, d2, d3⟩, df⟩ := hA1.cell
  simp only at d0 d1 d2 d3
  clear hB1 hA1 HA HB
  go_wp2_with fail
  refine (rightR_any L R F A _).mono ?_
  rintro e w2 ⟨rfl, hB2⟩
  have hA2 : AlAt 23 w2 w.heap.size ⟨L, A, R, F⟩ := below_blk hB2 HA1.out
  have HB2 := Lib.hid (HB1.out.trans (hB2.mono HB1.out.size))
  have HA2 := Lib.hid hA2
  clear d0 d1 d2 d3 df
  obtain ⟨⟨d0, d1, d2, d3⟩, df⟩ := hA2.cell
  simp only at d0 d1 d2 d3
  clear hB2 HA1 HB1
  by_cases hg : rightB ⟨L, A, R, F⟩ = true ∧ L ≤ 1152921504606846976 ∧ -1152921504606846976 ≤ L
  · obtain ⟨hr, g1, g2⟩ := hg
    rw [hr]
    have HR := Lib.hid hr
    clear hr
    cases A
    · have hlt2 := hA2.lt
      clear hA2
      have hbad : badB ⟨L, false, R, F⟩ (L - 1) = true := by simp [badB]; try omega
      have hbad2 : badB ⟨L + b, false, R, F⟩ (L - 1 + b) = true := by simp [badB]; try omega
      have hcalm : badB ⟨L, false, R, F⟩ L = false := by simp [badB]
      have HBD : Hid (badB ⟨L, false, R, F⟩ (L - 1) = true ∧ badB ⟨L + b, false, R, F⟩ (L - 1 + b) = true ∧ badB ⟨L, false, R, F⟩ L = false) := ⟨hbad, hbad2, hcalm⟩
      clear hbad hbad2 hcalm
      go_wp2_with fail
      have hA3 : AlAt 23 (w2.alloc (.cells #[.int .i64 (L + b), .bool false, .int .i64 R, .int .i64 F] 23)) w.heap.size ⟨L, false, R, F⟩ := below_blk ((Below.refl _ _).alloc (Nat.le_refl _) _) HA2.out
      have hM3 : AlAt 23 (w2.alloc (.cells #[.int .i64 (L + b), .bool false, .int .i64 R, .int .i64 F] 23)) w2.heap.size ⟨L + b, false, R, F⟩ := heap_alloc_new w2 _
      have HB3 := Lib.hid (HB2.out.alloc HB2.out.size (.cells #[.int .i64 (L + b), .bool false, .int .i64 R, .int .i64 F] 23))
      have HA3 := Lib.hid hA3
      have HM3 := Lib.hid hM3
      clear hA3 hM3 HB2 HA2 d0 d1 d2 d3 df
      refine (new_ok L R F false _ HR.out).mono ?_
      rintro e w4 ⟨gb, hgb, rfl, hb4, hB4⟩
      have hA4 : AlAt 23 w4 w.heap.size ⟨L, false, R, F⟩ := below_blk hB4 HA3.out
      have hM4 : AlAt 23 w4 w2.heap.size ⟨L + b, false, R, F⟩ := below_blk hB4 HM3.out
      have hgb' : w2.heap.size < gb := by have := HM3.out.lt; omega
      have HB4 := Lib.hid (HB3.out.trans (hB4.mono HB3.out.size))
      have HA4 := Lib.hid hA4
      have HM4 := Lib.hid hM4
      have Hb4 := Lib.hid hb4
      obtain ⟨⟨d0, d1, d2, d3⟩, df⟩ := hA4.cell
      obtain ⟨⟨m0, m1, m2, m3⟩, mf⟩ := hM4.cell
      simp only at d0 d1 d2 d3 m0 m1 m2 m3
      clear hb4 hB4 hA4 hM4 HA3 HM3 HB3 hgb
      go_wp2_with fail
      refine (new_ok (L + b) R F false _ (by simpa [rightB] using HR.out)).mono ?_
      rintro e w5 ⟨gc, hgc, rfl, hc5, hB5⟩
      have hA5 : AlAt 23 w5 w.heap.size ⟨L, false, R, F⟩ := below_blk hB5 HA4.out
      have hb5 : BellAt w5 gb ⟨L, false, R, F⟩ 1 0 := below_blk hB5 Hb4.out
      have hgc' : gb < gc := by have := Hb4.out.lt; omega
      have HB5 := Lib.hid (HB4.out.trans (hB5.mono HB4.out.size))
      have HA5 := Lib.hid hA5
      have Hb5 := Lib.hid hb5
      have Hc5 := Lib.hid hc5
      clear d0 d1 d2 d3 df m0 m1 m2 m3 mf
      obtain ⟨⟨d0, d1, d2, d3⟩, df⟩ := hA5.cell
      simp only at d0 d1 d2 d3
      clear hc5 hb5 hB5 hA5 HA4 HM4 HB4 Hb4 hgc
      go_wp2_with fail
      refine (new_ok L R F false _ HR.out).mono ?_
      rintro e w6 ⟨gd, hgd, rfl, hd6, hB6⟩
      have hA6 : AlAt 23 w6 w.heap.size ⟨L, false, R, F⟩ := below_blk hB6 HA5.out
      have hb6 : BellAt w6 gb ⟨L, false, R, F⟩ 1 0 := below_blk hB6 Hb5.out
      have hc6 : BellAt w6 gc ⟨L + b, false, R, F⟩ 1 0 := below_blk hB6 Hc5.out
      have hgd' : gc < gd := by have := Hc5.out.lt; omega
      have HB6 := Lib.hid (HB5.out.trans (hB6.mono HB5.out.size))
      have HA6 := Lib.hid hA6
      have Hb6 := Lib.hid hb6
      have Hc6 := Lib.hid hc6
      have Hd6 := Lib.hid hd6
      clear d0 d1 d2 d3 df
      clear hc6 hb6 hd6 hB6 hA6 HA5 HB5 Hb5 Hc5 hgd
      have hR1 : 1 ≤ R := ((right_iff _).1 HR.out).1
      clear HR
      go_wp2_with fail
      go_loopw [91] (TRel w w.heap.size gb gc gd ⟨L, false, R, F⟩ ⟨L + b, false, R, F⟩ n) (fun i _ => n - (intOf i).toNat)
      case atStart =>
        have s0 : stB R 0 = 1 := by simp [stB]; omega
        have s1 : agB R 0 = 0 := by simp [agB]
        refine ⟨0, by omega, rfl, ?_, ?_, Hd6.out, HA6.out, HB6.out⟩
        · simp only [s0, s1]; exact Hb6.out
        · simp only [s0, s1]; exact Hc6.out
      case round =>
        obtain ⟨k, hk, rfl, hb, hc, hd, hA, hB⟩ := hrel
        clear HA6 Hb6 Hc6 Hd6 HB6
        simp only at hb hc
        by_cases hlt : k < n
        · have hgbw : w.heap.size ≤ gb := by omega
          have hgcw : w.heap.size ≤ gc := by omega
          have hgdw : w.heap.size ≤ gd := by omega
          have hsz := hB.size
          have c1 := hear_any gb L R F (stB R k) (agB R k) (L - 1) false wr hb
          rw [hear_bad ⟨L, false, R, F⟩ (L - 1) k HBD.out.1 (by omega) hR1] at c1
          simp only at c1
          have C1 := Lib.hid c1
          have Hc := Lib.hid hc
          have Hd := Lib.hid hd
          have HA := Lib.hid hA
          have HB := Lib.hid hB
          clear c1 hb hc hd hA hB
          go_wp2_with fail
          refine C1.out.mono ?_
          rintro e w7 ⟨rfl, hb7, hT7⟩
          have hc7 : BellAt w7 gc ⟨L + b, false, R, F⟩ (stB R k) (agB R k) := hT7.blk Hc.out (by omega)
          have hd7 : BellAt w7 gd ⟨L, false, R, F⟩ 1 0 := hT7.blk Hd.out (by omega)
          have hA7 : AlAt 23 w7 w.heap.size ⟨L, false, R, F⟩ := hT7.blk HA.out (by omega)
          have HB7 := Lib.hid (HB.out.trans (hT7.below hgbw hsz))
          have c2 := hear_any gc (L + b) R F (stB R k) (agB R k) (L - 1 + b) false w7 hc7
          rw [hear_bad ⟨L + b, false, R, F⟩ (L - 1 + b) k HBD.out.2.1 (by omega) hR1] at c2
          simp only at c2
          have C2 := Lib.hid c2
          have Hb7 := Lib.hid hb7
          have Hd7 := Lib.hid hd7
          have HA7 := Lib.hid hA7
          obtain ⟨⟨d0, d1, d2, d3⟩, df⟩ := hA7.cell
          simp only at d0 d1 d2 d3
          clear c2 hb7 hc7 hd7 hA7 hT7 C1 Hc Hd HA HB
          go_wp2_with fail
          refine C2.out.mono ?_
          rintro e w8 ⟨rfl, hc8, hT8⟩
          have hsz7 := HB7.out.size
          have hb8 : BellAt w8 gb ⟨L, false, R, F⟩ (stB R (k + 1)) (agB R (k + 1)) := hT8.blk Hb7.out (by omega)
          have hd8 : BellAt w8 gd ⟨L, false, R, F⟩ 1 0 := hT8.blk Hd7.out (by omega)
          have hA8 : AlAt 23 w8 w.heap.size ⟨L, false, R, F⟩ := hT8.blk HA7.out (by omega)
          have HB8 := Lib.hid (HB7.out.trans (hT8.below hgcw hsz7))
          have c3 := hear_any gd L R F 1 0 L false w8 hd8
          rw [hear_calm ⟨L, false, R, F⟩ L HBD.out.2.2] at c3
          simp only at c3
          have C3 := Lib.hid c3
          have Hb8 := Lib.hid hb8
          have Hc8 := Lib.hid hc8
          have HA8 := Lib.hid hA8
          clear d0 d1 d2 d3 df
          obtain ⟨⟨d0, d1, d2, d3⟩, df⟩ := hA8.cell
          simp only at d0 d1 d2 d3
          clear c3 hb8 hc8 hd8 hA8 hT8 C2 Hb7 Hd7 HA7 HB7
          go_wp2_with fail
          refine C3.out.mono ?_
          rintro e w9 ⟨rfl, hd9, hT9⟩
          have hsz8 := HB8.out.size
          have hb9 : BellAt w9 gb ⟨L, false, R, F⟩ (stB R (k + 1)) (agB R (k + 1)) := hT9.blk Hb8.out (by omega)
          have hc9 : BellAt w9 gc ⟨L + b, false, R, F⟩ (stB R (k + 1)) (agB R (k + 1)) := hT9.blk Hc8.out (by omega)
          have hA9 : AlAt 23 w9 w.heap.size ⟨L, false, R, F⟩ := hT9.blk HA8.out (by omega)
          have HB9 := Lib.hid (HB8.out.trans (hT9.below hgdw hsz8))
          have Hb9 := Lib.hid hb9
          have Hc9 := Lib.hid hc9
          have Hd9 := Lib.hid hd9
          have HA9 := Lib.hid hA9
          clear d0 d1 d2 d3 df hb9 hc9 hd9 hA9 hT9 C3 Hb8 Hc8 HA8 HB8
          go_wp2_with fail
          exact ⟨⟨k + 1, by omega, by go_num, Hb9.out, Hc9.out, Hd9.out, HA9.out, HB9.out⟩, by simp [intOf]; omega⟩
        · have hke : k = n := by omega
          subst hke
          clear hlt
          have HB := Lib.hid hB
          have HA := Lib.hid hA
          have hs := hA.cell
          clear hB hc hd hA
          go_wp2_with fail
          refine (state_any gb ⟨L, false, R, F⟩ (stB R k) (agB R k) _ hb).mono ?_
          rintro e w7 ⟨rfl, nq, rfl⟩
          obtain ⟨⟨d0, d1, d2, d3⟩, df⟩ := hs
          clear hb
          have hfin : (stB R k == 2) = decide (R ≤ (k : Int)) := by
            unfold stB
            by_cases h : (k : Int) < R <;> simp [h] <;> omega
          have HF := Lib.hid hfin
          clear hfin
          go_wp2_with fail
          go_ret
          exact ⟨ret_bool (by rw [HF.out]; simp), below_drewN' HB.out nq⟩
    · have hlt2 := hA2.lt
      clear hA2
      have hbad : badB ⟨L, true, R, F⟩ (L + 1) = true := by simp [badB]; try omega
      have hbad2 : badB ⟨L + b, true, R, F⟩ (L + 1 + b) = true := by simp [badB]; try omega
      have hcalm : badB ⟨L, true, R, F⟩ L = false := by simp [badB]
      have HBD : Hid (badB ⟨L, true, R, F⟩ (L + 1) = true ∧ badB ⟨L + b, true, R, F⟩ (L + 1 + b) = true ∧ badB ⟨L, true, R, F⟩ L = false) := ⟨hbad, hbad2, hcalm⟩
      clear hbad hbad2 hcalm
      go_wp2_with fail
      have hA3 : AlAt 23 (w2.alloc (.cells #[.int .i64 (L + b), .bool true, .int .i64 R, .int .i64 F] 23)) w.heap.size ⟨L, true, R, F⟩ := below_blk ((Below.refl _ _).alloc (Nat.le_refl _) _) HA2.out
      have hM3 : AlAt 23 (w2.alloc (.cells #[.int .i64 (L + b), .bool true, .int .i64 R, .int .i64 F] 23)) w2.heap.size ⟨L + b, true, R, F⟩ := heap_alloc_new w2 _
      have HB3 := Lib.hid (HB2.out.alloc HB2.out.size (.cells #[.int .i64 (L + b), .bool true, .int .i64 R, .int .i64 F] 23))
      have HA3 := Lib.hid hA3
      have HM3 := Lib.hid hM3
      clear hA3 hM3 HB2 HA2 d0 d1 d2 d3 df
      refine (new_ok L R F true _ HR.out).mono ?_
      rintro e w4 ⟨gb, hgb, rfl, hb4, hB4⟩
      have hA4 : AlAt 23 w4 w.heap.size ⟨L, true, R, F⟩ := below_blk hB4 HA3.out
      have hM4 : AlAt 23 w4 w2.heap.size ⟨L + b, true, R, F⟩ := below_blk hB4 HM3.out
      have hgb' : w2.heap.size < gb := by have := HM3.out.lt; omega
      have HB4 := Lib.hid (HB3.out.trans (hB4.mono HB3.out.size))
      have HA4 := Lib.hid hA4
      have HM4 := Lib.hid hM4
      have Hb4 := Lib.hid hb4
      obtain ⟨⟨d0, d1, d2, d3⟩, df⟩ := hA4.cell
      obtain ⟨⟨m0, m1, m2, m3⟩, mf⟩ := hM4.cell
      simp only at d0 d1 d2 d3 m0 m1 m2 m3
      clear hb4 hB4 hA4 hM4 HA3 HM3 HB3 hgb
      go_wp2_with fail
      refine (new_ok (L + b) R F true _ (by simpa [rightB] using HR.out)).mono ?_
      rintro e w5 ⟨gc, hgc, rfl, hc5, hB5⟩
      have hA5 : AlAt 23 w5 w.heap.size ⟨L, true, R, F⟩ := below_blk hB5 HA4.out
      have hb5 : BellAt w5 gb ⟨L, true, R, F⟩ 1 0 := below_blk hB5 Hb4.out
      have hgc' : gb < gc := by have := Hb4.out.lt; omega
      have HB5 := Lib.hid (HB4.out.trans (hB5.mono HB4.out.size))
      have HA5 := Lib.hid hA5
      have Hb5 := Lib.hid hb5
      have Hc5 := Lib.hid hc5
      clear d0 d1 d2 d3 df m0 m1 m2 m3 mf
      obtain ⟨⟨d0, d1, d2, d3⟩, df⟩ := hA5.cell
      simp only at d0 d1 d2 d3
      clear hc5 hb5 hB5 hA5 HA4 HM4 HB4 Hb4 hgc
      go_wp2_with fail
      refine (new_ok L R F true _ HR.out).mono ?_
      rintro e w6 ⟨gd, hgd, rfl, hd6, hB6⟩
      have hA6 : AlAt 23 w6 w.heap.size ⟨L, true, R, F⟩ := below_blk hB6 HA5.out
      have hb6 : BellAt w6 gb ⟨L, true, R, F⟩ 1 0 := below_blk hB6 Hb5.out
      have hc6 : BellAt w6 gc ⟨L + b, true, R, F⟩ 1 0 := below_blk hB6 Hc5.out
      have hgd' : gc < gd := by have := Hc5.out.lt; omega
      have HB6 := Lib.hid (HB5.out.trans (hB6.mono HB5.out.size))
      have HA6 := Lib.hid hA6
      have Hb6 := Lib.hid hb6
      have Hc6 := Lib.hid hc6
      have Hd6 := Lib.hid hd6
      clear d0 d1 d2 d3 df
      clear hc6 hb6 hd6 hB6 hA6 HA5 HB5 Hb5 Hc5 hgd
      have hR1 : 1 ≤ R := ((right_iff _).1 HR.out).1
      clear HR
      go_wp2_with fail
      go_loopw [91] (TRel w w.heap.size gb gc gd ⟨L, true, R, F⟩ ⟨L + b, true, R, F⟩ n) (fun i _ => n - (intOf i).toNat)
      case atStart =>
        have s0 : stB R 0 = 1 := by simp [stB]; omega
        have s1 : agB R 0 = 0 := by simp [agB]
        refine ⟨0, by omega, rfl, ?_, ?_, Hd6.out, HA6.out, HB6.out⟩
        · simp only [s0, s1]; exact Hb6.out
        · simp only [s0, s1]; exact Hc6.out
      case round =>
        obtain ⟨k, hk, rfl, hb, hc, hd, hA, hB⟩ := hrel
        clear HA6 Hb6 Hc6 Hd6 HB6
        simp only at hb hc
        by_cases hlt : k < n
        · have hgbw : w.heap.size ≤ gb := by omega
          have hgcw : w.heap.size ≤ gc := by omega
          have hgdw : w.heap.size ≤ gd := by omega
          have hsz := hB.size
          have c1 := hear_any gb L R F (stB R k) (agB R k) (L + 1) true wr hb
          rw [hear_bad ⟨L, true, R, F⟩ (L + 1) k HBD.out.1 (by omega) hR1] at c1
          simp only at c1
          have C1 := Lib.hid c1
          have Hc := Lib.hid hc
          have Hd := Lib.hid hd
          have HA := Lib.hid hA
          have HB := Lib.hid hB
          clear c1 hb hc hd hA hB
          go_wp2_with fail
          refine C1.out.mono ?_
          rintro e w7 ⟨rfl, hb7, hT7⟩
          have hc7 : BellAt w7 gc ⟨L + b, true, R, F⟩ (stB R k) (agB R k) := hT7.blk Hc.out (by omega)
          have hd7 : BellAt w7 gd ⟨L, true, R, F⟩ 1 0 := hT7.blk Hd.out (by omega)
          have hA7 : AlAt 23 w7 w.heap.size ⟨L, true, R, F⟩ := hT7.blk HA.out (by omega)
          have HB7 := Lib.hid (HB.out.trans (hT7.below hgbw hsz))
          have c2 := hear_any gc (L + b) R F (stB R k) (agB R k) (L + 1 + b) true w7 hc7
          rw [hear_bad ⟨L + b, true, R, F⟩ (L + 1 + b) k HBD.out.2.1 (by omega) hR1] at c2
          simp only at c2
          have C2 := Lib.hid c2
          have Hb7 := Lib.hid hb7
          have Hd7 := Lib.hid hd7
          have HA7 := Lib.hid hA7
          obtain ⟨⟨d0, d1, d2, d3⟩, df⟩ := hA7.cell
          simp only at d0 d1 d2 d3
          clear c2 hb7 hc7 hd7 hA7 hT7 C1 Hc Hd HA HB
          go_wp2_with fail
          refine C2.out.mono ?_
          rintro e w8 ⟨rfl, hc8, hT8⟩
          have hsz7 := HB7.out.size
          have hb8 : BellAt w8 gb ⟨L, true, R, F⟩ (stB R (k + 1)) (agB R (k + 1)) := hT8.blk Hb7.out (by omega)
          have hd8 : BellAt w8 gd ⟨L, true, R, F⟩ 1 0 := hT8.blk Hd7.out (by omega)
          have hA8 : AlAt 23 w8 w.heap.size ⟨L, true, R, F⟩ := hT8.blk HA7.out (by omega)
          have HB8 := Lib.hid (HB7.out.trans (hT8.below hgcw hsz7))
          have c3 := hear_any gd L R F 1 0 L true w8 hd8
          rw [hear_calm ⟨L, true, R, F⟩ L HBD.out.2.2] at c3
          simp only at c3
          have C3 := Lib.hid c3
          have Hb8 := Lib.hid hb8
          have Hc8 := Lib.hid hc8
          have HA8 := Lib.hid hA8
          clear d0 d1 d2 d3 df
          obtain ⟨⟨d0, d1, d2, d3⟩, df⟩ := hA8.cell
          simp only at d0 d1 d2 d3
          clear c3 hb8 hc8 hd8 hA8 hT8 C2 Hb7 Hd7 HA7 HB7
          go_wp2_with fail
          refine C3.out.mono ?_
          rintro e w9 ⟨rfl, hd9, hT9⟩
          have hsz8 := HB8.out.size
          have hb9 : BellAt w9 gb ⟨L, true, R, F⟩ (stB R (k + 1)) (agB R (k + 1)) := hT9.blk Hb8.out (by omega)
          have hc9 : BellAt w9 gc ⟨L + b, true, R, F⟩ (stB R (k + 1)) (agB R (k + 1)) := hT9.blk Hc8.out (by omega)
          have hA9 : AlAt 23 w9 w.heap.size ⟨L, true, R, F⟩ := hT9.blk HA8.out (by omega)
          have HB9 := Lib.hid (HB8.out.trans (hT9.below hgdw hsz8))
          have Hb9 := Lib.hid hb9
          have Hc9 := Lib.hid hc9
          have Hd9 := Lib.hid hd9
          have HA9 := Lib.hid hA9
          clear d0 d1 d2 d3 df hb9 hc9 hd9 hA9 hT9 C3 Hb8 Hc8 HA8 HB8
          go_wp2_with fail
          exact ⟨⟨k + 1, by omega, by go_num, Hb9.out, Hc9.out, Hd9.out, HA9.out, HB9.out⟩, by simp [intOf]; omega⟩
        · have hke : k = n := by omega
          subst hke
          clear hlt
          have HB := Lib.hid hB
          have HA := Lib.hid hA
          have hs := hA.cell
          clear hB hc hd hA
          go_wp2_with fail
          refine (state_any gb ⟨L, true, R, F⟩ (stB R k) (agB R k) _ hb).mono ?_
          rintro e w7 ⟨rfl, nq, rfl⟩
          obtain ⟨⟨d0, d1, d2, d3⟩, df⟩ := hs
          clear hb
          have hfin : (stB R k == 2) = decide (R ≤ (k : Int)) := by
            unfold stB
            by_cases h : (k : Int) < R <;> simp [h] <;> omega
          have HF := Lib.hid hfin
          clear hfin
          go_wp2_with fail
          go_ret
          exact ⟨ret_bool (by rw [HF.out]; simp), below_drewN' HB.out nq⟩
  · cases hr : rightB ⟨L, A, R, F⟩
    · clear hg hA2
      go_wp2_with fail
      refine (awake_any _).mono ?_
      rintro e w4 ⟨rfl, hB4⟩
      have HB4 := Lib.hid (HB2.out.trans (hB4.mono HB2.out.size))
      clear hB4
      go_wp2
      go_ret
      exact ⟨rfl, HB4.out⟩
    · by_cases g1 : 1152921504606846976 < L
      · clear hg hA2
        go_wp2_with fail
        refine (awake_any _).mono ?_
        rintro e w4 ⟨rfl, hB4⟩
        have HB4 := Lib.hid (HB2.out.trans (hB4.mono HB2.out.size))
        clear hB4
        go_wp2
        go_ret
        exact ⟨rfl, HB4.out⟩
      · have g2 : L < -1152921504606846976 := by
          rcases Int.lt_or_le L (-1152921504606846976) with h | h
          · exact h
          · exact absurd ⟨hr, by omega, h⟩ hg
        clear hg hA2
        go_wp2_with fail
        refine (awake_any _).mono ?_
        rintro e w4 ⟨rfl, hB4⟩
        have HB4 := Lib.hid (HB2.out.trans (hB4.mono HB2.out.size))
        clear hB4
        go_wp2
        go_ret
        exact ⟨rfl, HB4.out⟩
end Go.Proofs.Ytopcjopibblpaaa
