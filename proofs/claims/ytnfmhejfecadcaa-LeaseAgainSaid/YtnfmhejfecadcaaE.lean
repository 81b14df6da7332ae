import Derived.Test.YtnfmhejfecadcaaD
namespace Go.Proofs.Ytnfmhejfecadcaa
open Go.RowKit

theorem ActsAt.below {w w' : World} {a : Option Addr} {n : Nat} {x : Nat → AC} (h : ActsAt w a n x) (hb : Below w.heap.size w w') : ActsAt w' a n x := by
  have cell : ∀ p v, w.cell? p = some v → w'.cell? p = some v := by
    intro p v hc
    have hl : p.block < w.heap.size := by
      rcases Nat.lt_or_ge p.block w.heap.size with hl | hl
      · exact hl
      · unfold World.cell? at hc
        rw [Array.getElem?_eq_none hl] at hc
        cases hc
    rw [hb.cell hl]; exact hc
  intro i hi
  obtain ⟨ad, rfl, h0, h1, h2, h3⟩ := h i hi
  exact ⟨ad, rfl, cell _ _ h0, cell _ _ h1, cell _ _ h2, cell _ _ h3⟩

theorem cell_lt {w : World} {p : Addr} {v : Value} (hc : w.cell? p = some v) : p.block < w.heap.size := by
  rcases Nat.lt_or_ge p.block w.heap.size with hl | hl
  · exact hl
  · unfold World.cell? at hc
    rw [Array.getElem?_eq_none hl] at hc
    cases hc
theorem ActsAt.lt {w : World} {a : Option Addr} {n : Nat} {x : Nat → AC} (h : ActsAt w a n x) (hn : 0 < n) (ad : Addr) (ha : a = some ad) : ad.block < w.heap.size := by
  obtain ⟨ad', h0, h1, _⟩ := h 0 hn
  rw [ha] at h0
  injection h0 with h0
  subst h0
  have := cell_lt h1
  rwa [add_block] at this

set_option maxHeartbeats 4000000 in
theorem plays_any (t : Int) (a : Option Addr) (n c : Nat) (x : Nat → AC) (w : World) (hA : ActsAt w a n x) :
    Calls Try.prog 3 #[.int .i64 t, .slice a n c] w fun e w' => e = .returned (.bool true) ∧ Below w.heap.size w w' := by
  have HA := Lib.hid hA
  have HG := Lib.hid hA.lt
  clear hA
  go_enter Try.func3, Try.ntmps3
  go_wp2_with fail
  refine (awake_any _).mono ?_
  rintro e w1 ⟨rfl, hB1⟩
  have HB1 := Lib.hid hB1
  clear hB1
  by_cases hn : n ≤ 100
  · go_wp2_with fail
    by_cases ht : 1 ≤ t ∧ t ≤ 1000
    · obtain ⟨t1, t2⟩ := ht
      refine (new_ok t _ t1 t2).mono ?_
      rintro e w2 ⟨rfl, hL2, hB2⟩
      go_wp2_with fail
      refine (play_any _ 0 0 0 false t a n c x w2 hL2 ((HA.out.below HB1.out).below hB2) hn ?hg).mono ?_
      case hg =>
        intro hn0 ad h
        have h1 := HG.out hn0 ad h
        have h2 := HB1.out.size
        omega
      rintro e w3 ⟨rfl, hT3⟩
      go_wp2
      go_ret
      exact ⟨rfl, (HB1.out.trans (hB2.mono HB1.out.size)).trans (hT3.below HB1.out.size (Nat.le_trans HB1.out.size hB2.size))⟩
    · refine (new_no t _ ht).mono ?_
      rintro e w2 ⟨rfl, rfl⟩
      by_cases h1 : t < 1
      · clear ht
        go_wp2
        go_ret
        exact ⟨rfl, HB1.out⟩
      · have h2 : 1000 < t := by omega
        clear ht
        go_wp2
        go_ret
        exact ⟨rfl, HB1.out⟩
  · go_wp2_with fail
    refine (awake_any _).mono ?_
    rintro e w2 ⟨rfl, hB2⟩
    go_wp2
    go_ret
    exact ⟨rfl, HB1.out.trans (hB2.mono HB1.out.size)⟩

set_option maxHeartbeats 4000000 in
theorem loads_any (t E H U : Int) (S : Bool) (a : Option Addr) (n c : Nat) (x : Nat → AC) (w : World) (h1 : 0 ≤ t) (h2 : t ≤ 255) (hA : ActsAt w a n x) :
    Calls Try.prog 6 #[.int .u8 t, .agg #[.int .i64 E, .int .i64 H, .int .i64 U, .bool S], .slice a n c] w fun e w' => e = .returned (.bool true) ∧ Below w.heap.size w w' := by
  have HA := Lib.hid hA
  have HG := Lib.hid hA.lt
  clear hA
  go_enter Try.func6, Try.ntmps6
  go_wp2_with fail
  have hS0 := StB.new w E H U S
  have hB0 := (Below.refl w.heap.size w).alloc (Nat.le_refl _) (.cells #[.int .i64 E, .int .i64 H, .int .i64 U, .bool S] 42)
  refine (awake_any _).mono ?_
  rintro e w1 ⟨rfl, hB1⟩
  have hS1 : StB w1 w.heap.size ⟨E, H, U, S⟩ := below_blk hB1 hS0
  have HB1 := Lib.hid (hB0.trans (hB1.mono (by simp)))
  clear hB1 hB0 hS0
  obtain ⟨⟨d0, d1, d2, d3⟩, df⟩ := hS1.cell
  simp only at d0 d1 d2 d3
  by_cases hn : n ≤ 100
  · go_wp2_with fail
    cases hr : RightL E H U S
    · refine (load_no (1 + t) E H U S _ (by omega) (by omega) hr).mono ?_
      rintro e w2 ⟨rfl, hB2⟩
      have hS2 : StB w2 w.heap.size ⟨E, H, U, S⟩ := below_blk hB2 hS1
      clear d0 d1 d2 d3 df
      obtain ⟨⟨d0, d1, d2, d3⟩, df⟩ := hS2.cell
      simp only at d0 d1 d2 d3
      go_wp2_with fail
      refine (rightL_any E H U S _).mono ?_
      rintro e w3 ⟨rfl, hB3⟩
      rw [hr]
      go_wp2
      go_ret
      exact ⟨rfl, (HB1.out.trans (hB2.mono HB1.out.size)).trans (hB3.mono (Nat.le_trans HB1.out.size hB2.size))⟩
    · refine (load_yes (1 + t) E H U S _ (by omega) (by omega) hr).mono ?_
      rintro e w2 ⟨g, hg, rfl, hL2, hB2⟩
      have hS2 : StB w2 w.heap.size ⟨E, H, U, S⟩ := below_blk hB2 hS1
      clear d0 d1 d2 d3 df
      obtain ⟨⟨d0, d1, d2, d3⟩, df⟩ := hS2.cell
      simp only at d0 d1 d2 d3
      go_wp2_with fail
      refine (rightL_any E H U S _).mono ?_
      rintro e w3 ⟨rfl, hB3⟩
      rw [hr]
      have hS3 : StB w3 w.heap.size ⟨E, H, U, S⟩ := below_blk hB3 hS2
      have hL3 : LeaseAt w3 g ⟨E, H, U, S⟩ (1 + t) := below_blk hB3 hL2
      have hA3 : ActsAt w3 a n x := ((HA.out.below HB1.out).below (hB2.mono (Nat.le_refl _))).below hB3
      have hB3' : Below w.heap.size w w3 := (HB1.out.trans (hB2.mono HB1.out.size)).trans (hB3.mono (Nat.le_trans HB1.out.size hB2.size))
      have hgw : w.heap.size ≤ g := Nat.le_trans HB1.out.size hg
      have hag : 0 < n → ∀ ad, a = some ad → ad.block ≠ g := fun hn0 ad h => by have := HG.out hn0 ad h; omega
      clear d0 d1 d2 d3 df hS2 hL2 hB2 hB3 HB1 hS1 hg HA HG
      obtain ⟨⟨d0, d1, d2, d3⟩, df⟩ := hS3.cell
      simp only at d0 d1 d2 d3
      have HS := Lib.hid hS3
      have HL := Lib.hid hL3
      have HAA := Lib.hid hA3
      have HG := Lib.hid hag
      clear hS3 hL3 hA3 hag
      go_wp2_with fail
      go_region_with (first
        | (go_at_call 15; refine (state_any g ⟨E, H, U, S⟩ (1 + t) _ (by exact HL.out)).mono ?_; rintro e w6 ⟨rfl, hB6⟩; have hS6 : StB w6 w.heap.size ⟨E, H, U, S⟩ := below_blk hB6 HS.out; obtain ⟨⟨q0, q1, q2, q3⟩, qf⟩ := hS6.cell; simp only at q0 q1 q2 q3)
        | (go_at_call 9; refine (play_any g E H U S (1 + t) a n c x _ (by exact below_blk hB6 HL.out) (ActsAt.below (by exact HAA.out) hB6) hn HG.out).mono ?_; rintro e w7 ⟨rfl, hT7⟩))
      all_goals go_wp2
      all_goals go_ret
      all_goals exact ⟨rfl, (hB3'.drew.trans (hB6.mono hB3'.size)).trans (hT7.below hgw (Nat.le_trans hB3'.size hB6.size))⟩
  · go_wp2_with fail
    refine (awake_any _).mono ?_
    rintro e w2 ⟨rfl, hB2⟩
    go_wp2
    go_ret
    exact ⟨rfl, HB1.out.trans (hB2.mono HB1.out.size)⟩
end Go.Proofs.Ytnfmhejfecadcaa
