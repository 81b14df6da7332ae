import Derived.Test.YtopcjopibblpaaaJ
namespace Go.Proofs.Ytopcjopibblpaaa
open Go.RowKit

theorem hear_step (g : Nat) (L R F : Int) (A : Bool) (z : Nat → Int) (i : Nat) (w : World) (hi : i ≤ 1000) (hR : 1 ≤ R) (hF : 1 ≤ F)
    (h : BellAt w g ⟨L, A, R, F⟩ (stI (rs ⟨L, A, R, F⟩ z i).r) ((rs ⟨L, A, R, F⟩ z i).ag : Int)) :
    Calls Try.prog 10 #[.pointer (some ⟨g, 0, none⟩), .int .i64 (z i)] w fun e w' =>
      e = .returned (.bool (turned ⟨L, A, R, F⟩ z i)) ∧ BellAt w' g ⟨L, A, R, F⟩ (stI (rs ⟨L, A, R, F⟩ z (i + 1)).r) ((rs ⟨L, A, R, F⟩ z (i + 1)).ag : Int) ∧ Touch g w w' := by
  have c := hear_any g L R F _ _ (z i) A w h
  rw [hear_rs ⟨L, A, R, F⟩ z i hi hR hF] at c
  exact c

theorem own_last {w : World} {B : Nat} {v : Value} {l : List Nat} {x : Nat} (h : w.ownsRow B 3 1 v (l ++ [x]).length (ints (l ++ [x]))) :
    ∃ g2 cap, v = .slice (some ⟨g2, 0, none⟩) (l.length + 1) cap ∧ w.cell? ⟨g2, l.length, none⟩ = some (.int .i64 (x : Int)) := by
  obtain ⟨g2, cap, rfl, _⟩ := h.form (by simp)
  refine ⟨g2, cap, by simp, ?_⟩
  rw [h.cellAt l.length (by simp)]
  simp [ints]
theorem own_none {w : World} {B : Nat} {v : Value} (h : w.ownsRow B 3 1 v ([] : List Nat).length (ints [])) : ∃ ao cap, v = .slice ao 0 cap := by
  rcases h.2 with ⟨rfl, _⟩ | ⟨g, cap, cur, rfl, _⟩
  · exact ⟨none, 0, rfl⟩
  · exact ⟨_, cap, rfl⟩
theorem last_rs (a : AL) (z : Nat → Int) (i : Nat) {o : List Nat} (h : (rs a z (i + 1)).out = o) :
    (o = [] ∧ turned a z i = false) ∨ (∃ l x, o = l ++ [x] ∧ x ≤ i ∧ turned a z i = decide (x = i)) := by
  have hl := last_turn a z i
  rw [h] at hl
  rcases hl with ⟨ht, l, e⟩ | ⟨ht, hx⟩
  · exact .inr ⟨l, i, e, Nat.le_refl _, by simp [ht]⟩
  · rcases List.eq_nil_or_concat o with e | ⟨l, x, e⟩
    · exact .inl ⟨e, ht⟩
    · have hxi := hx x (by rw [e]; simp)
      have hne : ¬ x = i := by omega
      exact .inr ⟨l, x, by simpa using e, by omega, by rw [ht]; simp [hne]⟩
theorem st_rs (a : AL) (z : Nat → Int) (i : Nat) {o : List Nat} {st : Int} (h : (rs a z i).out = o) (hs : stI (rs a z i).r = st) : st = 1 + ((o.length % 2 : Nat) : Int) := by
  have hf := (rs_facts a z i).2.2.2.2
  rw [← hs, hf, h]
  unfold stI
  rcases Nat.mod_two_eq_zero_or_one o.length with e | e <;> simp [e]

def HeldH (w0 W : World) (b : Nat) (a : AL) (g : Nat) (st ag : Int) : Prop :=
  W.cell? ⟨b, 0, none⟩ = some (.int .i64 a.L) ∧ W.cell? ⟨b, 1, none⟩ = some (.bool a.A) ∧ W.cell? ⟨b, 2, none⟩ = some (.int .i64 a.R) ∧ W.cell? ⟨b, 3, none⟩ = some (.int .i64 a.F) ∧ AlAt 26 W b a ∧ BellAt W g a st ag ∧ Below w0.heap.size w0 W
theorem HeldH.of {w0 W : World} {b : Nat} {a : AL} {g : Nat} {st ag : Int} (h : AlAt 26 W b a) (hb : BellAt W g a st ag) (hB : Below w0.heap.size w0 W) : HeldH w0 W b a g st ag := by
  obtain ⟨⟨c0, c1, c2, c3⟩, _⟩ := h.cell
  exact ⟨c0, c1, c2, c3, h, hb, hB⟩
theorem HeldH.keep {w0 W W' : World} {b : Nat} {a : AL} {g : Nat} {st ag : Int} (h : HeldH w0 W b a g st ag) (hB : Below W.heap.size W W') : HeldH w0 W' b a g st ag :=
  HeldH.of (below_blk hB h.2.2.2.2.1) (below_blk hB h.2.2.2.2.2.1) (h.2.2.2.2.2.2.trans (hB.mono h.2.2.2.2.2.2.size))

def HRel (w : World) (a : AL) (z : Nat → Int) (n g b5 : Nat) (iv : Value) (wr : World) : Prop :=
  ∃ i : Nat, i ≤ n ∧ iv = .int .i64 i ∧ BellAt wr g a (stI (rs a z i).r) ((rs a z i).ag : Int) ∧ AlAt 26 wr b5 a ∧ Below w.heap.size w wr

set_option maxRecDepth 100000 in
set_option maxHeartbeats 16000000 in
theorem hears_any (L R F : Int) (A : Bool) (a : Option Addr) (n c : Nat) (z : Nat → Int) (w : World) (hc : n ≤ c) (hcm : c ≤ maxLen) (hS : SumsAt w a n z) :
    Calls Try.prog 3 #[.agg #[.int .i64 L, .bool A, .int .i64 R, .int .i64 F], .slice a n c] w fun e w' => e = .returned (.bool true) ∧ Below w.heap.size w w' := by
  unfold maxLen at hcm
  have HS := Lib.hid hS
  clear hS
  have hA := AlAt.new 23 w L R F A
  have hB0 := (Below.refl w.heap.size w).alloc (Nat.le_refl _) (.cells #[.int .i64 L, .bool A, .int .i64 R, .int .i64 F] 23)
  have H0 : Hid (AlAt 23 _ w.heap.size ⟨L, A, R, F⟩ ∧ Below w.heap.size w _) := ⟨hA, hB0⟩
  clear hA hB0
  go_enter Try.func3, Try.ntmps3
  go_wp2_with fail
  refine (awake_any _).mono ?_
  rintro e w1 ⟨rfl, hB1⟩
  have hA1 : AlAt 23 w1 w.heap.size ⟨L, A, R, F⟩ := below_blk hB1 H0.out.1
  have HB1 := Lib.hid (H0.out.2.trans (hB1.mono (by simp)))
  have HA1 := Lib.hid hA1
  obtain ⟨⟨d0, d1, d2, d3⟩, df⟩ := hA1.cell
  simp only at d0 d1 d2 d3
  clear hB1 hA1 H0
  by_cases hn : n ≤ 80
  · have hA2 := AlAt.new 26 w1 L R F A
    have hA23 : AlAt 23 (w1.alloc (.cells #[.int .i64 L, .bool A, .int .i64 R, .int .i64 F] 26)) w.heap.size ⟨L, A, R, F⟩ := below_blk ((Below.refl _ w1).alloc (Nat.le_refl _) _) HA1.out
    have H2 : Hid (AlAt 26 (w1.alloc (.cells #[.int .i64 L, .bool A, .int .i64 R, .int .i64 F] 26)) w1.heap.size ⟨L, A, R, F⟩ ∧ AlAt 23 (w1.alloc (.cells #[.int .i64 L, .bool A, .int .i64 R, .int .i64 F] 26)) w.heap.size ⟨L, A, R, F⟩ ∧ Below w.heap.size w (w1.alloc (.cells #[.int .i64 L, .bool A, .int .i64 R, .int .i64 F] 26))) :=
      ⟨hA2, hA23, HB1.out.alloc HB1.out.size _⟩
    obtain ⟨⟨e0, e1, e2, e3⟩, ef⟩ := hA23.cell
    simp only at e0 e1 e2 e3
    clear hA2 hA23
    cases hr : rightB ⟨L, A, R, F⟩
    · have HR := Lib.hid hr
      clear hr
      go_wp2_with fail
      refine (new_no L R F A _ HR.out).mono ?_
      rintro e w2 ⟨rfl, hB2⟩
      have hA26 : AlAt 26 w2 w1.heap.size ⟨L, A, R, F⟩ := below_blk hB2 H2.out.1
      have HB2 := Lib.hid (H2.out.2.2.trans (hB2.mono H2.out.2.2.size))
      clear d0 d1 d2 d3 df e0 e1 e2 e3 ef hB2
      obtain ⟨⟨d0, d1, d2, d3⟩, df⟩ := hA26.cell
      simp only at d0 d1 d2 d3
      clear hA26
      go_wp2_with fail
      refine (rightR_any L R F A _).mono ?_
      rintro e w3 ⟨rfl, hB3⟩
      rw [HR.out]
      have HB3 := Lib.hid (HB2.out.trans (hB3.mono HB2.out.size))
      clear hB3
      go_wp2
      go_ret
      exact ⟨rfl, HB3.out⟩
    · have HR := Lib.hid hr
      have hRF := (right_iff _).1 hr
      simp only at hRF
      have hR1 := hRF.1
      have hF1 := hRF.2.2.1
      clear hr hRF
      go_wp2_with fail
      refine (new_ok L R F A _ HR.out).mono ?_
      rintro e w2 ⟨g, hg, rfl, hb2, hB2⟩
      have hA26 : AlAt 26 w2 w1.heap.size ⟨L, A, R, F⟩ := below_blk hB2 H2.out.1
      have hgne : w1.heap.size < g := by have := H2.out.1.lt; omega
      have hgw : w.heap.size ≤ g := by have := HB1.out.size; omega
      have Hb2 := Lib.hid hb2
      have HB2 := Lib.hid (H2.out.2.2.trans (hB2.mono H2.out.2.2.size))
      clear d0 d1 d2 d3 df e0 e1 e2 e3 ef hB2 hb2 hg
      obtain ⟨⟨d0, d1, d2, d3⟩, df⟩ := hA26.cell
      simp only at d0 d1 d2 d3
      have HA2 := Lib.hid hA26
      clear hA26
      go_wp2_with fail
      refine (rightR_any L R F A _).mono ?_
      rintro e w3 ⟨rfl, hB3⟩
      rw [HR.out]
      have HI : Hid (BellAt w3 g ⟨L, A, R, F⟩ 1 0 ∧ AlAt 26 w3 w1.heap.size ⟨L, A, R, F⟩ ∧ Below w.heap.size w w3) := ⟨below_blk hB3 Hb2.out, below_blk hB3 HA2.out, HB2.out.trans (hB3.mono HB2.out.size)⟩
      clear hB3 Hb2 HB2 HA2 d0 d1 d2 d3 df HB1 HA1 H2
      generalize w1.heap.size = b5 at hgne HI ⊢
      go_wp2_with fail
      go_loopw [47] (HRel w ⟨L, A, R, F⟩ z n g b5) (fun i _ => n - (intOf i).toNat)
      case atStart => exact ⟨0, by omega, rfl, HI.out.1, HI.out.2.1, HI.out.2.2⟩
      case round =>
        obtain ⟨i, hi, rfl, hb, hA, hB⟩ := hrel
        clear HI
        by_cases hlt : i < n
        · obtain ⟨ad, had, z0⟩ := (HS.out.below hB) i hlt
          subst had
          have HJ := Lib.hid (⟨hb, hA, hB⟩ : BellAt _ g _ _ _ ∧ AlAt 26 _ b5 ⟨L, A, R, F⟩ ∧ Below w.heap.size w _)
          clear hb hA hB
          go_wp2_with fail
          refine (hear_step g L R F A z i _ (by omega) hR1 hF1 HJ.out.1).mono ?_
          rintro e w4 ⟨rfl, hb4, hT4⟩
          have HK : Hid (BellAt w4 g ⟨L, A, R, F⟩ (stI (rs ⟨L, A, R, F⟩ z (i + 1)).r) ((rs ⟨L, A, R, F⟩ z (i + 1)).ag : Int) ∧ AlAt 26 w4 b5 ⟨L, A, R, F⟩ ∧ Below w.heap.size w w4) :=
            ⟨hb4, hT4.blk HJ.out.2.1 (by omega), HJ.out.2.2.trans (hT4.below hgw HJ.out.2.2.size)⟩
          clear hb4 hT4 HJ z0
          obtain ⟨⟨d0, d1, d2, d3⟩, df⟩ := HK.out.2.1.cell
          simp only at d0 d1 d2 d3
          have j1 : (0 : Int) ≤ (i : Int) + 1 := by omega
          have j2 : (i : Int) + 1 ≤ (c : Int) := by omega
          have j3 : ((i : Int) + 1).toNat = i + 1 := by omega
          have j4 : IntKind.i64.wrap ((i : Int) + 1) = (i : Int) + 1 := by simp [IntKind.wrap_i64]; omega
          have HS4 : Hid (SumsAt w4 (some ad) (i + 1) z) := fun k hk => (HS.out.below HK.out.2.2) k (by omega)
          go_wp2_with fail
          generalize hst : stI (rs ⟨L, A, R, F⟩ z (i + 1)).r = st at HK ⊢
          generalize hag : ((rs ⟨L, A, R, F⟩ z (i + 1)).ag : Int) = ag at HK ⊢
          have HST := Lib.hid hst
          have HAG := Lib.hid hag
          clear hst hag
          go_region_held3 (fun w' => w'.cell? ⟨b5, 0, none⟩ = some (.int .i64 L) ∧ w'.cell? ⟨b5, 1, none⟩ = some (.bool A) ∧ w'.cell? ⟨b5, 2, none⟩ = some (.int .i64 R) ∧ w'.cell? ⟨b5, 3, none⟩ = some (.int .i64 F) ∧ AlAt 26 w' b5 ⟨L, A, R, F⟩ ∧ BellAt w' g ⟨L, A, R, F⟩ st ag ∧ Below w4.heap.size w4 w')
            (first | exact (HeldH.of (W := w4.drew) HK.out.2.1 HK.out.1 (Below.refl _ _).drew : HeldH w4 _ b5 ⟨L, A, R, F⟩ g st ag) | exact (HeldH.keep (w0 := w4) (b := b5) (a := ⟨L, A, R, F⟩) (g := g) (st := st) (ag := ag) (by assumption) hB1 : HeldH w4 _ b5 ⟨L, A, R, F⟩ g st ag))
            (first | (go_at_call 11; refine (turnsR_any L R F A (some ad) (i + 1) c z w4.drew (by omega) HS4.out).mono ?_; rintro e w5 ⟨v, rfl, ho, hB1⟩))
          rw [HAG.out]
          have HM : Hid (BellAt w5 g ⟨L, A, R, F⟩ st ag ∧ AlAt 26 w5 b5 ⟨L, A, R, F⟩ ∧ Below w.heap.size w w5) :=
            ⟨below_blk (w := w4.drew) hB1 HK.out.1, below_blk (w := w4.drew) hB1 HK.out.2.1, HK.out.2.2.drew.trans (hB1.mono HK.out.2.2.size)⟩
          clear hB1 d0 d1 d2 d3 df HK j1 j2 j3 j4
          have HO := Lib.hid ho
          clear ho
          generalize hout : (rs ⟨L, A, R, F⟩ z (i + 1)).out = o at HO
          have hst2 := st_rs ⟨L, A, R, F⟩ z (i + 1) hout HST.out
          have hol : o.length ≤ 81 := by rw [← hout]; have := (rs_facts ⟨L, A, R, F⟩ z (i + 1)).2.2.1; omega
          rcases last_rs ⟨L, A, R, F⟩ z i hout with ⟨rfl, ht⟩ | ⟨l, x, rfl, hx, ht⟩
          · obtain ⟨ao, cap, rfl⟩ := own_none HO.out
            have hst3 : st = 1 := by simpa using hst2
            subst hst3
            rw [ht]
            have HZ : Hid (stI (rs ⟨L, A, R, F⟩ z (i + 1)).r = 1 ∧ ((rs ⟨L, A, R, F⟩ z (i + 1)).ag : Int) = ag) := ⟨HST.out, HAG.out⟩
            clear ht hst2 hout HO HST HAG hol
            go_wp2_with fail
            refine (state_any g _ 1 ag w5 HM.out.1).mono ?_
            rintro e w6 ⟨rfl, nd, rfl⟩
            go_wp2
            refine ⟨⟨i + 1, by omega, by go_num, ?_, HM.out.2.1, below_drewN' HM.out.2.2 _⟩, by simp [intOf]; omega⟩
            rw [HZ.out.1, HZ.out.2]; exact HM.out.1
          · obtain ⟨g2, cap, rfl, hcell⟩ := own_last HO.out
            rw [ht]
            have HZ : Hid (stI (rs ⟨L, A, R, F⟩ z (i + 1)).r = st ∧ ((rs ⟨L, A, R, F⟩ z (i + 1)).ag : Int) = ag) := ⟨HST.out, HAG.out⟩
            simp only [List.length_append, List.length_singleton] at hst2 hol
            clear ht hout HO HST HAG
            generalize l.length = q at hst2 hol hcell ⊢
            have hd : ((x : Int) == (i : Int)) = decide (x = i) := by
              by_cases hxi : x = i
              · simp [hxi]
              · simp [hxi]; omega
            rcases Nat.mod_two_eq_zero_or_one (q + 1) with hq | hq
            all_goals
              rw [hq] at hst2
              have hq2 : ((q : Int) + 1) % 2 = (((q + 1) % 2 : Nat) : Int) := by omega
              have hq3 : Int.tmod ((q : Int) + 1) 2 = (((q + 1) % 2 : Nat) : Int) := by rw [Int.tmod_eq_emod_of_nonneg (by omega)]; exact hq2
              rw [hq] at hq2 hq3
              simp only [Int.natCast_zero, Int.natCast_one] at hst2 hq2 hq3
              go_wp2_with fail
              refine (state_any g _ st ag w5 HM.out.1).mono ?_
              rintro e w6 ⟨rfl, nd, rfl⟩
              clear hd hcell
              generalize decide (x = i) = lst
              subst hst2
              cases lst
              all_goals
                go_wp2
                refine ⟨⟨i + 1, by omega, by go_num, ?_, HM.out.2.1, below_drewN' HM.out.2.2 _⟩, by simp [intOf]; omega⟩
                rw [HZ.out.1, HZ.out.2]; exact HM.out.1
        · have hin : i = n := by omega
          subst hin
          have HJ := Lib.hid hB
          clear hb hA hB
          go_wp2
          go_ret
          exact ⟨rfl, HJ.out⟩
  · go_wp2_with fail
    refine (awake_any _).mono ?_
    rintro e w2 ⟨rfl, hB2⟩
    have HB2 := Lib.hid (HB1.out.trans (hB2.mono HB1.out.size))
    clear hB2
    go_wp2
    go_ret
    exact ⟨rfl, HB2.out⟩
end Go.Proofs.Ytopcjopibblpaaa
