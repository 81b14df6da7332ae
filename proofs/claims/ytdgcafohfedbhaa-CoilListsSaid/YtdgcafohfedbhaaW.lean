import Derived.Test.YtdgcafohfedbhaaV
namespace Go.Proofs.Ytdgcafohfedbhaa
open Go.RowKit Go.Joins
set_option linter.unusedVariables false
set_option linter.unusedSimpArgs false

def TRel (W : World) (r n : Nat) (s f iv : Value) (wr : World) : Prop :=
  ∃ (i : Nat) (cs bs : List Nat) (fl : Int), i ≤ n ∧ iv = .int .i64 i ∧ s = .string (strOf cs) ∧ f = .int .i64 fl ∧ TS W wr r cs bs fl
theorem str_empty {l : List Nat} (h : l ≠ []) : (strOf l).toList ≠ [] := by
  intro e
  rw [ByteArray.toList_eq] at e
  simp [strOf] at e
  exact h e

set_option maxRecDepth 100000 in
set_option maxHeartbeats 64000000 in
theorem takes_any (v : Value) (bs0 : List Nat) (ask : List Nat) (a2 : Option Addr) (c2 : Nat) (most : Int) (w : World) (hb : Cut w w.heap.size v bs0) (hcap : ∃ a c, v = .slice a bs0.length c ∧ bs0.length ≤ c ∧ c ≤ maxLen) (ho : Oct bs0) (ha : Shows w a2 ask) (hoa : Oct ask) (hbl : ∀ ad, a2 = some ad → ad.block < w.heap.size) (hal : ask.length ≤ maxLen) :
    Calls Try.prog 4 #[v, .slice a2 ask.length c2, .int .i64 most] w fun e w' => e = .returned (.bool true) ∧ Below w.heap.size w w' := by
  have HB := Lib.hid hb
  have HA := Lib.hid (⟨ha, hoa, hbl⟩ : _ ∧ _ ∧ _)
  have HO := Lib.hid ho
  have HC := Lib.hid hcap
  obtain ⟨a, cap, rfl, hc1, hc2⟩ := hcap
  unfold maxLen at hal hc2
  clear hb ha hoa hbl ho
  go_enter Try.func4, Try.ntmps4
  go_wp2_with fail
  refine (awake_any w).mono ?_
  rintro e w1 ⟨rfl, hb1⟩
  have HB1 := Lib.hid hb1
  clear hb1
  by_cases hbig : bs0.length ≤ 300 ∧ ask.length ≤ 30
  · obtain ⟨hn1, hn2⟩ := hbig
    have HCU := Lib.hid (cut_below HB.out (Nat.le_refl _) HB1.out)
    have k1 := HCU.out.string HO.out
    go_wp2_with fail
    clear k1
    refine (open_any a cap bs0 w1 hc1 (by unfold maxLen; exact hc2) ?_ ?_).mono ?_
    · obtain ⟨a', c', e, h1, h2⟩ := HCU.out
      cases e
      exact h1
    · obtain ⟨a', c', e, h1, h2⟩ := HCU.out
      cases e
      exact fun ad e => Nat.lt_of_lt_of_le (h2 ad e) HB1.out.size
    rintro e w2 ⟨rfl, hr2, hb2⟩
    have hlt2 : w1.heap.size < w2.heap.size := by obtain ⟨_, _, h, _⟩ := hr2.ex; exact (Array.getElem?_eq_some_iff.1 h).1
    have H2 : Hid (TS w w2 w1.heap.size bs0 bs0 0) := ⟨HB1.out.trans (hb2.mono HB1.out.size), HB1.out.size, hr2, hlt2, HO.out, HO.out, hn1, hn1, fun _ => rfl⟩
    clear hr2 hb2 hlt2
    generalize w1.heap.size = r at *
    clear HB HC HCU HB1 hc1 hc2
    go_wp2_with fail
    generalize hn : ask.length = n at *
    have HN := Lib.hid hn
    clear hn
    go_loopw [7, 8, 51] (TRel w r n) (fun _ _ iv _ => n - (intOf iv).toNat)
    case atStart => exact ⟨0, bs0, bs0, 0, by omega, rfl, rfl, rfl, H2.out⟩
    case round =>
      obtain ⟨i, cs, bs, fl, hi, rfl, rfl, rfl, hS⟩ := hrel
      have HS := Lib.hid hS
      clear hS H2
      by_cases hlt : i < n
      · obtain ⟨x, hx⟩ : ∃ x, ask[i]? = some x := ⟨ask[i]'(by rw [HN.out]; exact hlt), List.getElem?_eq_getElem _⟩
        obtain ⟨g, o, rfl, hc⟩ := HA.out.1 i x hx
        have hx8 := HA.out.2.1 i x hx
        have hgw := HA.out.2.2 _ rfl
        rw [← HS.out.bel.cell (p := ⟨g, o + i, none⟩) hgw] at hc
        have i1 : (0 : Int) ≤ (i : Int) := by omega
        have i2 : (i : Int) < (n : Int) := by omega
        clear hx hgw
        have hmod : x % 4 = 0 ∨ x % 4 = 1 ∨ x % 4 = 2 ∨ x % 4 = 3 := by omega
        by_cases hfl : fl = 0
        · subst hfl
          obtain rfl : cs = bs := (HS.out.eq rfl).symm
          rcases hmod with hm | hm | hm | hm
          · as_aux_lemma =>
              have hm4 : (x : Int) % 4 = 0 := by omega
              clear hm
              have HT : Hid (∀ (w' : World), ReelAt w' r r (upS most cs 0).2.1 (upS most cs 0).2.2 → Touch r wr w' → TS w w' r (cs.drop (takeUp most cs).2.1) (upS most cs 0).2.1 (takeUp most cs).2.2) := fun w' h1 h2 => HS.out.ask (up_same most cs) (upS_oct (most := most) HS.out.ocs) (upS_len most cs 0) h1 h2
              have HV : Hid ((upS most cs 0).1 = (takeUp most cs).1) := (up_same most cs).val
              have HKL : Hid ((takeUp most cs).2.1 ≤ cs.length) := (up_same most cs).le
              have HG := Lib.hid (up_take r r cs 0 most wr HS.out.ocs (by have := HS.out.lcs; omega) HS.out.reel (Nat.le_refl r))
              have HD := Lib.hid (reftakeup_any (strOf cs) most wr (by rw [strOf_size]; have := HS.out.lcs; omega))
              rw [bsOf_strOf HS.out.ocs] at HD
              generalize upS most cs 0 = q at *
              generalize takeUp most cs = d at *
              obtain ⟨qv, qb, qf⟩ := q
              obtain ⟨dv, dk, de⟩ := d
              simp only at HT HV HKL HG HD
              obtain rfl : qv = dv := HV.out
              have HEX := Lib.hid (extract_rest cs HS.out.ocs dk HKL.out)
              have kx : (strOf cs).size = cs.length := strOf_size cs
              have hkl : dk ≤ cs.length := HKL.out
              have hkl2 : (dk : Int) ≤ (cs.length : Int) := by omega
              clear HV HKL
              go_wp2_with fail
              refine HD.out.mono ?_
              rintro e w2 ⟨rfl, rfl⟩
              go_wp2_with fail
              refine HG.out.mono ?_
              rintro e w3 ⟨rfl, hr3, ht3⟩
              have HS3 := Lib.hid (HT.out w3 hr3 ht3)
              clear hr3 ht3 HT HG HD HS
              go_wp2_with fail
              refine (fail_any r r _ _ w3 HS3.out.reel).mono ?_
              rintro e w4 ⟨rfl, rfl⟩
              go_wp2
              exact ⟨⟨i + 1, cs.drop dk, _, _, by omega, by go_num, by rw [← HEX.out, strOf_size], rfl, HS3.out⟩, by simp [intOf]; omega⟩
          · as_aux_lemma =>
              have hm4 : (x : Int) % 4 = 1 := by omega
              clear hm
              have HT : Hid (∀ (w' : World), ReelAt w' r r (intS cs 0).2.1 (intS cs 0).2.2 → Touch r wr w' → TS w w' r (cs.drop (takeInt cs).2.1) (intS cs 0).2.1 (takeInt cs).2.2) := fun w' h1 h2 => HS.out.ask (int_same cs) (intS_oct HS.out.ocs) (intS_len cs 0) h1 h2
              have HV : Hid ((intS cs 0).1 = (takeInt cs).1) := (int_same cs).val
              have HKL : Hid ((takeInt cs).2.1 ≤ cs.length) := (int_same cs).le
              have HG := Lib.hid (int_take r r cs 0 wr HS.out.ocs (by have := HS.out.lcs; omega) HS.out.reel (Nat.le_refl r))
              have HD := Lib.hid (reftakeint_any (strOf cs) wr (by rw [strOf_size]; have := HS.out.lcs; omega))
              rw [bsOf_strOf HS.out.ocs] at HD
              generalize intS cs 0 = q at *
              generalize takeInt cs = d at *
              obtain ⟨qv, qb, qf⟩ := q
              obtain ⟨dv, dk, de⟩ := d
              simp only at HT HV HKL HG HD
              obtain rfl : qv = dv := HV.out
              have HEX := Lib.hid (extract_rest cs HS.out.ocs dk HKL.out)
              have kx : (strOf cs).size = cs.length := strOf_size cs
              have hkl : dk ≤ cs.length := HKL.out
              have hkl2 : (dk : Int) ≤ (cs.length : Int) := by omega
              clear HV HKL
              go_wp2_with fail
              refine HD.out.mono ?_
              rintro e w2 ⟨rfl, rfl⟩
              go_wp2_with fail
              refine HG.out.mono ?_
              rintro e w3 ⟨rfl, hr3, ht3⟩
              have HS3 := Lib.hid (HT.out w3 hr3 ht3)
              clear hr3 ht3 HT HG HD HS
              go_wp2_with fail
              refine (fail_any r r _ _ w3 HS3.out.reel).mono ?_
              rintro e w4 ⟨rfl, rfl⟩
              go_wp2
              exact ⟨⟨i + 1, cs.drop dk, _, _, by omega, by go_num, by rw [← HEX.out, strOf_size], rfl, HS3.out⟩, by simp [intOf]; omega⟩
          · as_aux_lemma =>
              have hm4 : (x : Int) % 4 = 2 := by omega
              clear hm
              have HT : Hid (∀ (w' : World), ReelAt w' r r (textS most cs 0).2.1 (textS most cs 0).2.2 → Touch r wr w' → TS w w' r (cs.drop (takeText most cs).2.1) (textS most cs 0).2.1 (takeText most cs).2.2) := fun w' h1 h2 => HS.out.ask (text_same most cs) ((fun h => (textS_oct (most := most) h).2) HS.out.ocs) (textS_len most cs 0) h1 h2
              have HV : Hid ((textS most cs 0).1 = (takeText most cs).1) := (text_same most cs).val
              have HKL : Hid ((takeText most cs).2.1 ≤ cs.length) := (text_same most cs).le
              have HG := Lib.hid (text_take r r cs 0 most wr HS.out.ocs (by have := HS.out.lcs; omega) HS.out.reel (Nat.le_refl r))
              have HD := Lib.hid (reftaketext_any (strOf cs) most wr (by rw [strOf_size]; have := HS.out.lcs; omega))
              rw [bsOf_strOf HS.out.ocs] at HD
              generalize textS most cs 0 = q at *
              generalize takeText most cs = d at *
              obtain ⟨qv, qb, qf⟩ := q
              obtain ⟨dv, dk, de⟩ := d
              simp only at HT HV HKL HG HD
              obtain rfl : qv = dv := HV.out
              have HEX := Lib.hid (extract_rest cs HS.out.ocs dk HKL.out)
              have kx : (strOf cs).size = cs.length := strOf_size cs
              have hkl : dk ≤ cs.length := HKL.out
              have hkl2 : (dk : Int) ≤ (cs.length : Int) := by omega
              clear HV HKL
              go_wp2_with fail
              refine HD.out.mono ?_
              rintro e w2 ⟨rfl, rfl⟩
              go_wp2_with fail
              refine HG.out.mono ?_
              rintro e w3 ⟨rfl, hr3, ht3⟩
              have HS3 := Lib.hid (HT.out w3 hr3 ht3)
              clear hr3 ht3 HT HG HD HS
              go_wp2_with fail
              refine (fail_any r r _ _ w3 HS3.out.reel).mono ?_
              rintro e w4 ⟨rfl, rfl⟩
              go_wp2
              exact ⟨⟨i + 1, cs.drop dk, _, _, by omega, by go_num, by rw [← HEX.out, strOf_size], rfl, HS3.out⟩, by simp [intOf]; omega⟩
          · as_aux_lemma =>
              have hm4 : (x : Int) % 4 = 3 := by omega
              clear hm
              have HT : Hid (∀ (w' : World), ReelAt w' r r (markS cs 0).2.1 (markS cs 0).2.2 → Touch r wr w' → TS w w' r (cs.drop (takeMark cs).2.1) (markS cs 0).2.1 (takeMark cs).2.2) := fun w' h1 h2 => HS.out.ask (mark_same cs) (markS_oct HS.out.ocs) (markS_len cs 0) h1 h2
              have HV : Hid ((markS cs 0).1 = (takeMark cs).1) := (mark_same cs).val
              have HKL : Hid ((takeMark cs).2.1 ≤ cs.length) := (mark_same cs).le
              have HG := Lib.hid (mark_take r r cs 0 wr HS.out.reel (Nat.le_refl r))
              have HD := Lib.hid (reftakemark_any (strOf cs) wr (by rw [strOf_size]; have := HS.out.lcs; omega))
              rw [bsOf_strOf HS.out.ocs] at HD
              generalize markS cs 0 = q at *
              generalize takeMark cs = d at *
              obtain ⟨qv, qb, qf⟩ := q
              obtain ⟨dv, dk, de⟩ := d
              simp only at HT HV HKL HG HD
              obtain rfl : qv = dv := HV.out
              have HEX := Lib.hid (extract_rest cs HS.out.ocs dk HKL.out)
              have kx : (strOf cs).size = cs.length := strOf_size cs
              have hkl : dk ≤ cs.length := HKL.out
              have hkl2 : (dk : Int) ≤ (cs.length : Int) := by omega
              clear HV HKL
              go_wp2_with fail
              refine HD.out.mono ?_
              rintro e w2 ⟨rfl, rfl⟩
              go_wp2_with fail
              refine HG.out.mono ?_
              rintro e w3 ⟨rfl, hr3, ht3⟩
              have HS3 := Lib.hid (HT.out w3 hr3 ht3)
              clear hr3 ht3 HT HG HD HS
              go_wp2_with fail
              refine (fail_any r r _ _ w3 HS3.out.reel).mono ?_
              rintro e w4 ⟨rfl, rfl⟩
              go_wp2
              exact ⟨⟨i + 1, cs.drop dk, _, _, by omega, by go_num, by rw [← HEX.out, strOf_size], rfl, HS3.out⟩, by simp [intOf]; omega⟩
        · have hfb : (fl == 0) = false := by simpa using hfl
          have hfb2 : (fl != 0) = true := by simpa using hfl
          rcases hmod with hm | hm | hm | hm
          · as_aux_lemma =>
              have hm4 : (x : Int) % 4 = 0 := by omega
              clear hm
              have HT : Hid (∀ (w' : World), ReelAt w' r r (upS most bs fl).2.1 (upS most bs fl).2.2 → Touch r wr w' → TS w w' r cs (upS most bs fl).2.1 fl) := fun w' h1 h2 => HS.out.lost hfl (upS_lost (most := most) (bs := bs) hfl).2 (upS_oct (most := most) HS.out.obs) (upS_len most bs fl) h1 h2
              have HV : Hid ((upS most bs fl).1 = 0) := (upS_lost (most := most) (bs := bs) hfl).1
              have HG := Lib.hid (up_take r r bs fl most wr HS.out.obs (by have := HS.out.lbs; omega) HS.out.reel (Nat.le_refl r))
              have HD := Lib.hid (reftakeup_any (strOf cs) most wr (by rw [strOf_size]; have := HS.out.lcs; omega))
              rw [bsOf_strOf HS.out.ocs] at HD
              generalize upS most bs fl = q at *
              generalize takeUp most cs = d at *
              obtain ⟨qv, qb, qf⟩ := q
              obtain ⟨dv, dk, de⟩ := d
              simp only at HT HV HG HD
              obtain rfl : qv = 0 := HV.out
              clear HV
              rw [show ((0 : Nat) : Int) = 0 from rfl] at HG
              go_wp2_with fail
              refine HD.out.mono ?_
              rintro e w2 ⟨rfl, rfl⟩
              go_wp2_with fail
              refine HG.out.mono ?_
              rintro e w3 ⟨rfl, hr3, ht3⟩
              have HS3 := Lib.hid (HT.out w3 hr3 ht3)
              clear hr3 ht3 HT HG HD HS
              go_wp2_with fail
              refine (fail_any r r _ _ w3 HS3.out.reel).mono ?_
              rintro e w4 ⟨rfl, rfl⟩
              go_wp2
              exact ⟨⟨i + 1, cs, _, _, by omega, by go_num, rfl, rfl, HS3.out⟩, by simp [intOf]; omega⟩
          · as_aux_lemma =>
              have hm4 : (x : Int) % 4 = 1 := by omega
              clear hm
              have HT : Hid (∀ (w' : World), ReelAt w' r r (intS bs fl).2.1 (intS bs fl).2.2 → Touch r wr w' → TS w w' r cs (intS bs fl).2.1 fl) := fun w' h1 h2 => HS.out.lost hfl (intS_lost (bs := bs) hfl).2 (intS_oct HS.out.obs) (intS_len bs fl) h1 h2
              have HV : Hid ((intS bs fl).1 = 0) := (intS_lost (bs := bs) hfl).1
              have HG := Lib.hid (int_take r r bs fl wr HS.out.obs (by have := HS.out.lbs; omega) HS.out.reel (Nat.le_refl r))
              have HD := Lib.hid (reftakeint_any (strOf cs) wr (by rw [strOf_size]; have := HS.out.lcs; omega))
              rw [bsOf_strOf HS.out.ocs] at HD
              generalize intS bs fl = q at *
              generalize takeInt cs = d at *
              obtain ⟨qv, qb, qf⟩ := q
              obtain ⟨dv, dk, de⟩ := d
              simp only at HT HV HG HD
              obtain rfl : qv = 0 := HV.out
              clear HV
              go_wp2_with fail
              refine HD.out.mono ?_
              rintro e w2 ⟨rfl, rfl⟩
              go_wp2_with fail
              refine HG.out.mono ?_
              rintro e w3 ⟨rfl, hr3, ht3⟩
              have HS3 := Lib.hid (HT.out w3 hr3 ht3)
              clear hr3 ht3 HT HG HD HS
              go_wp2_with fail
              refine (fail_any r r _ _ w3 HS3.out.reel).mono ?_
              rintro e w4 ⟨rfl, rfl⟩
              go_wp2
              exact ⟨⟨i + 1, cs, _, _, by omega, by go_num, rfl, rfl, HS3.out⟩, by simp [intOf]; omega⟩
          · as_aux_lemma =>
              have hm4 : (x : Int) % 4 = 2 := by omega
              clear hm
              have HT : Hid (∀ (w' : World), ReelAt w' r r (textS most bs fl).2.1 (textS most bs fl).2.2 → Touch r wr w' → TS w w' r cs (textS most bs fl).2.1 fl) := fun w' h1 h2 => HS.out.lost hfl (textS_lost (most := most) (bs := bs) hfl).2 ((fun h => (textS_oct (most := most) h).2) HS.out.obs) (textS_len most bs fl) h1 h2
              have HV : Hid ((textS most bs fl).1 = []) := (textS_lost (most := most) (bs := bs) hfl).1
              have HG := Lib.hid (text_take r r bs fl most wr HS.out.obs (by have := HS.out.lbs; omega) HS.out.reel (Nat.le_refl r))
              have HD := Lib.hid (reftaketext_any (strOf cs) most wr (by rw [strOf_size]; have := HS.out.lcs; omega))
              rw [bsOf_strOf HS.out.ocs] at HD
              generalize textS most bs fl = q at *
              generalize takeText most cs = d at *
              obtain ⟨qv, qb, qf⟩ := q
              obtain ⟨dv, dk, de⟩ := d
              simp only at HT HV HG HD
              obtain rfl : qv = [] := HV.out
              clear HV
              rw [show strOf [] = ⟨#[]⟩ from rfl] at HG
              go_wp2_with fail
              refine HD.out.mono ?_
              rintro e w2 ⟨rfl, rfl⟩
              go_wp2_with fail
              refine HG.out.mono ?_
              rintro e w3 ⟨rfl, hr3, ht3⟩
              have HS3 := Lib.hid (HT.out w3 hr3 ht3)
              clear hr3 ht3 HT HG HD HS
              go_wp2_with fail
              refine (fail_any r r _ _ w3 HS3.out.reel).mono ?_
              rintro e w4 ⟨rfl, rfl⟩
              go_wp2
              exact ⟨⟨i + 1, cs, _, _, by omega, by go_num, rfl, rfl, HS3.out⟩, by simp [intOf]; omega⟩
          · as_aux_lemma =>
              have hm4 : (x : Int) % 4 = 3 := by omega
              clear hm
              have HT : Hid (∀ (w' : World), ReelAt w' r r (markS bs fl).2.1 (markS bs fl).2.2 → Touch r wr w' → TS w w' r cs (markS bs fl).2.1 fl) := fun w' h1 h2 => HS.out.lost hfl (markS_lost (bs := bs) hfl).2 (markS_oct HS.out.obs) (markS_len bs fl) h1 h2
              have HV : Hid ((markS bs fl).1 = false) := (markS_lost (bs := bs) hfl).1
              have HG := Lib.hid (mark_take r r bs fl wr HS.out.reel (Nat.le_refl r))
              have HD := Lib.hid (reftakemark_any (strOf cs) wr (by rw [strOf_size]; have := HS.out.lcs; omega))
              rw [bsOf_strOf HS.out.ocs] at HD
              generalize markS bs fl = q at *
              generalize takeMark cs = d at *
              obtain ⟨qv, qb, qf⟩ := q
              obtain ⟨dv, dk, de⟩ := d
              simp only at HT HV HG HD
              obtain rfl : qv = false := HV.out
              clear HV
              go_wp2_with fail
              refine HD.out.mono ?_
              rintro e w2 ⟨rfl, rfl⟩
              go_wp2_with fail
              refine HG.out.mono ?_
              rintro e w3 ⟨rfl, hr3, ht3⟩
              have HS3 := Lib.hid (HT.out w3 hr3 ht3)
              clear hr3 ht3 HT HG HD HS
              go_wp2_with fail
              refine (fail_any r r _ _ w3 HS3.out.reel).mono ?_
              rintro e w4 ⟨rfl, rfl⟩
              go_wp2
              exact ⟨⟨i + 1, cs, _, _, by omega, by go_num, rfl, rfl, HS3.out⟩, by simp [intOf]; omega⟩
      · by_cases hfl : fl = 0
        · subst hfl
          obtain rfl : cs = bs := (HS.out.eq rfl).symm
          have kx : (strOf cs).size = cs.length := strOf_size cs
          by_cases hne : cs = []
          · subst hne
            rw [show strOf [] = ⟨#[]⟩ from rfl]
            go_wp2_with fail
            refine (left_any r r [] 0 wr HS.out.reel).mono ?_
            rintro e w2 ⟨rfl, rfl⟩
            simp only [List.length_nil]
            go_wp2_with fail
            refine (end_any r r [] 0 w2 HS.out.reel).mono ?_
            rintro e w3 ⟨rfl, rfl⟩
            rw [show endN [] 0 = 0 from rfl]
            go_wp2
            go_ret
            exact ⟨rfl, HS.out.bel⟩
          · have hs1 := str_empty hne
            have hs2 : (strOf cs).toList.isEmpty = false := by rw [Bool.eq_false_iff]; intro h; exact hs1 (by simpa using h)
            have HEN : Hid (endN cs 0 = 2) := (if_pos ⟨rfl, List.length_pos_iff.2 hne⟩ : endN cs 0 = 2)
            go_wp2_with fail
            refine (left_any r r cs 0 wr HS.out.reel).mono ?_
            rintro e w2 ⟨rfl, rfl⟩
            go_wp2_with fail
            refine (end_any r r cs 0 w2 HS.out.reel).mono ?_
            rintro e w3 ⟨rfl, rfl⟩
            rw [HEN.out]
            go_wp2_with fail
            refine (end_any r r cs 0 w3 HS.out.reel).mono ?_
            rintro e w4 ⟨rfl, rfl⟩
            rw [HEN.out]
            go_wp2
            go_ret
            exact ⟨rfl, HS.out.bel⟩
        · have hfb : (fl == 0) = false := by simpa using hfl
          have hfb2 : (fl != 0) = true := by simpa using hfl
          have HEN : Hid (endN bs fl = fl) := (if_neg (fun h => hfl h.1) : endN bs fl = fl)
          go_wp2_with fail
          refine (end_any r r bs fl wr HS.out.reel).mono ?_
          rintro e w2 ⟨rfl, rfl⟩
          rw [HEN.out]
          go_wp2
          go_ret
          exact ⟨rfl, HS.out.bel⟩
  · have hd : ¬ bs0.length ≤ 300 ∨ (bs0.length ≤ 300 ∧ ¬ ask.length ≤ 30) := by omega
    rcases hd with h1 | ⟨h1, h2⟩
    all_goals
      go_wp2_with fail
      refine (awake_any w1).mono ?_
      rintro e w2 ⟨rfl, hb2⟩
      have HB2 := Lib.hid (HB1.out.trans (hb2.mono HB1.out.size))
      clear hb2
      go_wp2
      go_ret
      exact ⟨rfl, HB2.out⟩
end Go.Proofs.Ytdgcafohfedbhaa
