import Derived.Test.YtdgcafohfedbhaaDoorPJ
namespace Go.Proofs.YtdgcafohfedbhaaDoor.K
open Go.RowKit Go.Joins
set_option linter.unusedVariables false

/-- what is left behind a number -/
def rest (bs : List Nat) : List Nat := if (scan bs 0 0).1 = 0 then bs.drop (scan bs 0 0).2.2 else bs

set_option maxRecDepth 100000 in
set_option maxHeartbeats 8000000 in
theorem take_number (B r : Nat) (bs : List Nat) (w : World) (hb8 : ∀ (i x : Nat), bs[i]? = some x → x < 256) (hlen : bs.length ≤ 1000000) (h : ReelAt w B r bs 0) (hr : B ≤ r) :
    Calls Tryd.prog 35 #[.pointer (some ⟨r, 0, none⟩)] w fun e w' => e = .returned (.int .u64 ((scan bs 0 0).2.1 : Nat)) ∧ ReelAt w' B r (rest bs) (scan bs 0 0).1 ∧ Touch r w w' := by
  have H := Lib.hid h
  obtain ⟨a, cap, hb, h1, h2, h3, h4⟩ := h.ex
  have c0 : w.cell? ⟨r, 0, none⟩ = some (.slice a bs.length cap) := by simp [World.cell?, hb]
  have c1 : w.cell? ⟨r, 1, none⟩ = some (.int .i64 0) := by simp [World.cell?, hb]
  have f0 : w.frozen? ⟨r, 0, none⟩ = false := by simp [World.frozen?, hb]
  have HX := Lib.hid (⟨hb, h1, h2, h3, h4⟩ : _ ∧ _ ∧ _ ∧ _ ∧ _)
  clear hb h2 h3 h4 h
  go_enter Tryd.func35, Tryd.ntmps35
  go_wp2_with fail
  go_loopw [3, 11] (fun acc iv wr => wr = w ∧ ∃ i k : Nat, i ≤ bs.length ∧ i ≤ 9 ∧ iv = .int .i64 i ∧ acc = .int .u64 (k : Int) ∧ k < 128 ^ i ∧ scan bs 0 0 = scan (bs.drop i) i k) (fun _ iv _ => bs.length - (intOf iv).toNat)
  case atStart => exact ⟨rfl, 0, 0, by omega, by omega, rfl, rfl, by simp, by simp⟩
  case round =>
    obtain ⟨rfl, i, k, hi, hi9, rfl, rfl, hk, hs⟩ := hrel
    by_cases hlt : i < bs.length
    · have hx : bs[i]? = some bs[i] := by simp [hlt]
      have hx8 := hb8 i _ hx
      obtain ⟨g, o, rfl, hc⟩ := HX.out.2.2.2.1 i _ hx
      rw [scan_drop bs i k _ hx] at hs
      generalize bs[i] = x at *
      have HSC := Lib.hid hs
      clear hs hx
      by_cases hbad : (i = 0 ∧ x = 128) ∨ i = 9
      · have hsc := HSC.out
        rw [if_pos hbad] at hsc
        have HE := Lib.hid hsc
        clear hsc HSC
        have i1 : (0 : Int) ≤ (i : Int) := by omega
        have i2 : (i : Int) < (bs.length : Int) := by omega
        have fin : ∀ w2 : World, ReelAt w2 B r bs 2 → Touch r wr w2 → (Ending.returned (.int .u64 0) = .returned (.int .u64 ((scan bs 0 0).2.1 : Nat)) ∧ ReelAt w2 B r (rest bs) (scan bs 0 0).1 ∧ Touch r wr w2) := fun w2 q1 q2 => by
          rw [show rest bs = bs by unfold rest; rw [HE.out]; rfl, HE.out]
          exact ⟨rfl, q1, q2⟩
        have FIN := Lib.hid fin
        clear fin
        rcases hbad with ⟨rfl, rfl⟩ | rfl
        all_goals
          try simp only [Nat.add_zero] at hc
          go_wp2_with fail
          refine (lose_first B r bs 2 wr H.out hr).mono ?_
          rintro e w2 ⟨rfl, q1, q2⟩
          have HQ := Lib.hid (⟨q1, q2⟩ : _ ∧ _)
          clear q1 q2
          go_wp2
          go_ret
          exact FIN.out _ HQ.out.1 HQ.out.2
      · have hsc := HSC.out
        rw [if_neg hbad] at hsc
        have HE := Lib.hid hsc
        clear hsc HSC
        have i1 : (0 : Int) ≤ (i : Int) := by omega
        have i2 : (i : Int) < (bs.length : Int) := by omega
        have i9 : i ≤ 8 := by omega
        have hk8 : k < 72057594037927936 := Nat.lt_of_lt_of_le hk (by have := Nat.pow_le_pow_right (n := 128) (by decide) i9; simpa using this)
        have hand := and127_8 x hx8
        have hd : x % 128 < 128 := Nat.mod_lt _ (by decide)
        have hor := or_low k (x % 128) hk8 hd
        have HK := Lib.hid hk
        have b1 : (((i : Int) == 0) && ((x : Int) == 128)) = false := by
          by_cases e1 : i = 0
          · have : ¬ x = 128 := fun e => hbad (.inl ⟨e1, e⟩)
            simp [e1]; omega
          · simp [e1]
        have b2 : ((i : Int) == 9) = false := by simp; omega
        have HNB : Hid (i = 0 → ¬ x = 128) := fun e1 e2 => hbad (.inl ⟨e1, e2⟩)
        clear hk hbad
        have HHD : Hid (x % 128 < 128) := hd
        generalize hdd : x % 128 = d at *
        have HDD := Lib.hid hdd
        clear hdd hd
        have hwd : IntKind.u64.wrap (d : Int) = (d : Int) := by have := HHD.out; rw [IntKind.wrap_u64]; omega
        have hor2 : bits .or .u64 ((k : Int) * 128) (d : Int) = (k : Int) * 128 + (d : Int) := by simpa using hor
        clear hor
        by_cases hlow : x < 128
        · have hl1 : (x : Int) < 128 := by omega
          have HE2 : Hid (scan bs 0 0 = (0, k * 128 + d, i + 1)) := (by rw [HE.out, if_pos hlow] : scan bs 0 0 = (0, k * 128 + d, i + 1))
          have FIN : Hid (∀ (a' : Option Addr) (cap' : Nat), bs.length - (i + 1) ≤ cap' → cap' ≤ maxLen → Shows wr a' (bs.drop (i + 1)) → (∀ ad, a' = some ad → ad.block < B) →
              (Ending.returned (.int .u64 ((k : Int) * 128 + (d : Int))) = .returned (.int .u64 ((scan bs 0 0).2.1 : Nat)) ∧ ReelAt (wr.setCell ⟨r, 0, none⟩ (.slice a' (bs.length - (i + 1)) cap')) B r (rest bs) (scan bs 0 0).1 ∧ Touch r wr (wr.setCell ⟨r, 0, none⟩ (.slice a' (bs.length - (i + 1)) cap')))) := fun a' cap' q1 q2 q3 q4 => by
            rw [show rest bs = bs.drop (i + 1) by unfold rest; rw [HE2.out]; rfl, HE2.out]
            have hbk := block_setCell (i := 0) HX.out.1 (.slice a' (bs.length - (i + 1)) cap')
            refine ⟨by simp, ⟨a', cap', ?_, by rw [List.length_drop]; exact q1, q2, q3.set q4 hr 0 _, q4⟩, (Touch.refl r wr).set_ 0 _⟩
            rw [List.length_drop]
            simpa using hbk
          have SH : Hid (Shows wr (some ⟨g, o + (i + 1), none⟩) (bs.drop (i + 1))) := fun j y hy => by
            rw [List.getElem?_drop] at hy
            obtain ⟨g', o', e, hc'⟩ := HX.out.2.2.2.1 _ y hy
            simp only [Option.some.injEq, Addr.mk.injEq, and_true] at e
            obtain ⟨rfl, rfl⟩ := e
            exact ⟨g, o + (i + 1), rfl, by rw [show o + (i + 1) + j = o + (i + 1 + j) by omega]; exact hc'⟩
          have SH0 : Hid (bs.length = i + 1 → Shows wr (some ⟨g, o, none⟩) (bs.drop (i + 1))) := fun e j y hy => by
            rw [List.getElem?_drop, List.getElem?_eq_none (by omega)] at hy; cases hy
          have hgB : g < B := HX.out.2.2.2.2 _ rfl
          have HC : Hid (∀ ad, (some (⟨g, o, none⟩ : Addr)) = some ad → ad.block < B) := fun ad e => by cases e; exact hgB
          have HC2 : Hid (∀ ad, (some (⟨g, o + (i + 1), none⟩ : Addr)) = some ad → ad.block < B) := fun ad e => by cases e; exact hgB
          have hlc := HX.out.2.2.1
          by_cases hi0 : i = 0
          · subst hi0
            have hx128 : ((x : Int) == 128) = false := by simp; omega
            simp only [Nat.add_zero] at hc
            go_wp2
            all_goals refine bodyPost_ret (v := .int .u64 ((k : Int) * 128 + (d : Int))) (by simp [results, Tryd.results35, go_sem]) rfl ?_
            · exact FIN.out (some ⟨g, o, none⟩) 0 (by omega) (Nat.zero_le _) (SH0.out (by omega)) HC.out
            · exact FIN.out (some ⟨g, o + 1, none⟩) (cap - 1) (by omega) (by omega) SH.out HC2.out
          · have hi1 : ((i : Int) == 0) = false := by simp; omega
            go_wp2
            all_goals refine bodyPost_ret (v := .int .u64 ((k : Int) * 128 + (d : Int))) (by simp [results, Tryd.results35, go_sem]) rfl ?_
            · exact FIN.out (some ⟨g, o, none⟩) 0 (by omega) (Nat.zero_le _) (SH0.out (by omega)) HC.out
            · exact FIN.out (some ⟨g, o + (i + 1), none⟩) (cap - (i + 1)) (by omega) (by omega) SH.out HC2.out
        · have hl1 : ¬ (x : Int) < 128 := by omega
          have HE2 : Hid (scan bs 0 0 = scan (bs.drop (i + 1)) (i + 1) (k * 128 + d)) := (by rw [HE.out, if_neg hlow] : scan bs 0 0 = scan (bs.drop (i + 1)) (i + 1) (k * 128 + d))
          have HKK : Hid (k * 128 + d < 128 ^ (i + 1)) := (by have h1 := HK.out; have h2 := HHD.out; rw [Nat.pow_succ]; omega : k * 128 + d < 128 ^ (i + 1))
          by_cases hi0 : i = 0
          · subst hi0
            by_cases hx1 : (x : Int) = 128
            · exact absurd (by omega : x = 128) (HNB.out rfl)
            · have hx128 : ((x : Int) == 128) = false := by simpa using hx1
              simp only [Nat.add_zero] at hc
              go_wp2
              exact ⟨⟨trivial, 1, k * 128 + d, by omega, by omega, by go_num, by simp, HKK.out, HE2.out⟩, by simp [intOf]; omega⟩
          · have hi1 : ((i : Int) == 0) = false := by simp; omega
            go_wp2
            exact ⟨⟨trivial, i + 1, k * 128 + d, by omega, by omega, by go_num, by simp, HKK.out, HE2.out⟩, by simp [intOf]; omega⟩
    · have he : scan bs 0 0 = (17, 0, 0) := by rw [hs, List.drop_of_length_le (by omega)]; rfl
      have HE := Lib.hid he
      have hin : i = bs.length := by omega
      rw [he]
      clear hs he
      go_wp2_with fail
      refine (lose_first B r bs 17 wr H.out hr).mono ?_
      rintro e w2 ⟨rfl, q1, q2⟩
      have HQ := Lib.hid (⟨q1, q2⟩ : _ ∧ _)
      clear q1 q2
      go_wp2
      go_ret
      rw [show rest bs = bs by unfold rest; rw [HE.out]; rfl, HE.out]
      exact ⟨rfl, HQ.out.1, HQ.out.2⟩
end Go.Proofs.YtdgcafohfedbhaaDoor.K
