import Derived.Test.YtdgcafohfedbhaaDoorF
namespace Go.Proofs.YtdgcafohfedbhaaDoor.T
open Go.RowKit Go.Joins
open Go.Proofs.YtdgcafohfedbhaaDoor.K
attribute [local go_sem] Oper.semAt_some
set_option linter.unusedVariables false
set_option linter.unusedSimpArgs false

/-! ### the frame at the beginning -/
def oneP (bs : List Nat) : List Nat × Nat × Int :=
  if bs.length < 4 then ([], 0, 17) else
  if (textS 200000 (bs.drop 4) 0).2.2 ≠ 0 then ([], 0, (textS 200000 (bs.drop 4) 0).2.2) else
  if csN ((bs.take (bs.length - (textS 200000 (bs.drop 4) 0).2.1.length)).drop 4) ≠ tld bs then ([], 0, 18) else
  ((textS 200000 (bs.drop 4) 0).1, bs.length - (textS 200000 (bs.drop 4) 0).2.1.length, 0)
theorem four {bs : List Nat} (h : ¬ bs.length < 4) : ∃ b0 b1 b2 b3 t, bs = b0 :: b1 :: b2 :: b3 :: t := by
  rcases bs with _ | ⟨b0, _ | ⟨b1, _ | ⟨b2, _ | ⟨b3, t⟩⟩⟩⟩
  · simp at h
  · simp at h
  · simp at h
  · simp at h
  · exact ⟨b0, b1, b2, b3, t, rfl⟩

theorem textS_len1 (most : Int) (bs : List Nat) (f : Int) : (textS most bs f).1.length ≤ bs.length := by
  unfold textS bytesS
  have := upS_len most bs f
  split
  · split
    · rw [List.length_take]; omega
    · simp
  · simp
theorem shows_below {w w' : World} {a : Option Addr} {bs : List Nat} (h : Shows w a bs) (hb : Below w.heap.size w w') : Shows w' a bs := fun i x hx => by
  obtain ⟨g, o, e, hc⟩ := h i x hx
  exact ⟨g, o, e, by rw [hb.cell (cell_block hc)]; exact hc⟩
theorem below_drewN {w w' : World} {B : Nat} (h : Below B w w') (n : Nat) : Below B w (w'.drewN n) := ⟨h.os, h.tape, h.output, h.size, h.block⟩
set_option maxRecDepth 100000 in
set_option maxHeartbeats 16000000 in
theorem one_any (a : Option Addr) (c : Nat) (bs : List Nat) (w : World) (h : Cut w w.heap.size (.slice a bs.length c) bs) (ho : Oct bs) (hl : bs.length ≤ 1000000) (hc : bs.length ≤ c) (hcm : c ≤ maxLen) (hN : NibAt w) :
    Calls Tryd.prog 18 #[.slice a bs.length c] w fun e w' => ∃ v, e = .returned (.tuple #[v, .int .i64 ((oneP bs).2.1 : Nat), .int .i64 (oneP bs).2.2]) ∧ Cut w' w'.heap.size v (oneP bs).1 ∧ Below w.heap.size w w' := by
  have hcm2 := hcm
  unfold maxLen at hcm2
  by_cases h4 : bs.length < 4
  · rw [show oneP bs = ([], 0, 17) from if_pos h4]
    have h4i : (bs.length : Int) < 4 := by omega
    go_enter Tryd.func18, Tryd.ntmps18
    go_wp2
    go_ret3
    exact ⟨_, rfl, cut_none _ _, Below.refl _ _⟩
  · have h4i : ¬ (bs.length : Int) < 4 := by omega
    have HH := Lib.hid h
    have HN := Lib.hid hN
    have HO := Lib.hid ho
    obtain ⟨b0, b1, b2, b3, t, hbs⟩ := four h4
    have HBS := Lib.hid hbs
    clear hbs
    obtain ⟨a', c', e, hsh, hbl⟩ := h
    cases e
    obtain ⟨g, o, rfl, _⟩ := hsh 0 b0 (by rw [HBS.out]; rfl)
    have HSH := Lib.hid hsh
    have hgl : g < w.heap.size := hbl _ rfl
    clear hN ho hsh hbl
    have n0 : (4 : Int) ≤ (bs.length : Int) := by omega
    have n1 : (4 : Int) ≤ (c : Int) := by omega
    have hdl : (bs.drop 4).length = bs.length - 4 := List.length_drop
    have HT : Hid (oneP bs = if (textS 200000 (bs.drop 4) 0).2.2 ≠ 0 then ([], 0, (textS 200000 (bs.drop 4) 0).2.2) else if csN ((bs.take (bs.length - (textS 200000 (bs.drop 4) 0).2.1.length)).drop 4) ≠ tld bs then ([], 0, 18) else ((textS 200000 (bs.drop 4) 0).1, bs.length - (textS 200000 (bs.drop 4) 0).2.1.length, 0)) := if_neg h4
    have HDO := Lib.hid (HO.out.drop 4)
    have HTO := Lib.hid (textS_oct (most := 200000) (f := 0) HDO.out)
    have htl := textS_len 200000 (bs.drop 4) 0
    rw [hdl] at htl
    -- what is opened
    obtain ⟨AD, hAD, hADs, hADb⟩ : ∃ AD : Option Addr, (if c = 4 then (some ⟨g, o, none⟩ : Option Addr) else some ⟨g, o + 4, none⟩) = AD ∧ Shows w AD (bs.drop 4) ∧ ∀ ad, AD = some ad → ad.block < w.heap.size := by
      by_cases hc4 : c = 4
      · refine ⟨some ⟨g, o, none⟩, if_pos hc4, ?_, fun ad e => by cases e; exact hgl⟩
        rw [List.drop_eq_nil_of_le (by omega)]
        exact Shows.nil _ _
      · exact ⟨some ⟨g, o + 4, none⟩, if_neg hc4, HSH.out.drop 4, fun ad e => by cases e; exact hgl⟩
    have HOP := Lib.hid (open_any AD (c - 4) (bs.drop 4) w (by rw [hdl]; omega) (by omega) hADs hADb)
    rw [hdl] at HOP
    clear hADs hADb
    have hcase : c = 4 ∧ AD = some ⟨g, o, none⟩ ∨ c ≠ 4 ∧ AD = some ⟨g, o + 4, none⟩ := by
      by_cases hc4 : c = 4
      · exact .inl ⟨hc4, by rw [← hAD, if_pos hc4]⟩
      · exact .inr ⟨hc4, by rw [← hAD, if_neg hc4]⟩
    clear hAD
    generalize hq : textS 200000 (bs.drop 4) 0 = q at *
    have HQ := Lib.hid hq
    obtain ⟨p, rs, f⟩ := q
    simp only at HT HTO htl
    clear hq
    rcases hcase with ⟨rfl, rfl⟩ | ⟨hc4, rfl⟩
    · -- nothing lies behind the four bytes
      have hf : f = 17 := by
        have h0 : bs.drop 4 = [] := List.drop_eq_nil_of_le (by omega)
        have h1 := HQ.out
        rw [h0] at h1
        have h2 : textS 200000 [] 0 = ([], [], 17) := by simp [textS, upS, numS, scan, rest, bytesS]
        rw [h2] at h1
        cases h1
        rfl
      subst hf
      rw [HT.out, if_pos (by decide)]
      have hz : bs.length - 4 = 0 := by omega
      rw [show 4 - 4 = 0 from rfl, hz] at HOP
      clear hz
      go_enter Tryd.func18, Tryd.ntmps18
      go_wp2_with fail
      refine HOP.out.mono ?_
      rintro e w1 ⟨rfl, hr1, hb1⟩
      have H1 := Lib.hid (⟨hr1, hb1⟩ : _ ∧ _)
      clear hr1 hb1
      go_wp2_with fail
      have HTT := Lib.hid (text_take w.heap.size w.heap.size (bs.drop 4) 0 200000 w1 HDO.out (by rw [hdl]; omega) H1.out.1 (Nat.le_refl _))
      rw [HQ.out] at HTT
      refine HTT.out.mono ?_
      rintro e w2 ⟨rfl, hr2, ht2⟩
      have H2 : Hid (ReelAt w2 w.heap.size w.heap.size rs 17 ∧ Below w.heap.size w w2) := ⟨hr2, H1.out.2.trans (ht2.below (Nat.le_refl _) H1.out.2.size)⟩
      clear hr2 ht2
      go_wp2_with fail
      refine (fail_any _ _ _ _ w2 H2.out.1).mono ?_
      rintro e w3 ⟨rfl, rfl⟩
      go_wp2
      go_ret3
      exact ⟨_, rfl, cut_none _ _, H2.out.2⟩
    · by_cases hf : f = 0
      · subst hf
        obtain ⟨sz, hsz⟩ : ∃ sz, bs.length - rs.length = sz := ⟨_, rfl⟩
        have hsz1 : (bs.length : Int) - (rs.length : Int) = (sz : Int) := by omega
        have hsz4 : 4 ≤ sz ∧ sz ≤ bs.length := by omega
        have HPC : Hid (csN ((bs.take sz).drop 4) = csN ((bs.take sz).drop 4)) := rfl
        have hbd : ((bs.take sz).drop 4).length = sz - 4 := by rw [List.length_drop, List.length_take]; omega
        have HBD := Lib.hid hbd
        have HOPO : Hid (Oct ((bs.take sz).drop 4)) := (HO.out.take sz).drop 4
        rw [hsz, if_neg (by simp)] at HT
        have m0 : (4 : Int) ≤ (sz : Int) := by omega
        have m1 : (sz : Int) ≤ (bs.length : Int) := by omega
        have m2 : (sz : Int) ≤ (c : Int) := by omega
        clear hsz hbd HPC
        go_enter Tryd.func18, Tryd.ntmps18
        go_wp2_with fail
        refine HOP.out.mono ?_
        rintro e w1 ⟨rfl, hr1, hb1⟩
        have H1 := Lib.hid (⟨hr1, hb1⟩ : _ ∧ _)
        clear hr1 hb1
        go_wp2_with fail
        have HTT := Lib.hid (text_take w.heap.size w.heap.size (bs.drop 4) 0 200000 w1 HDO.out (by rw [hdl]; omega) H1.out.1 (Nat.le_refl _))
        rw [HQ.out] at HTT
        refine HTT.out.mono ?_
        rintro e w2 ⟨rfl, hr2, ht2⟩
        have H2 : Hid (ReelAt w2 w.heap.size w.heap.size rs 0 ∧ Below w.heap.size w w2 ∧ NibAt w2) := ⟨hr2, H1.out.2.trans (ht2.below (Nat.le_refl _) H1.out.2.size), HN.out.below (H1.out.2.trans (ht2.below (Nat.le_refl _) H1.out.2.size)) HN.out.pos⟩
        clear hr2 ht2
        go_wp2_with fail
        refine (fail_any _ _ _ _ w2 H2.out.1).mono ?_
        rintro e w3 ⟨rfl, rfl⟩
        go_wp2_with fail
        refine (left_any _ _ _ _ w3 H2.out.1).mono ?_
        rintro e w4 ⟨rfl, rfl⟩
        go_wp2_with fail
        have HSUM := Lib.hid (sum_shows (some ⟨g, o + 4, none⟩) (c - 4) ((bs.take sz).drop 4) w4 (((shows_below HSH.out H2.out.2.1).take sz).drop 4) HOPO.out (by rw [HBD.out]; unfold maxLen; omega) H2.out.2.2)
        rw [HBD.out] at HSUM
        have HTD := Lib.hid (told_any (some ⟨g, o, none⟩) bs.length c b0 b1 b2 b3 t w4 (by rw [HBS.out]) (by rw [← HBS.out]; exact shows_below HSH.out H2.out.2.1) (by rw [← HBS.out]; exact HO.out) (by unfold maxLen; omega))
        rw [← HBS.out] at HTD
        have hs1 := csN_lt ((bs.take sz).drop 4)
        generalize csN ((bs.take sz).drop 4) = s1 at *
        generalize tld bs = s2 at *
        refine HSUM.out.mono ?_
        rintro e w5 ⟨rfl, rfl⟩
        go_wp2_with fail
        refine HTD.out.mono ?_
        rintro e w6 ⟨rfl, n, rfl⟩
        obtain ⟨cap7, w7, k7, q1, q2, q3, q4, q5⟩ := conv_str (strOf p) (w5.drewN n) (by rw [strOf_size]; have h1 := congrArg (fun q => q.1.length) HQ.out; simp only at h1; rw [← h1]; have := textS_len1 200000 (bs.drop 4) 0; rw [hdl] at this; unfold maxLen; omega)
        have H7 : Hid (Cut w7 w7.heap.size (.slice (some ⟨w5.heap.size, 0, none⟩) (strOf p).size cap7) p ∧ Below w.heap.size w w7) := by
          have h1 : bsOf (strOf p) = p := bsOf_strOf HTO.out.1
          rw [h1] at q4
          refine ⟨⟨_, cap7, by rw [strOf_size]; rfl, q4, fun ad e => by cases e; rw [q5]; exact Nat.lt_succ_self _⟩, (below_drewN H2.out.2.1 n).trans (q3.mono H2.out.2.1.size)⟩
        clear q1 q2 q3 q4 q5
        by_cases hcs : s1 = s2
        · subst hcs
          rw [if_neg (by simp)] at HT
          go_wp2
          go_ret3
          rw [HT.out]
          exact ⟨_, rfl, H7.out.1, H7.out.2⟩
        · have hne : ((s1 : Int) != (s2 : Int)) = true := by simp; omega
          rw [if_pos hcs] at HT
          clear k7 hcs
          go_wp2
          go_ret3
          rw [HT.out]
          exact ⟨_, rfl, cut_none _ _, below_drewN H2.out.2.1 n⟩
      · have hf2 : (f != 0) = true := by simpa using hf
        rw [HT.out, if_pos hf]
        go_enter Tryd.func18, Tryd.ntmps18
        go_wp2_with fail
        refine HOP.out.mono ?_
        rintro e w1 ⟨rfl, hr1, hb1⟩
        have H1 := Lib.hid (⟨hr1, hb1⟩ : _ ∧ _)
        clear hr1 hb1
        go_wp2_with fail
        have HTT := Lib.hid (text_take w.heap.size w.heap.size (bs.drop 4) 0 200000 w1 HDO.out (by rw [hdl]; omega) H1.out.1 (Nat.le_refl _))
        rw [HQ.out] at HTT
        refine HTT.out.mono ?_
        rintro e w2 ⟨rfl, hr2, ht2⟩
        have H2 : Hid (ReelAt w2 w.heap.size w.heap.size rs f ∧ Below w.heap.size w w2) := ⟨hr2, H1.out.2.trans (ht2.below (Nat.le_refl _) H1.out.2.size)⟩
        clear hr2 ht2
        go_wp2_with fail
        refine (fail_any _ _ _ _ w2 H2.out.1).mono ?_
        rintro e w3 ⟨rfl, rfl⟩
        go_wp2
        go_ret3
        exact ⟨_, rfl, cut_none _ _, H2.out.2⟩
end Go.Proofs.YtdgcafohfedbhaaDoor.T
